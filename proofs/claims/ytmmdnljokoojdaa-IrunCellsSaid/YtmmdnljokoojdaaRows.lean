/-
  No cell of these rows narrows 'for every input' (looked for: loops, veiled, ifaces, maps, wideKeys, modest, calm, conditions, laid).
  DERIVED. THE GIVEN ROWS OF THIS SEAT. 19 by the template 'for every input the law returns true; each argument reads behind the call as it read before'; 0 by the template 'total and deterministic' (their statements: YtmmdnljokoojdaaTotals.lean).
  GIVEN WITH THE SEED: the statements are not yours to turn. If you find one false, say at which input.
  Laid BY PROGRAM, IN A SANDBOX (cutbox-rows.mjs): the forced cells as the released guide's own fill.sh prints them over the translation 3f6623cefc5d99a2… (all of the seat's roots in one cut). By AI agents, Wed Nov 11 2026. No macro, syntax, notation, axiom, sorry.
-/
import Derived.Test.YtmmdnljokoojdaaChecked
import GoSem.Claim
import GoSem.ClaimJoined
import GoSem.ClaimMapViews
import Derived.JoinedTies
import Derived.KernelRfl
namespace Go.Proofs.Ytmmdnljokoojdaa
/- THE CELL 'sum', in the pinned program and in every row, IS THE sha256 OF THE DUMP (.gsa) THAT YtmmdnljokoojdaaProg.lean LOADS. Nothing in Lean hashes anything: it is a label: what it is worth is what the hold of that sum in a sandbox is worth. -/
noncomputable def Try.pinned : Pinned := { name := "ytmmdnljokoojdaa", sum := "3f6623cefc5d99a2cb69399dd795b0c8664cafe31dde0d528818ff8cfb75c0ab", checked := Try.checked }
namespace Rows
def none {H : Type} : Left H := { results := [], args := [] }

/-- 'carlinglaw09.FoldTells': WHATEVER THE INPUT: true; the input reads as it did. -/
def foldTellsSpec : ChangeSpec := { name := "foldTells", fn := fun _ => fun
  | [d] => { results := [.lit (.bool true)], args := [d] }
  | _ => none }
def foldTellsRow : OpenClaim := { program := "ytmmdnljokoojdaa", sum := "3f6623cefc5d99a2cb69399dd795b0c8664cafe31dde0d528818ff8cfb75c0ab", func := "carling/carlinglaw09.FoldTells", spec := "foldTells", inPlace := ["internal/bytealg.IndexByteString", "internal/bytealg.IndexString"], named := ["internal/bytealg.MaxLen"], apart := false }
def FoldTellsSaid : Prop := foldTellsRow.holds Try.pinned (OpenSpec.ofChange foldTellsSpec)

/-- ITS FALSE NEIGHBOUR: 'it returns false'. Refute it at one input. -/
def foldTellsWrong : ChangeSpec := { name := "foldTells", fn := fun _ => fun
  | [d] => { results := [.lit (.bool false)], args := [d] }
  | _ => none }
def FoldTellsWrongFalsely : Prop := foldTellsRow.holds Try.pinned (OpenSpec.ofChange foldTellsWrong)

/-- 'carlinglaw09.FoldAgain': WHATEVER THE INPUT: true; the input reads as it did. -/
def foldAgainSpec : ChangeSpec := { name := "foldAgain", fn := fun _ => fun
  | [d] => { results := [.lit (.bool true)], args := [d] }
  | _ => none }
def foldAgainRow : OpenClaim := { program := "ytmmdnljokoojdaa", sum := "3f6623cefc5d99a2cb69399dd795b0c8664cafe31dde0d528818ff8cfb75c0ab", func := "carling/carlinglaw09.FoldAgain", spec := "foldAgain", inPlace := ["internal/bytealg.IndexByteString", "internal/bytealg.IndexString"], named := ["internal/bytealg.MaxLen"], apart := false }
def FoldAgainSaid : Prop := foldAgainRow.holds Try.pinned (OpenSpec.ofChange foldAgainSpec)

/-- ITS FALSE NEIGHBOUR: 'it returns false'. Refute it at one input. -/
def foldAgainWrong : ChangeSpec := { name := "foldAgain", fn := fun _ => fun
  | [d] => { results := [.lit (.bool false)], args := [d] }
  | _ => none }
def FoldAgainWrongFalsely : Prop := foldAgainRow.holds Try.pinned (OpenSpec.ofChange foldAgainWrong)

/-- 'carlinglaw09.FoldKeeps': WHATEVER THE INPUT: true; the input reads as it did. -/
def foldKeepsSpec : ChangeSpec := { name := "foldKeeps", fn := fun _ => fun
  | [d] => { results := [.lit (.bool true)], args := [d] }
  | _ => none }
def foldKeepsRow : OpenClaim := { program := "ytmmdnljokoojdaa", sum := "3f6623cefc5d99a2cb69399dd795b0c8664cafe31dde0d528818ff8cfb75c0ab", func := "carling/carlinglaw09.FoldKeeps", spec := "foldKeeps", inPlace := ["internal/bytealg.IndexByteString", "internal/bytealg.IndexString"], named := ["internal/bytealg.MaxLen"], apart := false }
def FoldKeepsSaid : Prop := foldKeepsRow.holds Try.pinned (OpenSpec.ofChange foldKeepsSpec)

/-- ITS FALSE NEIGHBOUR: 'it returns false'. Refute it at one input. -/
def foldKeepsWrong : ChangeSpec := { name := "foldKeeps", fn := fun _ => fun
  | [d] => { results := [.lit (.bool false)], args := [d] }
  | _ => none }
def FoldKeepsWrongFalsely : Prop := foldKeepsRow.holds Try.pinned (OpenSpec.ofChange foldKeepsWrong)

/-- 'carlinglaw09.FoldBlock': WHATEVER THE INPUT: true; the input reads as it did. -/
def foldBlockSpec : ChangeSpec := { name := "foldBlock", fn := fun _ => fun
  | [d1, d2, d3] => { results := [.lit (.bool true)], args := [d1, d2, d3] }
  | _ => none }
def foldBlockRow : OpenClaim := { program := "ytmmdnljokoojdaa", sum := "3f6623cefc5d99a2cb69399dd795b0c8664cafe31dde0d528818ff8cfb75c0ab", func := "carling/carlinglaw09.FoldBlock", spec := "foldBlock", inPlace := ["internal/bytealg.IndexByteString", "internal/bytealg.IndexString"], named := ["internal/bytealg.MaxLen"], apart := false }
def FoldBlockSaid : Prop := foldBlockRow.holds Try.pinned (OpenSpec.ofChange foldBlockSpec)

/-- ITS FALSE NEIGHBOUR: 'it returns false'. Refute it at one input. -/
def foldBlockWrong : ChangeSpec := { name := "foldBlock", fn := fun _ => fun
  | [d1, d2, d3] => { results := [.lit (.bool false)], args := [d1, d2, d3] }
  | _ => none }
def FoldBlockWrongFalsely : Prop := foldBlockRow.holds Try.pinned (OpenSpec.ofChange foldBlockWrong)

/-- 'carlinglaw07.IrunRights': WHATEVER THE INPUT: true; the input reads as it did. -/
def irunRightsSpec : ChangeSpec := { name := "irunRights", fn := fun _ => fun
  | [d] => { results := [.lit (.bool true)], args := [d] }
  | _ => none }
def irunRightsRow : OpenClaim := { program := "ytmmdnljokoojdaa", sum := "3f6623cefc5d99a2cb69399dd795b0c8664cafe31dde0d528818ff8cfb75c0ab", func := "carling/carlinglaw07.IrunRights", spec := "irunRights", inPlace := ["internal/bytealg.IndexByteString", "internal/bytealg.IndexString"], unfollowed := true, recurses := true, named := ["internal/bytealg.MaxLen"], apart := false }
def IrunRightsSaid : Prop := irunRightsRow.holds Try.pinned (OpenSpec.ofChange irunRightsSpec)

/-- ITS FALSE NEIGHBOUR: 'it returns false'. Refute it at one input. -/
def irunRightsWrong : ChangeSpec := { name := "irunRights", fn := fun _ => fun
  | [d] => { results := [.lit (.bool false)], args := [d] }
  | _ => none }
def IrunRightsWrongFalsely : Prop := irunRightsRow.holds Try.pinned (OpenSpec.ofChange irunRightsWrong)

/-- 'carlinglaw07.IrunRuns': WHATEVER THE INPUT: true; the input reads as it did. -/
def irunRunsSpec : ChangeSpec := { name := "irunRuns", fn := fun _ => fun
  | [d1, d2, d3] => { results := [.lit (.bool true)], args := [d1, d2, d3] }
  | _ => none }
def irunRunsRow : OpenClaim := { program := "ytmmdnljokoojdaa", sum := "3f6623cefc5d99a2cb69399dd795b0c8664cafe31dde0d528818ff8cfb75c0ab", func := "carling/carlinglaw07.IrunRuns", spec := "irunRuns", inPlace := ["internal/bytealg.IndexByteString", "internal/bytealg.IndexString"], unfollowed := true, recurses := true, named := ["internal/bytealg.MaxLen"], apart := false }
def IrunRunsSaid : Prop := irunRunsRow.holds Try.pinned (OpenSpec.ofChange irunRunsSpec)

/-- ITS FALSE NEIGHBOUR: 'it returns false'. Refute it at one input. -/
def irunRunsWrong : ChangeSpec := { name := "irunRuns", fn := fun _ => fun
  | [d1, d2, d3] => { results := [.lit (.bool false)], args := [d1, d2, d3] }
  | _ => none }
def IrunRunsWrongFalsely : Prop := irunRunsRow.holds Try.pinned (OpenSpec.ofChange irunRunsWrong)

/-- 'carlinglaw07.IrunMore': WHATEVER THE INPUT: true; the input reads as it did. -/
def irunMoreSpec : ChangeSpec := { name := "irunMore", fn := fun _ => fun
  | [d1, d2] => { results := [.lit (.bool true)], args := [d1, d2] }
  | _ => none }
def irunMoreRow : OpenClaim := { program := "ytmmdnljokoojdaa", sum := "3f6623cefc5d99a2cb69399dd795b0c8664cafe31dde0d528818ff8cfb75c0ab", func := "carling/carlinglaw07.IrunMore", spec := "irunMore", inPlace := ["internal/bytealg.IndexByteString", "internal/bytealg.IndexString"], unfollowed := true, recurses := true, named := ["internal/bytealg.MaxLen"], apart := false }
def IrunMoreSaid : Prop := irunMoreRow.holds Try.pinned (OpenSpec.ofChange irunMoreSpec)

/-- ITS FALSE NEIGHBOUR: 'it returns false'. Refute it at one input. -/
def irunMoreWrong : ChangeSpec := { name := "irunMore", fn := fun _ => fun
  | [d1, d2] => { results := [.lit (.bool false)], args := [d1, d2] }
  | _ => none }
def IrunMoreWrongFalsely : Prop := irunMoreRow.holds Try.pinned (OpenSpec.ofChange irunMoreWrong)

/-- 'carlinglaw07.IrunOthers': WHATEVER THE INPUT: true; the input reads as it did. -/
def irunOthersSpec : ChangeSpec := { name := "irunOthers", fn := fun _ => fun
  | [d1, d2] => { results := [.lit (.bool true)], args := [d1, d2] }
  | _ => none }
def irunOthersRow : OpenClaim := { program := "ytmmdnljokoojdaa", sum := "3f6623cefc5d99a2cb69399dd795b0c8664cafe31dde0d528818ff8cfb75c0ab", func := "carling/carlinglaw07.IrunOthers", spec := "irunOthers", inPlace := ["internal/bytealg.IndexByteString", "internal/bytealg.IndexString"], unfollowed := true, recurses := true, named := ["internal/bytealg.MaxLen"], apart := false }
def IrunOthersSaid : Prop := irunOthersRow.holds Try.pinned (OpenSpec.ofChange irunOthersSpec)

/-- ITS FALSE NEIGHBOUR: 'it returns false'. Refute it at one input. -/
def irunOthersWrong : ChangeSpec := { name := "irunOthers", fn := fun _ => fun
  | [d1, d2] => { results := [.lit (.bool false)], args := [d1, d2] }
  | _ => none }
def IrunOthersWrongFalsely : Prop := irunOthersRow.holds Try.pinned (OpenSpec.ofChange irunOthersWrong)

/-- 'carlinglaw07.IrunBranch': WHATEVER THE INPUT: true; the input reads as it did. -/
def irunBranchSpec : ChangeSpec := { name := "irunBranch", fn := fun _ => fun
  | [d1, d2, d3] => { results := [.lit (.bool true)], args := [d1, d2, d3] }
  | _ => none }
def irunBranchRow : OpenClaim := { program := "ytmmdnljokoojdaa", sum := "3f6623cefc5d99a2cb69399dd795b0c8664cafe31dde0d528818ff8cfb75c0ab", func := "carling/carlinglaw07.IrunBranch", spec := "irunBranch", inPlace := ["internal/bytealg.IndexByteString", "internal/bytealg.IndexString"], unfollowed := true, recurses := true, named := ["internal/bytealg.MaxLen"], apart := false }
def IrunBranchSaid : Prop := irunBranchRow.holds Try.pinned (OpenSpec.ofChange irunBranchSpec)

/-- ITS FALSE NEIGHBOUR: 'it returns false'. Refute it at one input. -/
def irunBranchWrong : ChangeSpec := { name := "irunBranch", fn := fun _ => fun
  | [d1, d2, d3] => { results := [.lit (.bool false)], args := [d1, d2, d3] }
  | _ => none }
def IrunBranchWrongFalsely : Prop := irunBranchRow.holds Try.pinned (OpenSpec.ofChange irunBranchWrong)

/-- 'carlinglaw07.IrunCells': WHATEVER THE INPUT: true; the input reads as it did. -/
def irunCellsSpec : ChangeSpec := { name := "irunCells", fn := fun _ => fun
  | [d1, d2, d3] => { results := [.lit (.bool true)], args := [d1, d2, d3] }
  | _ => none }
def irunCellsRow : OpenClaim := { program := "ytmmdnljokoojdaa", sum := "3f6623cefc5d99a2cb69399dd795b0c8664cafe31dde0d528818ff8cfb75c0ab", func := "carling/carlinglaw07.IrunCells", spec := "irunCells", inPlace := ["internal/bytealg.IndexByteString", "internal/bytealg.IndexString"], unfollowed := true, recurses := true, named := ["internal/bytealg.MaxLen"], apart := false }
def IrunCellsSaid : Prop := irunCellsRow.holds Try.pinned (OpenSpec.ofChange irunCellsSpec)

/-- ITS FALSE NEIGHBOUR: 'it returns false'. Refute it at one input. -/
def irunCellsWrong : ChangeSpec := { name := "irunCells", fn := fun _ => fun
  | [d1, d2, d3] => { results := [.lit (.bool false)], args := [d1, d2, d3] }
  | _ => none }
def IrunCellsWrongFalsely : Prop := irunCellsRow.holds Try.pinned (OpenSpec.ofChange irunCellsWrong)

/-- 'carlinglaw07.IrunDeep': WHATEVER THE INPUT: true; the input reads as it did. -/
def irunDeepSpec : ChangeSpec := { name := "irunDeep", fn := fun _ => fun
  | [d1, d2] => { results := [.lit (.bool true)], args := [d1, d2] }
  | _ => none }
def irunDeepRow : OpenClaim := { program := "ytmmdnljokoojdaa", sum := "3f6623cefc5d99a2cb69399dd795b0c8664cafe31dde0d528818ff8cfb75c0ab", func := "carling/carlinglaw07.IrunDeep", spec := "irunDeep", inPlace := ["internal/bytealg.IndexByteString", "internal/bytealg.IndexString"], unfollowed := true, recurses := true, named := ["internal/bytealg.MaxLen"], apart := false }
def IrunDeepSaid : Prop := irunDeepRow.holds Try.pinned (OpenSpec.ofChange irunDeepSpec)

/-- ITS FALSE NEIGHBOUR: 'it returns false'. Refute it at one input. -/
def irunDeepWrong : ChangeSpec := { name := "irunDeep", fn := fun _ => fun
  | [d1, d2] => { results := [.lit (.bool false)], args := [d1, d2] }
  | _ => none }
def IrunDeepWrongFalsely : Prop := irunDeepRow.holds Try.pinned (OpenSpec.ofChange irunDeepWrong)

/-- 'carlinglaw09.FoldRuns': WHATEVER THE INPUT: true; the input reads as it did. -/
def foldRunsSpec : ChangeSpec := { name := "foldRuns", fn := fun _ => fun
  | [d1, d2] => { results := [.lit (.bool true)], args := [d1, d2] }
  | _ => none }
def foldRunsRow : OpenClaim := { program := "ytmmdnljokoojdaa", sum := "3f6623cefc5d99a2cb69399dd795b0c8664cafe31dde0d528818ff8cfb75c0ab", func := "carling/carlinglaw09.FoldRuns", spec := "foldRuns", inPlace := ["internal/bytealg.IndexByteString", "internal/bytealg.IndexString"], unfollowed := true, recurses := true, named := ["internal/bytealg.MaxLen"], apart := false }
def FoldRunsSaid : Prop := foldRunsRow.holds Try.pinned (OpenSpec.ofChange foldRunsSpec)

/-- ITS FALSE NEIGHBOUR: 'it returns false'. Refute it at one input. -/
def foldRunsWrong : ChangeSpec := { name := "foldRuns", fn := fun _ => fun
  | [d1, d2] => { results := [.lit (.bool false)], args := [d1, d2] }
  | _ => none }
def FoldRunsWrongFalsely : Prop := foldRunsRow.holds Try.pinned (OpenSpec.ofChange foldRunsWrong)

/-- 'carlinglaw09.FoldWhole': WHATEVER THE INPUT: true; the input reads as it did. -/
def foldWholeSpec : ChangeSpec := { name := "foldWhole", fn := fun _ => fun
  | [d1, d2] => { results := [.lit (.bool true)], args := [d1, d2] }
  | _ => none }
def foldWholeRow : OpenClaim := { program := "ytmmdnljokoojdaa", sum := "3f6623cefc5d99a2cb69399dd795b0c8664cafe31dde0d528818ff8cfb75c0ab", func := "carling/carlinglaw09.FoldWhole", spec := "foldWhole", inPlace := ["internal/bytealg.IndexByteString", "internal/bytealg.IndexString"], unfollowed := true, recurses := true, named := ["internal/bytealg.MaxLen"], apart := false }
def FoldWholeSaid : Prop := foldWholeRow.holds Try.pinned (OpenSpec.ofChange foldWholeSpec)

/-- ITS FALSE NEIGHBOUR: 'it returns false'. Refute it at one input. -/
def foldWholeWrong : ChangeSpec := { name := "foldWhole", fn := fun _ => fun
  | [d1, d2] => { results := [.lit (.bool false)], args := [d1, d2] }
  | _ => none }
def FoldWholeWrongFalsely : Prop := foldWholeRow.holds Try.pinned (OpenSpec.ofChange foldWholeWrong)

/-- 'carlinglaw10.DeadDrops': WHATEVER THE INPUT: true; the input reads as it did. -/
def deadDropsSpec : ChangeSpec := { name := "deadDrops", fn := fun _ => fun
  | [d] => { results := [.lit (.bool true)], args := [d] }
  | _ => none }
def deadDropsRow : OpenClaim := { program := "ytmmdnljokoojdaa", sum := "3f6623cefc5d99a2cb69399dd795b0c8664cafe31dde0d528818ff8cfb75c0ab", func := "carling/carlinglaw10.DeadDrops", spec := "deadDrops", inPlace := ["internal/bytealg.IndexByteString", "internal/bytealg.IndexString"], recurses := true, named := ["internal/bytealg.MaxLen"], apart := false }
def DeadDropsSaid : Prop := deadDropsRow.holds Try.pinned (OpenSpec.ofChange deadDropsSpec)

/-- ITS FALSE NEIGHBOUR: 'it returns false'. Refute it at one input. -/
def deadDropsWrong : ChangeSpec := { name := "deadDrops", fn := fun _ => fun
  | [d] => { results := [.lit (.bool false)], args := [d] }
  | _ => none }
def DeadDropsWrongFalsely : Prop := deadDropsRow.holds Try.pinned (OpenSpec.ofChange deadDropsWrong)

/-- 'carlinglaw10.DeadReads': WHATEVER THE INPUT: true; the input reads as it did. -/
def deadReadsSpec : ChangeSpec := { name := "deadReads", fn := fun _ => fun
  | [d1, d2] => { results := [.lit (.bool true)], args := [d1, d2] }
  | _ => none }
def deadReadsRow : OpenClaim := { program := "ytmmdnljokoojdaa", sum := "3f6623cefc5d99a2cb69399dd795b0c8664cafe31dde0d528818ff8cfb75c0ab", func := "carling/carlinglaw10.DeadReads", spec := "deadReads", inPlace := ["internal/bytealg.IndexByteString", "internal/bytealg.IndexString"], recurses := true, named := ["internal/bytealg.MaxLen"], apart := false }
def DeadReadsSaid : Prop := deadReadsRow.holds Try.pinned (OpenSpec.ofChange deadReadsSpec)

/-- ITS FALSE NEIGHBOUR: 'it returns false'. Refute it at one input. -/
def deadReadsWrong : ChangeSpec := { name := "deadReads", fn := fun _ => fun
  | [d1, d2] => { results := [.lit (.bool false)], args := [d1, d2] }
  | _ => none }
def DeadReadsWrongFalsely : Prop := deadReadsRow.holds Try.pinned (OpenSpec.ofChange deadReadsWrong)

/-- 'carlinglaw10.DeadAgain': WHATEVER THE INPUT: true; the input reads as it did. -/
def deadAgainSpec : ChangeSpec := { name := "deadAgain", fn := fun _ => fun
  | [d] => { results := [.lit (.bool true)], args := [d] }
  | _ => none }
def deadAgainRow : OpenClaim := { program := "ytmmdnljokoojdaa", sum := "3f6623cefc5d99a2cb69399dd795b0c8664cafe31dde0d528818ff8cfb75c0ab", func := "carling/carlinglaw10.DeadAgain", spec := "deadAgain", inPlace := ["internal/bytealg.IndexByteString", "internal/bytealg.IndexString"], recurses := true, named := ["internal/bytealg.MaxLen"], apart := false }
def DeadAgainSaid : Prop := deadAgainRow.holds Try.pinned (OpenSpec.ofChange deadAgainSpec)

/-- ITS FALSE NEIGHBOUR: 'it returns false'. Refute it at one input. -/
def deadAgainWrong : ChangeSpec := { name := "deadAgain", fn := fun _ => fun
  | [d] => { results := [.lit (.bool false)], args := [d] }
  | _ => none }
def DeadAgainWrongFalsely : Prop := deadAgainRow.holds Try.pinned (OpenSpec.ofChange deadAgainWrong)

/-- 'carlinglaw10.DeadFewer': WHATEVER THE INPUT: true; the input reads as it did. -/
def deadFewerSpec : ChangeSpec := { name := "deadFewer", fn := fun _ => fun
  | [d1, d2] => { results := [.lit (.bool true)], args := [d1, d2] }
  | _ => none }
def deadFewerRow : OpenClaim := { program := "ytmmdnljokoojdaa", sum := "3f6623cefc5d99a2cb69399dd795b0c8664cafe31dde0d528818ff8cfb75c0ab", func := "carling/carlinglaw10.DeadFewer", spec := "deadFewer", inPlace := ["internal/bytealg.IndexByteString", "internal/bytealg.IndexString"], recurses := true, named := ["internal/bytealg.MaxLen"], apart := false }
def DeadFewerSaid : Prop := deadFewerRow.holds Try.pinned (OpenSpec.ofChange deadFewerSpec)

/-- ITS FALSE NEIGHBOUR: 'it returns false'. Refute it at one input. -/
def deadFewerWrong : ChangeSpec := { name := "deadFewer", fn := fun _ => fun
  | [d1, d2] => { results := [.lit (.bool false)], args := [d1, d2] }
  | _ => none }
def DeadFewerWrongFalsely : Prop := deadFewerRow.holds Try.pinned (OpenSpec.ofChange deadFewerWrong)

/-- 'carlinglaw10.DeadChain': WHATEVER THE INPUT: true; the input reads as it did. -/
def deadChainSpec : ChangeSpec := { name := "deadChain", fn := fun _ => fun
  | [d1, d2] => { results := [.lit (.bool true)], args := [d1, d2] }
  | _ => none }
def deadChainRow : OpenClaim := { program := "ytmmdnljokoojdaa", sum := "3f6623cefc5d99a2cb69399dd795b0c8664cafe31dde0d528818ff8cfb75c0ab", func := "carling/carlinglaw10.DeadChain", spec := "deadChain", inPlace := ["internal/bytealg.IndexByteString", "internal/bytealg.IndexString"], recurses := true, named := ["internal/bytealg.MaxLen"], apart := false }
def DeadChainSaid : Prop := deadChainRow.holds Try.pinned (OpenSpec.ofChange deadChainSpec)

/-- ITS FALSE NEIGHBOUR: 'it returns false'. Refute it at one input. -/
def deadChainWrong : ChangeSpec := { name := "deadChain", fn := fun _ => fun
  | [d1, d2] => { results := [.lit (.bool false)], args := [d1, d2] }
  | _ => none }
def DeadChainWrongFalsely : Prop := deadChainRow.holds Try.pinned (OpenSpec.ofChange deadChainWrong)

/-- 'carlinglaw10.DeadRuns': WHATEVER THE INPUT: true; the input reads as it did. -/
def deadRunsSpec : ChangeSpec := { name := "deadRuns", fn := fun _ => fun
  | [d1, d2] => { results := [.lit (.bool true)], args := [d1, d2] }
  | _ => none }
def deadRunsRow : OpenClaim := { program := "ytmmdnljokoojdaa", sum := "3f6623cefc5d99a2cb69399dd795b0c8664cafe31dde0d528818ff8cfb75c0ab", func := "carling/carlinglaw10.DeadRuns", spec := "deadRuns", inPlace := ["internal/bytealg.IndexByteString", "internal/bytealg.IndexString"], unfollowed := true, recurses := true, named := ["internal/bytealg.MaxLen"], apart := false }
def DeadRunsSaid : Prop := deadRunsRow.holds Try.pinned (OpenSpec.ofChange deadRunsSpec)

/-- ITS FALSE NEIGHBOUR: 'it returns false'. Refute it at one input. -/
def deadRunsWrong : ChangeSpec := { name := "deadRuns", fn := fun _ => fun
  | [d1, d2] => { results := [.lit (.bool false)], args := [d1, d2] }
  | _ => none }
def DeadRunsWrongFalsely : Prop := deadRunsRow.holds Try.pinned (OpenSpec.ofChange deadRunsWrong)

/- THE SECOND FORM. 'bulk': how many values and letters a reading holds, each counted each time it is reached (what is shared counts as often as it is met; a slice's spare places count too). A statement '..UptoSaid' is the law's where the arguments, and the package variables that the reading takes, are together of bulk at most 1048576: NARROWER than '..Said'. Prove '..Said' where nothing that the law and all that it calls make is longer than what came in: it says more and counts as full. Else prove '..UptoSaid'. A law counts once. -/
mutual
def uptoBulk {H : Type} : DataW H → Nat
  | .lit (.string bytes) => bytes.length + 1
  | .lit _ => 1
  | .nil => 1
  | .ptr d => uptoBulk d + 1
  | .slice elems spare => uptoBulkAll elems + uptoBulkAll spare + 1
  | .agg parts => uptoBulkAll parts + 1
  | .iface _ d => uptoBulk d + 1
  | .map entries => uptoBulkEntries entries + 1
  | .held _ => 1
def uptoBulkAll {H : Type} : List (DataW H) → Nat
  | [] => 0
  | d :: r => uptoBulk d + uptoBulkAll r
def uptoBulkEntries {H : Type} : List (Lit × DataW H) → Nat
  | [] => 0
  | x :: r => uptoBulkEntry x + uptoBulkEntries r
def uptoBulkEntry {H : Type} : Lit × DataW H → Nat
  | (.string bytes, d) => bytes.length + uptoBulk d + 1
  | (_, d) => uptoBulk d + 1
 end
def uptoSmall : (H : Type) → List (DataW H) → Bool := fun _ ds => decide (uptoBulkAll ds ≤ 1048576)
def OpenSpec.upto (s : _root_.Go.ChangeSpec) : _root_.Go.OpenSpec := { _root_.Go.OpenSpec.ofChange s with cond := some uptoSmall }

/-- 'carlinglaw09.FoldTells', WHERE WHAT IT READS IS OF BULK AT MOST 1048576: true; the input reads as it did. -/
def foldTellsUptoRow : OpenClaim := { program := "ytmmdnljokoojdaa", sum := "3f6623cefc5d99a2cb69399dd795b0c8664cafe31dde0d528818ff8cfb75c0ab", func := "carling/carlinglaw09.FoldTells", spec := "foldTells", inPlace := ["internal/bytealg.IndexByteString", "internal/bytealg.IndexString"], named := ["internal/bytealg.MaxLen"], apart := false, narrowed := true }
def FoldTellsUptoSaid : Prop := foldTellsUptoRow.holds Try.pinned (OpenSpec.upto foldTellsSpec)

/-- 'carlinglaw09.FoldAgain', WHERE WHAT IT READS IS OF BULK AT MOST 1048576: true; the input reads as it did. -/
def foldAgainUptoRow : OpenClaim := { program := "ytmmdnljokoojdaa", sum := "3f6623cefc5d99a2cb69399dd795b0c8664cafe31dde0d528818ff8cfb75c0ab", func := "carling/carlinglaw09.FoldAgain", spec := "foldAgain", inPlace := ["internal/bytealg.IndexByteString", "internal/bytealg.IndexString"], named := ["internal/bytealg.MaxLen"], apart := false, narrowed := true }
def FoldAgainUptoSaid : Prop := foldAgainUptoRow.holds Try.pinned (OpenSpec.upto foldAgainSpec)

/-- 'carlinglaw09.FoldKeeps', WHERE WHAT IT READS IS OF BULK AT MOST 1048576: true; the input reads as it did. -/
def foldKeepsUptoRow : OpenClaim := { program := "ytmmdnljokoojdaa", sum := "3f6623cefc5d99a2cb69399dd795b0c8664cafe31dde0d528818ff8cfb75c0ab", func := "carling/carlinglaw09.FoldKeeps", spec := "foldKeeps", inPlace := ["internal/bytealg.IndexByteString", "internal/bytealg.IndexString"], named := ["internal/bytealg.MaxLen"], apart := false, narrowed := true }
def FoldKeepsUptoSaid : Prop := foldKeepsUptoRow.holds Try.pinned (OpenSpec.upto foldKeepsSpec)

/-- 'carlinglaw09.FoldBlock', WHERE WHAT IT READS IS OF BULK AT MOST 1048576: true; the input reads as it did. -/
def foldBlockUptoRow : OpenClaim := { program := "ytmmdnljokoojdaa", sum := "3f6623cefc5d99a2cb69399dd795b0c8664cafe31dde0d528818ff8cfb75c0ab", func := "carling/carlinglaw09.FoldBlock", spec := "foldBlock", inPlace := ["internal/bytealg.IndexByteString", "internal/bytealg.IndexString"], named := ["internal/bytealg.MaxLen"], apart := false, narrowed := true }
def FoldBlockUptoSaid : Prop := foldBlockUptoRow.holds Try.pinned (OpenSpec.upto foldBlockSpec)

/-- 'carlinglaw07.IrunRights', WHERE WHAT IT READS IS OF BULK AT MOST 1048576: true; the input reads as it did. -/
def irunRightsUptoRow : OpenClaim := { program := "ytmmdnljokoojdaa", sum := "3f6623cefc5d99a2cb69399dd795b0c8664cafe31dde0d528818ff8cfb75c0ab", func := "carling/carlinglaw07.IrunRights", spec := "irunRights", inPlace := ["internal/bytealg.IndexByteString", "internal/bytealg.IndexString"], unfollowed := true, recurses := true, named := ["internal/bytealg.MaxLen"], apart := false, narrowed := true }
def IrunRightsUptoSaid : Prop := irunRightsUptoRow.holds Try.pinned (OpenSpec.upto irunRightsSpec)

/-- 'carlinglaw07.IrunRuns', WHERE WHAT IT READS IS OF BULK AT MOST 1048576: true; the input reads as it did. -/
def irunRunsUptoRow : OpenClaim := { program := "ytmmdnljokoojdaa", sum := "3f6623cefc5d99a2cb69399dd795b0c8664cafe31dde0d528818ff8cfb75c0ab", func := "carling/carlinglaw07.IrunRuns", spec := "irunRuns", inPlace := ["internal/bytealg.IndexByteString", "internal/bytealg.IndexString"], unfollowed := true, recurses := true, named := ["internal/bytealg.MaxLen"], apart := false, narrowed := true }
def IrunRunsUptoSaid : Prop := irunRunsUptoRow.holds Try.pinned (OpenSpec.upto irunRunsSpec)

/-- 'carlinglaw07.IrunMore', WHERE WHAT IT READS IS OF BULK AT MOST 1048576: true; the input reads as it did. -/
def irunMoreUptoRow : OpenClaim := { program := "ytmmdnljokoojdaa", sum := "3f6623cefc5d99a2cb69399dd795b0c8664cafe31dde0d528818ff8cfb75c0ab", func := "carling/carlinglaw07.IrunMore", spec := "irunMore", inPlace := ["internal/bytealg.IndexByteString", "internal/bytealg.IndexString"], unfollowed := true, recurses := true, named := ["internal/bytealg.MaxLen"], apart := false, narrowed := true }
def IrunMoreUptoSaid : Prop := irunMoreUptoRow.holds Try.pinned (OpenSpec.upto irunMoreSpec)

/-- 'carlinglaw07.IrunOthers', WHERE WHAT IT READS IS OF BULK AT MOST 1048576: true; the input reads as it did. -/
def irunOthersUptoRow : OpenClaim := { program := "ytmmdnljokoojdaa", sum := "3f6623cefc5d99a2cb69399dd795b0c8664cafe31dde0d528818ff8cfb75c0ab", func := "carling/carlinglaw07.IrunOthers", spec := "irunOthers", inPlace := ["internal/bytealg.IndexByteString", "internal/bytealg.IndexString"], unfollowed := true, recurses := true, named := ["internal/bytealg.MaxLen"], apart := false, narrowed := true }
def IrunOthersUptoSaid : Prop := irunOthersUptoRow.holds Try.pinned (OpenSpec.upto irunOthersSpec)

/-- 'carlinglaw07.IrunBranch', WHERE WHAT IT READS IS OF BULK AT MOST 1048576: true; the input reads as it did. -/
def irunBranchUptoRow : OpenClaim := { program := "ytmmdnljokoojdaa", sum := "3f6623cefc5d99a2cb69399dd795b0c8664cafe31dde0d528818ff8cfb75c0ab", func := "carling/carlinglaw07.IrunBranch", spec := "irunBranch", inPlace := ["internal/bytealg.IndexByteString", "internal/bytealg.IndexString"], unfollowed := true, recurses := true, named := ["internal/bytealg.MaxLen"], apart := false, narrowed := true }
def IrunBranchUptoSaid : Prop := irunBranchUptoRow.holds Try.pinned (OpenSpec.upto irunBranchSpec)

/-- 'carlinglaw07.IrunCells', WHERE WHAT IT READS IS OF BULK AT MOST 1048576: true; the input reads as it did. -/
def irunCellsUptoRow : OpenClaim := { program := "ytmmdnljokoojdaa", sum := "3f6623cefc5d99a2cb69399dd795b0c8664cafe31dde0d528818ff8cfb75c0ab", func := "carling/carlinglaw07.IrunCells", spec := "irunCells", inPlace := ["internal/bytealg.IndexByteString", "internal/bytealg.IndexString"], unfollowed := true, recurses := true, named := ["internal/bytealg.MaxLen"], apart := false, narrowed := true }
def IrunCellsUptoSaid : Prop := irunCellsUptoRow.holds Try.pinned (OpenSpec.upto irunCellsSpec)

/-- 'carlinglaw07.IrunDeep', WHERE WHAT IT READS IS OF BULK AT MOST 1048576: true; the input reads as it did. -/
def irunDeepUptoRow : OpenClaim := { program := "ytmmdnljokoojdaa", sum := "3f6623cefc5d99a2cb69399dd795b0c8664cafe31dde0d528818ff8cfb75c0ab", func := "carling/carlinglaw07.IrunDeep", spec := "irunDeep", inPlace := ["internal/bytealg.IndexByteString", "internal/bytealg.IndexString"], unfollowed := true, recurses := true, named := ["internal/bytealg.MaxLen"], apart := false, narrowed := true }
def IrunDeepUptoSaid : Prop := irunDeepUptoRow.holds Try.pinned (OpenSpec.upto irunDeepSpec)

/-- 'carlinglaw09.FoldRuns', WHERE WHAT IT READS IS OF BULK AT MOST 1048576: true; the input reads as it did. -/
def foldRunsUptoRow : OpenClaim := { program := "ytmmdnljokoojdaa", sum := "3f6623cefc5d99a2cb69399dd795b0c8664cafe31dde0d528818ff8cfb75c0ab", func := "carling/carlinglaw09.FoldRuns", spec := "foldRuns", inPlace := ["internal/bytealg.IndexByteString", "internal/bytealg.IndexString"], unfollowed := true, recurses := true, named := ["internal/bytealg.MaxLen"], apart := false, narrowed := true }
def FoldRunsUptoSaid : Prop := foldRunsUptoRow.holds Try.pinned (OpenSpec.upto foldRunsSpec)

/-- 'carlinglaw09.FoldWhole', WHERE WHAT IT READS IS OF BULK AT MOST 1048576: true; the input reads as it did. -/
def foldWholeUptoRow : OpenClaim := { program := "ytmmdnljokoojdaa", sum := "3f6623cefc5d99a2cb69399dd795b0c8664cafe31dde0d528818ff8cfb75c0ab", func := "carling/carlinglaw09.FoldWhole", spec := "foldWhole", inPlace := ["internal/bytealg.IndexByteString", "internal/bytealg.IndexString"], unfollowed := true, recurses := true, named := ["internal/bytealg.MaxLen"], apart := false, narrowed := true }
def FoldWholeUptoSaid : Prop := foldWholeUptoRow.holds Try.pinned (OpenSpec.upto foldWholeSpec)

/-- 'carlinglaw10.DeadDrops', WHERE WHAT IT READS IS OF BULK AT MOST 1048576: true; the input reads as it did. -/
def deadDropsUptoRow : OpenClaim := { program := "ytmmdnljokoojdaa", sum := "3f6623cefc5d99a2cb69399dd795b0c8664cafe31dde0d528818ff8cfb75c0ab", func := "carling/carlinglaw10.DeadDrops", spec := "deadDrops", inPlace := ["internal/bytealg.IndexByteString", "internal/bytealg.IndexString"], recurses := true, named := ["internal/bytealg.MaxLen"], apart := false, narrowed := true }
def DeadDropsUptoSaid : Prop := deadDropsUptoRow.holds Try.pinned (OpenSpec.upto deadDropsSpec)

/-- 'carlinglaw10.DeadReads', WHERE WHAT IT READS IS OF BULK AT MOST 1048576: true; the input reads as it did. -/
def deadReadsUptoRow : OpenClaim := { program := "ytmmdnljokoojdaa", sum := "3f6623cefc5d99a2cb69399dd795b0c8664cafe31dde0d528818ff8cfb75c0ab", func := "carling/carlinglaw10.DeadReads", spec := "deadReads", inPlace := ["internal/bytealg.IndexByteString", "internal/bytealg.IndexString"], recurses := true, named := ["internal/bytealg.MaxLen"], apart := false, narrowed := true }
def DeadReadsUptoSaid : Prop := deadReadsUptoRow.holds Try.pinned (OpenSpec.upto deadReadsSpec)

/-- 'carlinglaw10.DeadAgain', WHERE WHAT IT READS IS OF BULK AT MOST 1048576: true; the input reads as it did. -/
def deadAgainUptoRow : OpenClaim := { program := "ytmmdnljokoojdaa", sum := "3f6623cefc5d99a2cb69399dd795b0c8664cafe31dde0d528818ff8cfb75c0ab", func := "carling/carlinglaw10.DeadAgain", spec := "deadAgain", inPlace := ["internal/bytealg.IndexByteString", "internal/bytealg.IndexString"], recurses := true, named := ["internal/bytealg.MaxLen"], apart := false, narrowed := true }
def DeadAgainUptoSaid : Prop := deadAgainUptoRow.holds Try.pinned (OpenSpec.upto deadAgainSpec)

/-- 'carlinglaw10.DeadFewer', WHERE WHAT IT READS IS OF BULK AT MOST 1048576: true; the input reads as it did. -/
def deadFewerUptoRow : OpenClaim := { program := "ytmmdnljokoojdaa", sum := "3f6623cefc5d99a2cb69399dd795b0c8664cafe31dde0d528818ff8cfb75c0ab", func := "carling/carlinglaw10.DeadFewer", spec := "deadFewer", inPlace := ["internal/bytealg.IndexByteString", "internal/bytealg.IndexString"], recurses := true, named := ["internal/bytealg.MaxLen"], apart := false, narrowed := true }
def DeadFewerUptoSaid : Prop := deadFewerUptoRow.holds Try.pinned (OpenSpec.upto deadFewerSpec)

/-- 'carlinglaw10.DeadChain', WHERE WHAT IT READS IS OF BULK AT MOST 1048576: true; the input reads as it did. -/
def deadChainUptoRow : OpenClaim := { program := "ytmmdnljokoojdaa", sum := "3f6623cefc5d99a2cb69399dd795b0c8664cafe31dde0d528818ff8cfb75c0ab", func := "carling/carlinglaw10.DeadChain", spec := "deadChain", inPlace := ["internal/bytealg.IndexByteString", "internal/bytealg.IndexString"], recurses := true, named := ["internal/bytealg.MaxLen"], apart := false, narrowed := true }
def DeadChainUptoSaid : Prop := deadChainUptoRow.holds Try.pinned (OpenSpec.upto deadChainSpec)

/-- 'carlinglaw10.DeadRuns', WHERE WHAT IT READS IS OF BULK AT MOST 1048576: true; the input reads as it did. -/
def deadRunsUptoRow : OpenClaim := { program := "ytmmdnljokoojdaa", sum := "3f6623cefc5d99a2cb69399dd795b0c8664cafe31dde0d528818ff8cfb75c0ab", func := "carling/carlinglaw10.DeadRuns", spec := "deadRuns", inPlace := ["internal/bytealg.IndexByteString", "internal/bytealg.IndexString"], unfollowed := true, recurses := true, named := ["internal/bytealg.MaxLen"], apart := false, narrowed := true }
def DeadRunsUptoSaid : Prop := deadRunsUptoRow.holds Try.pinned (OpenSpec.upto deadRunsSpec)

end Rows
end Go.Proofs.Ytmmdnljokoojdaa
