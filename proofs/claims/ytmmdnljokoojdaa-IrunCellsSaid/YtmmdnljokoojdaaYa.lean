/- Contracts: the machine that runs functions that are lowered, and each of its instructions. No condition: these are lemmas for the laws. -/
import Derived.Test.YtmmdnljokoojdaaXb
import Derived.Test.YtmmdnljokoojdaaVd
import Derived.Test.YtmmdnljokoojdaaXe
import Derived.Test.YtmmdnljokoojdaaXd
set_option linter.unusedVariables false
set_option linter.unusedSimpArgs false
namespace Go.Vx
open Go.Proofs

/-- A runner: what is left, which way its branches went, what went wrong. -/
structure Rn where
  left : Nat
  went : List Int
  wrong : Int
/-- A frame: registers, cells, the next instruction, is it over? -/
structure Fr where
  regs : List Int
  cells : List Int
  at_ : Int
  over : Bool
@[reducible] def rowU (xs : List Int) : AObj := .row false 33 1 Int encU 0 xs
@[reducible] def oIn (m : List (ByteArray × Cd)) : AObj := .map .str Cd encCd m
def does : List (Int × Nat) := [(1, 48), (2, 49), (3, 50), (4, 51), (5, 52), (6, 53), (7, 54), (8, 55), (9, 56), (10, 57)]
@[reducible] def oDoes : AObj := .map KI Nat encFn does
@[reducible] def boxFr (q1 q2 : Nat) (f : Fr) (deep : Int) : AObj := .box [.ptr 1 0, .own q1, .own q2, lt' .i64 f.at_, lt' .i64 deep, lb f.over]
@[reducible] def boxRn (q1 q2 q3 : Nat) (r : Rn) : AObj := .box [.map q1, lt' .i64 r.left, .own q2, lt' .i64 r.wrong, .map q3]
/-- What a frame's method is handed, and what it leaves. -/
@[reducible] def HF (m : List (ByteArray × Cd)) (f : Fr) (deep : Int) (r : Rn) : Heap := [boxFr 4 5 f deep, boxRn 2 6 3 r, oIn m, oDoes, rowU f.regs, rowU f.cells, rowI r.went]
@[reducible] def HP (m : List (ByteArray × Cd)) (f : Fr) (deep : Int) (r : Rn) : Heap := [boxFr 7 5 f deep, boxRn 2 8 3 r, oIn m, oDoes, .dead, rowU f.cells, .dead, rowU f.regs, rowI r.went]
/-- The same things, with their pins. -/
@[reducible] def HX (m : List (ByteArray × Cd)) (f : Fr) (deep : Int) (r : Rn) (s : Nat → Value) : Heap := HF m f deep r ++ pins s 0 (HF m f deep r)
def StepC (k : Nat) (x : Ir) (m : List (ByteArray × Cd)) (f : Fr) (deep : Int) (r : Rn) (f' : Fr) (r' : Rn) : Prop :=
  ImpCall Try.prog k [.ptr 0 0, aIr x] (HF m f deep r) (.tup []) (HP m f' deep r')

theorem does_constant {x : Ir} {m : List (ByteArray × Cd)} {f : Fr} {deep : Int} {r : Rn} (hd : 0 ≤ x.d ∧ x.d < f.regs.length) : StepC 48 x m f deep r { f with regs := f.regs.set x.d.toNat x.n } r := by
  refine imp_rule tabOk Try.func48 rfl (by kernel_rfl) (by kernel_rfl) (Nat.le_of_ble_eq_true rfl) (Nat.le_of_ble_eq_true rfl) rfl ?_
  intro s
  show awp Try.prog tab 13 (bodyOf Try.f48) _ _ _
  refine draw_lex tabOk mixed false false (by kernel_rfl) ?_
  repeat' refine And.intro ?_ ?_
  all_goals try refine Exists.intro [.pv (pu32 x.n)] (And.intro (And.intro (Or.inl rfl) trivial) (Exists.intro x.n (And.intro rfl ?_)))
  all_goals try refine @Exists.intro Ren _ [some 0, some 1, some 2, some 3, some 4, some 5, some 6, some 4, some 6] (Exists.intro [7, 8, 9, 10, 11, 12, 13] ?_)
  repeat' first | exact trivial | exact rfl | refine And.intro ?_ ?_
  all_goals omega

theorem word_sel (x y z : Int) : PureCall Try.prog 74 [.pv (pu32 x), .pv (pu32 y), .pv (pu32 z)] (.pv (pu32 (bif x == 0 then z else y))) := by
  refine pure_rule tabOk Try.func74 rfl (by kernel_rfl) (by kernel_rfl) (Nat.le_of_ble_eq_true rfl) ?_
  show awp Try.prog tab 11 (bodyOf Try.f74) _ _ _
  repeat' (first | refine And.intro ?_ ?_ | (intro h; first | cases h | skip))
  all_goals refine fit_int (H := []) ?_
  · have : (x == 0) = false := by simp_all
    rw [this]; rfl
  · have : (x == 0) = true := by simp_all
    rw [this]; rfl

section
variable {x : Ir} {m : List (ByteArray × Cd)} {f : Fr} {deep : Int} {r : Rn}

theorem does_copied (hd : 0 ≤ x.d ∧ x.d < f.regs.length) (ha : 0 ≤ x.a ∧ x.a < f.regs.length) : StepC 49 x m f deep r { f with regs := f.regs.set x.d.toNat (f.regs.getD x.a.toNat 0) } r := by
  refine imp_rule tabOk Try.func49 rfl (by kernel_rfl) (by kernel_rfl) (Nat.le_of_ble_eq_true rfl) (Nat.le_of_ble_eq_true rfl) rfl ?_
  intro s
  show awp Try.prog tab 19 (bodyOf Try.f49) _ _ _
  repeat' first
    | refine draw_lex tabOk mixed false false (by kernel_rfl) ?_
    | refine And.intro ?_ ?_
    | refine Exists.intro [.pv (pu32 (f.regs.getD x.a.toNat 0))] (And.intro (And.intro (Or.inl rfl) trivial) (Exists.intro (f.regs.getD x.a.toNat 0) (And.intro rfl ?_)))
  all_goals try refine @Exists.intro Ren _ [some 0, some 1, some 2, some 3, some 4, some 5, some 6, some 4, some 6] (Exists.intro [7, 8, 9, 10, 11, 12, 13] ?_)
  repeat' first | exact trivial | exact rfl | refine And.intro ?_ ?_
  all_goals omega

theorem does_load (hd : 0 ≤ x.d ∧ x.d < f.regs.length) (hn : 0 ≤ x.n ∧ x.n < f.cells.length) : StepC 52 x m f deep r { f with regs := f.regs.set x.d.toNat (f.cells.getD x.n.toNat 0) } r := by
  refine imp_rule tabOk Try.func52 rfl (by kernel_rfl) (by kernel_rfl) (Nat.le_of_ble_eq_true rfl) (Nat.le_of_ble_eq_true rfl) rfl ?_
  intro s
  show awp Try.prog tab 19 (bodyOf Try.f52) _ _ _
  repeat' first
    | refine draw_lex tabOk mixed false false (by kernel_rfl) ?_
    | refine And.intro ?_ ?_
    | refine Exists.intro [.pv (pu32 (f.cells.getD x.n.toNat 0))] (And.intro (And.intro (Or.inl rfl) trivial) (Exists.intro (f.cells.getD x.n.toNat 0) (And.intro rfl ?_)))
  all_goals try refine @Exists.intro Ren _ [some 0, some 1, some 2, some 3, some 4, some 5, some 6, some 4, some 6] (Exists.intro [7, 8, 9, 10, 11, 12, 13] ?_)
  repeat' first | exact trivial | exact rfl | refine And.intro ?_ ?_
  all_goals omega

theorem does_store (ha : 0 ≤ x.a ∧ x.a < f.regs.length) (hn : 0 ≤ x.n ∧ x.n < f.cells.length) : StepC 53 x m f deep r { f with cells := f.cells.set x.n.toNat (f.regs.getD x.a.toNat 0) } r := by
  refine imp_rule tabOk Try.func53 rfl (by kernel_rfl) (by kernel_rfl) (Nat.le_of_ble_eq_true rfl) (Nat.le_of_ble_eq_true rfl) rfl ?_
  intro s
  show awp Try.prog tab 19 (bodyOf Try.f53) _ _ _
  repeat' first
    | refine draw_lex tabOk mixed false false (by kernel_rfl) ?_
    | refine And.intro ?_ ?_
    | refine Exists.intro [.pv (pu32 (f.regs.getD x.a.toNat 0))] (And.intro (And.intro (Or.inl rfl) trivial) (Exists.intro (f.regs.getD x.a.toNat 0) (And.intro rfl ?_)))
  all_goals try refine @Exists.intro Ren _ [some 0, some 1, some 2, some 3, some 4, some 5, some 6, some 4, some 6] (Exists.intro [7, 8, 9, 10, 11, 12, 13] ?_)
  repeat' first | exact trivial | exact rfl | refine And.intro ?_ ?_
  all_goals omega

theorem does_jump  : StepC 55 x m f deep r { f with at_ := x.c } r := by
  refine imp_rule tabOk Try.func55 rfl (by kernel_rfl) (by kernel_rfl) (Nat.le_of_ble_eq_true rfl) (Nat.le_of_ble_eq_true rfl) rfl ?_
  intro s
  show awp Try.prog tab 9 (bodyOf Try.f55) _ _ _
  repeat' first
    | refine draw_lex tabOk mixed false false (by kernel_rfl) ?_
    | refine And.intro ?_ ?_
  all_goals try refine @Exists.intro Ren _ [some 0, some 1, some 2, some 3, some 4, some 5, some 6, some 4, some 6] (Exists.intro [7, 8, 9, 10, 11, 12, 13] ?_)
  repeat' first | exact trivial | exact rfl | refine And.intro ?_ ?_
  all_goals omega

theorem does_reckon (hd : 0 ≤ x.d ∧ x.d < f.regs.length) (ha : 0 ≤ x.a ∧ x.a < f.regs.length) (hb : 0 ≤ x.b ∧ x.b < f.regs.length) (hp : 0 ≤ f.regs.getD x.b.toNat 0) : StepC 50 x m f deep r { f with regs := f.regs.set x.d.toNat (opv x.op (f.regs.getD x.a.toNat 0) (f.regs.getD x.b.toNat 0)).1 } r := by
  refine imp_rule tabOk Try.func50 rfl (by kernel_rfl) (by kernel_rfl) (Nat.le_of_ble_eq_true rfl) (Nat.le_of_ble_eq_true rfl) rfl ?_
  intro s
  show awp Try.prog tab 36 (bodyOf Try.f50) _ _ _
  repeat' first
    | refine draw_lex tabOk mixed false false (by kernel_rfl) ?_
    | refine And.intro ?_ ?_
    | refine Or.inl (Exists.intro [.pv (pint x.op), .pv (pu32 (f.regs.getD x.a.toNat 0)), .pv (pu32 (f.regs.getD x.b.toNat 0))] (Exists.intro _ (And.intro (FitAL.self rfl) (And.intro (word_op _ _ _ hp) ?_))))
    | refine Exists.intro [.pv (pu32 ((opv x.op (f.regs.getD x.a.toNat 0) (f.regs.getD x.b.toNat 0)).1))] (And.intro (And.intro (Or.inl rfl) trivial) (Exists.intro ((opv x.op (f.regs.getD x.a.toNat 0) (f.regs.getD x.b.toNat 0)).1) (And.intro rfl ?_)))
  all_goals try refine @Exists.intro Ren _ [some 0, some 1, some 2, some 3, some 4, some 5, some 6, some 4, some 6] (Exists.intro [7, 8, 9, 10, 11, 12, 13] ?_)
  repeat' first | exact trivial | exact rfl | refine And.intro ?_ ?_
  all_goals omega

theorem does_choose (hd : 0 ≤ x.d ∧ x.d < f.regs.length) (ha : 0 ≤ x.a ∧ x.a < f.regs.length) (hb : 0 ≤ x.b ∧ x.b < f.regs.length) (hc : 0 ≤ x.c ∧ x.c < f.regs.length) : StepC 51 x m f deep r { f with regs := f.regs.set x.d.toNat (bif f.regs.getD x.a.toNat 0 == 0 then f.regs.getD x.c.toNat 0 else f.regs.getD x.b.toNat 0) } r := by
  refine imp_rule tabOk Try.func51 rfl (by kernel_rfl) (by kernel_rfl) (Nat.le_of_ble_eq_true rfl) (Nat.le_of_ble_eq_true rfl) rfl ?_
  intro s
  show awp Try.prog tab 36 (bodyOf Try.f51) _ _ _
  refine draw_lex tabOk mixed true false (by kernel_rfl) ?_
  repeat' first
    | refine And.intro ?_ ?_
    | refine Exists.intro [.pv (pu32 (f.regs.getD x.a.toNat 0)), .pv (pu32 (f.regs.getD x.b.toNat 0)), .pv (pu32 (f.regs.getD x.c.toNat 0))] (Exists.intro _ (And.intro (FitAL.self rfl) (And.intro (word_sel _ _ _) ?_)))
    | refine Exists.intro [.pv (pu32 (bif f.regs.getD x.a.toNat 0 == 0 then f.regs.getD x.c.toNat 0 else f.regs.getD x.b.toNat 0))] (And.intro (And.intro (Or.inl rfl) trivial) (Exists.intro (bif f.regs.getD x.a.toNat 0 == 0 then f.regs.getD x.c.toNat 0 else f.regs.getD x.b.toNat 0) (And.intro rfl ?_)))
  all_goals try refine @Exists.intro Ren _ [some 0, some 1, some 2, some 3, some 4, some 5, some 6, some 4, some 6] (Exists.intro [7, 8, 9, 10, 11, 12, 13] ?_)
  repeat' first | exact trivial | exact rfl | refine And.intro ?_ ?_
  all_goals omega

theorem does_zero (ha : 0 ≤ x.a ∧ x.a < f.regs.length) (hl : r.went.length ≤ 1000000) : StepC 56 x m f deep r { f with at_ := bif f.regs.getD x.a.toNat 0 == 0 then x.c else f.at_ } { r with went := r.went ++ [bif f.regs.getD x.a.toNat 0 == 0 then 0 else 1] } := by
  refine imp_rule tabOk Try.func56 rfl (by kernel_rfl) (by kernel_rfl) (Nat.le_of_ble_eq_true rfl) (Nat.le_of_ble_eq_true rfl) rfl ?_
  intro s
  cases hz : f.regs.getD x.a.toNat 0 == 0 <;> simp only [cond_true, cond_false] <;> (
    show awp Try.prog tab 48 (bodyOf Try.f56) _ _ _
    refine draw_lex tabOk mixed false false (by kernel_rfl) ?_
    repeat' first
      | refine And.intro ?_ ?_
      | (intro h; first
          | (have h0 : (!(f.regs.getD x.a.toNat 0 == 0)) = true := h
             rw [hz] at h0; first | exact Bool.noConfusion h0 | clear h0)
          | (have h0 : (!(f.regs.getD x.a.toNat 0 == 0)) = false := h
             rw [hz] at h0; first | exact Bool.noConfusion h0 | clear h0))
      | refine draw_lex tabOk mixed false true (by kernel_rfl) ?_
      | refine @Exists.intro (List Int) _ [1] (And.intro rfl (And.intro (And.intro (And.intro rfl trivial) trivial) ?_))
      | refine @Exists.intro (List Int) _ [0] (And.intro rfl (And.intro (And.intro (And.intro rfl trivial) trivial) ?_))
      | refine @Exists.intro (List Int) _ _ (And.intro rfl ?_)
    all_goals try refine @Exists.intro Ren _ [some 0, some 1, some 2, some 3, some 4, some 5, some 6, some 4, some 16] (Exists.intro [7, 8, 9, 10, 11, 12, 13] ?_)
    repeat' first | exact trivial | exact rfl | refine And.intro ?_ ?_
    all_goals first | omega | (show (r.went.length + 1) * 8 ≤ 140737488355328; omega))

theorem does_ret (ha : 0 ≤ x.a ∧ x.a < f.regs.length) : StepC 57 x m f deep r { f with regs := [f.regs.getD x.a.toNat 0], over := true } r := by
  refine imp_rule tabOk Try.func57 rfl (by kernel_rfl) (by kernel_rfl) (Nat.le_of_ble_eq_true rfl) (Nat.le_of_ble_eq_true rfl) rfl ?_
  intro s
  show awp Try.prog tab 19 (bodyOf Try.f57) _ _ _
  refine draw_lex tabOk mixed false false (by kernel_rfl) ?_
  repeat' first
    | refine And.intro ?_ ?_
    | refine @Exists.intro (List Int) _ [f.regs.getD x.a.toNat 0] (And.intro rfl (And.intro (And.intro (And.intro rfl trivial) trivial) ?_))
  all_goals try refine @Exists.intro Ren _ [some 0, some 1, some 2, some 3, some 4, some 5, some 6, some 15, some 6] (Exists.intro [7, 8, 9, 10, 11, 12, 13] ?_)
  repeat' first | exact trivial | exact rfl | refine And.intro ?_ ?_
  all_goals omega
end
end Go.Vx

namespace Go.Vx
open Go.Proofs

/-! ### The machine, in plain words -/
def wordsN (p : List Ty) : Nat := p.countP fun t => t.len == 0
def cellsN (p : List Ty) : Nat := (p.map fun t => t.len.toNat).sum

/-- What a run comes to. -/
structure Res where
  result : Int
  cells : List Int
  cell : Nat
  r : Rn
abbrev RunF := Cd → List Int → Rn → Res

def callR (find : ByteArray → Option Cd) (deeper : Option RunF) (x : Ir) (regs : List Int) (r : Rn) : Option Int × Rn :=
  match find x.name with
  | none => (none, { r with wrong := 8 })
  | some c =>
    if wordsN c.params ≠ x.args.length ∨ 0 < cellsN c.params then (none, { r with wrong := 10 })
    else match deeper with
      | none => (none, { r with wrong := 19 })
      | some run => (some (run c (x.args.map fun a => regs.getD a.toNat 0) r).result, (run c (x.args.map fun a => regs.getD a.toNat 0) r).r)

/-- What an instruction does. -/
def stepF (call : Ir → List Int → Rn → Option Int × Rn) (x : Ir) (f : Fr) (r : Rn) : Fr × Rn :=
  if x.kind = 1 then ({ f with regs := f.regs.set x.d.toNat x.n }, r)
  else if x.kind = 2 then ({ f with regs := f.regs.set x.d.toNat (f.regs.getD x.a.toNat 0) }, r)
  else if x.kind = 3 then ({ f with regs := f.regs.set x.d.toNat (opv x.op (f.regs.getD x.a.toNat 0) (f.regs.getD x.b.toNat 0)).1 }, r)
  else if x.kind = 4 then ({ f with regs := f.regs.set x.d.toNat (bif f.regs.getD x.a.toNat 0 == 0 then f.regs.getD x.c.toNat 0 else f.regs.getD x.b.toNat 0) }, r)
  else if x.kind = 5 then ({ f with regs := f.regs.set x.d.toNat (f.cells.getD x.n.toNat 0) }, r)
  else if x.kind = 6 then ({ f with cells := f.cells.set x.n.toNat (f.regs.getD x.a.toNat 0) }, r)
  else if x.kind = 7 then
    (match (call x f.regs r).1 with
      | none => f
      | some v => { f with regs := f.regs.set x.d.toNat v }, (call x f.regs r).2)
  else if x.kind = 8 then ({ f with at_ := x.c }, r)
  else if x.kind = 9 then ({ f with at_ := bif f.regs.getD x.a.toNat 0 == 0 then x.c else f.at_ }, { r with went := r.went ++ [bif f.regs.getD x.a.toNat 0 == 0 then 0 else 1] })
  else ({ f with regs := [f.regs.getD x.a.toNat 0], over := true }, r)

def loopR (call : Ir → List Int → Rn → Option Int × Rn) (c : Cd) (cell : Nat) : Nat → Fr → Rn → Res
  | 0, f, r => ⟨0, [], 0, r⟩
  | n + 1, f, r =>
    if r.wrong ≠ 0 then ⟨0, [], 0, r⟩
    else if f.over = true then ⟨f.regs.getD 0 0, f.cells, cell, r⟩
    else if r.left = 0 then ⟨0, [], 0, { r with wrong := 19 }⟩
    else loopR call c cell n (stepF call (c.l.getD f.at_.toNat dIr) { f with at_ := f.at_ + 1 } { r with left := r.left - 1 }).1
      (stepF call (c.l.getD f.at_.toNat dIr) { f with at_ := f.at_ + 1 } { r with left := r.left - 1 }).2

/-- Arguments, laid into registers and cells. -/
structure Laid where
  regs : List Int
  cells : List Int
  reg : Nat
  cell : Nat
  args : List Int
def layStep (s : Laid) (t : Ty) : Laid :=
  if t.len = 0 then { s with regs := s.regs.set s.reg (s.args.getD 0 0), reg := s.reg + 1, args := s.args.drop 1 }
  else { s with cells := setRange s.cells s.cell (s.args.take t.len.toNat), cell := s.cell + t.len.toNat, args := s.args.drop t.len.toNat }
def layArgs (c : Cd) (args : List Int) : Laid := c.params.foldl layStep ⟨List.replicate c.regs.toNat 0, List.replicate c.cells.toNat 0, 0, 0, args⟩

def runW (find : ByteArray → Option Cd) (deeper : Option RunF) : RunF := fun c args r =>
  loopR (callR find deeper) c (layArgs c args).cell (r.left + 2) ⟨(layArgs c args).regs, (layArgs c args).cells, 0, false⟩ r
def runR (find : ByteArray → Option Cd) : Nat → RunF
  | 0 => runW find none
  | k + 1 => runW find (some (runR find k))
def deeperR (find : ByteArray → Option Cd) : Nat → Option RunF
  | 0 => none
  | k + 1 => some (runR find k)
theorem runR_eq (find : ByteArray → Option Cd) (k : Nat) : runR find k = runW find (deeperR find k) := by cases k <;> rfl

/-! ### What may be run -/
structure FineI (c : Cd) (i : Nat) (x : Ir) : Prop where
  kind : 1 ≤ x.kind ∧ x.kind ≤ 10
  op : x.kind = 3 → 1 ≤ x.op ∧ x.op ≤ 10
  args : x.kind = 7 → x.args.length ≤ 6
  reads : ∀ a ∈ reads x, 0 ≤ a ∧ a < c.regs
  writes : Vx.writes x = true → 0 ≤ x.d ∧ x.d < c.regs
  addr : x.kind = 5 ∨ x.kind = 6 → x.n < c.cells
  jump : x.kind = 8 ∨ x.kind = 9 → i < x.c ∧ x.c < c.l.length
  last : i + 1 = c.l.length → x.kind = 10
structure Fine (c : Cd) : Prop where
  np : c.params.length ≤ 6
  par : ∀ t ∈ c.params, 0 ≤ t.len ∧ t.len ≤ 16
  regs : (wordsN c.params : Int) ≤ c.regs ∧ c.regs ≤ 10000
  cells : (cellsN c.params : Int) ≤ c.cells ∧ c.cells ≤ 4096
  len : 1 ≤ c.l.length ∧ c.l.length ≤ 10000
  ir : ∀ i, i < c.l.length → FineI c i (c.l.getD i dIr)

theorem wrap_u64 {x : Int} (h0 : 0 ≤ x) (h1 : x < 18446744073709551616) : IntKind.u64.wrap x = x := by
  simp only [IntKind.wrap, IntKind.signed, IntKind.bits]
  simp
  omega
theorem szs_from : ∀ (p : List Ty) (a b : Nat), (∀ t ∈ p, 0 ≤ t.len ∧ t.len ≤ 16) → a + p.length ≤ 1000 → b + 16 * p.length ≤ 1000000 → p.foldl szStep ((a : Int), (b : Int)) = (((a + wordsN p : Nat) : Int), ((b + cellsN p : Nat) : Int))
  | [], a, b, _, _, _ => by simp [wordsN, cellsN]
  | t :: p, a, b, h, ha, hb => by
    have ht := h t (by simp)
    rw [List.length_cons] at ha hb
    rw [List.foldl_cons]
    have e2 : IntKind.i64.wrap ((b : Int) + t.len) = ((b + t.len.toNat : Nat) : Int) := by
      rw [wrap_small (by omega) (by omega)]; omega
    have e1 : szStep ((a : Int), (b : Int)) t = (((bif t.len == 0 then a + 1 else a : Nat) : Int), ((b + t.len.toNat : Nat) : Int)) := by
      unfold szStep
      rw [e2]
      cases ht0 : t.len == 0
      · rfl
      · simp only [cond_true]
        rw [wrap_small (by omega) (by omega)]; rfl
    rw [e1, szs_from p _ _ (fun u hu => h u (by simp [hu])) (by cases t.len == 0 <;> simp <;> omega) (by omega)]
    simp only [wordsN, cellsN, List.countP_cons, List.map_cons, List.sum_cons]
    cases t.len == 0 <;> simp <;> omega
theorem szs_eq {p : List Ty} (h : ∀ t ∈ p, 0 ≤ t.len ∧ t.len ≤ 16) (hl : p.length ≤ 6) : szs p = ((wordsN p : Int), (cellsN p : Int)) := by
  have := szs_from p 0 0 h (by omega) (by omega)
  simpa [szs] using this
theorem mem_getD {α : Type} {d : α} {xs : List α} {x : α} (h : x ∈ xs) : ∃ i, i < xs.length ∧ xs.getD i d = x := by
  obtain ⟨i, hi, e⟩ := List.getElem_of_mem h
  exact ⟨i, hi, by rw [List.getD_eq_getElem?_getD, List.getElem?_eq_getElem hi]; exact e⟩
theorem cellsN_le : ∀ {p : List Ty}, (∀ t ∈ p, 0 ≤ t.len ∧ t.len ≤ 16) → cellsN p ≤ 16 * p.length
  | [], _ => by simp [cellsN]
  | t :: p, h => by
    have := cellsN_le (p := p) fun u hu => h u (by simp [hu])
    have := h t (by simp)
    simp only [cellsN, List.map_cons, List.sum_cons, List.length_cons] at *
    omega

/-- What is right may be run. -/
theorem Fine.of {c : Cd} (hw : CdOk c) (h : (rightR c).1 = 0) : Fine c := by
  have hf : formOk c = true := by
    cases hb : formOk c
    · rw [right_form hb] at h; simp at h
    · rfl
  unfold rightR at h
  rw [hf] at h
  obtain ⟨h1, h2, h3, h4, h5, h6, h7, h8, h9⟩ := formOk_iff.1 hf
  have hp : ∀ t ∈ c.params, 0 ≤ t.len ∧ t.len ≤ 16 := fun t ht => by
    obtain ⟨i, hi, e⟩ := mem_getD (d := dTy) ht
    rw [← e]; exact h3 i hi
  have hsz := szs_eq hp h2
  rw [hsz] at h4 h6
  refine ⟨h2, hp, ⟨h4, h5⟩, ⟨h6, h7⟩, ⟨h8, h9⟩, fun i hi => ?_⟩
  have hwi := firstWrong_ok _ _ h i (Nat.zero_le _) (by omega)
  have hxm : c.l.getD i dIr ∈ c.l := by rw [List.getD_eq_getElem?_getD, List.getElem?_eq_getElem hi]; exact List.getElem_mem hi
  have hx := hw _ hxm
  unfold wrongI wrongX at hwi
  generalize c.l.getD i dIr = x at hwi hx
  cases b1 : badOp x <;> rw [b1] at hwi <;> simp only [cond_true, cond_false] at hwi
  case true => cases hwi
  cases b2 : badReg c x <;> rw [b2] at hwi <;> simp only [cond_true, cond_false] at hwi
  case true => cases hwi
  cases b3 : badAddr c x <;> rw [b3] at hwi <;> simp only [cond_true, cond_false] at hwi
  case true => cases hwi
  cases b4 : badJump c x i <;> rw [b4] at hwi <;> simp only [cond_true, cond_false] at hwi
  case true => cases hwi
  cases b5 : badEnd c x i <;> rw [b5] at hwi <;> simp only [cond_true, cond_false] at hwi
  case true => cases hwi
  clear hwi
  simp only [badOp, Bool.or_eq_false_iff, Bool.and_eq_false_iff, decide_eq_false_iff_not, beq_eq_false_iff_ne, Bool.not_eq_false'] at b1
  simp only [badReg, Bool.or_eq_false_iff, List.any_eq_false, Bool.and_eq_false_iff, outReg, Bool.or_eq_true, decide_eq_true_eq, decide_eq_false_iff_not, not_or] at b2
  simp only [badAddr, Bool.and_eq_false_iff, Bool.or_eq_false_iff, beq_eq_false_iff_ne, decide_eq_false_iff_not] at b3
  simp only [badJump, Bool.and_eq_false_iff, Bool.or_eq_false_iff, beq_eq_false_iff_ne, decide_eq_false_iff_not] at b4
  simp only [badEnd, Bool.and_eq_false_iff, beq_eq_false_iff_ne, bne_eq_false_iff_eq] at b5
  have hc0 : 0 ≤ c.cells := by omega
  obtain ⟨hn0, hn1⟩ := hx
  rw [wrap_u64 hn0 (by omega), wrap_u64 hc0 (by omega)] at b3
  rw [wrap_small (by omega) (by omega)] at b5
  refine ⟨by omega, fun h => by omega, fun h => ?_, fun a ha => ?_, fun h => ?_, fun h => by omega, fun h => by omega, fun h => by omega⟩
  · rcases b1.2 with g | g
    · exact absurd h g
    · omega
  · have := b2.1 a ha
    omega
  · rcases b2.2 with g | g
    · rw [h] at g; cases g
    · omega

/-! ### What stays -/
/-- A word. -/
def U (v : Int) : Prop := 0 ≤ v ∧ v < 4294967296
theorem U.zero : U 0 := ⟨Int.le_refl 0, by decide⟩
structure Good (c : Cd) (f : Fr) : Prop where
  regs0 : ∀ v ∈ f.regs, U v
  cells0 : ∀ v ∈ f.cells, U v
  cellsL : f.cells.length = c.cells.toNat
  regsL : f.over = false → f.regs.length = c.regs.toNat
  place : f.over = false → 0 ≤ f.at_ ∧ f.at_ < c.l.length
  one : f.over = true → f.regs.length = 1
structure RLe (n : Nat) (r r' : Rn) : Prop where
  left : r'.left ≤ r.left
  went : r'.went.length + r'.left ≤ r.went.length + r.left + n
structure ResOk (r : Rn) (y : Res) : Prop where
  result : U y.result
  cells : ∀ v ∈ y.cells, U v
  cell : y.cell ≤ y.cells.length
  small : y.cells.length ≤ 4096
  le : RLe 0 r y.r
  bad : y.r.wrong ≠ 0 → y.cells = [] ∧ y.cell = 0 ∧ y.result = 0
def CallOk (call : Ir → List Int → Rn → Option Int × Rn) : Prop := ∀ x regs r, r.wrong = 0 → (∀ v ∈ regs, U v) → RLe 0 r (call x regs r).2 ∧ (∀ v, (call x regs r).1 = some v → U v) ∧ ((call x regs r).1 = none → (call x regs r).2.wrong ≠ 0)

theorem getD_nonneg {l : List Int} (h : ∀ v ∈ l, U v) (i : Nat) : U (l.getD i 0) := by
  rcases Nat.lt_or_ge i l.length with hi | hi
  · rw [List.getD_eq_getElem?_getD, List.getElem?_eq_getElem hi]; exact h _ (List.getElem_mem hi)
  · rw [List.getD_eq_getElem?_getD, List.getElem?_eq_none hi]; exact U.zero
theorem set_nonneg {l : List Int} (h : ∀ v ∈ l, U v) {i : Nat} {x : Int} (hx : U x) : ∀ v ∈ l.set i x, U v := fun v hv => by
  rcases List.mem_or_eq_of_mem_set hv with h1 | rfl
  · exact h v h1
  · exact hx
theorem u32_U (x : Int) : U (IntKind.u32.wrap x) := by
  unfold U
  simp only [IntKind.wrap, IntKind.signed, IntKind.bits]
  simp
  exact ⟨Int.emod_nonneg _ (by decide), Int.emod_lt_of_pos _ (by decide)⟩
theorem one_U (b : Bool) : U (one b) := by cases b <;> exact ⟨by decide, by decide⟩
theorem fdiv_U {x : Int} (hx : U x) (k : Nat) : U (x.fdiv (2 ^ k)) := by
  have hp : (0 : Int) < 2 ^ k := Int.pow_pos (by decide)
  rw [Int.fdiv_eq_ediv_of_nonneg _ (Int.le_of_lt hp)]
  exact ⟨Int.ediv_nonneg hx.1 (Int.le_of_lt hp), Int.lt_of_le_of_lt (Int.ediv_le_self _ hx.1) hx.2⟩
theorem bif_U {b : Bool} {x y : Int} (hx : U x) (hy : U y) : U (bif b then x else y) := by cases b <;> assumption
theorem opv_U {op x y : Int} (hx : U x) : U (opv op x y).1 := by
  have key : ∀ (b : Bool) (p q : Int × Bool), U p.1 → U q.1 → U (bif b then p else q).1 := fun b p q h1 h2 => by cases b <;> assumption
  unfold opv
  exact key _ _ _ (u32_U _) (key _ _ _ (u32_U _) (key _ _ _ (u32_U _) (key _ _ _ (u32_U _) (key _ _ _ (u32_U _) (key _ _ _ (u32_U _) (key _ _ _ (u32_U _) (key _ _ _ (fdiv_U hx _) (key _ _ _ (one_U _) (key _ _ _ (one_U _) U.zero)))))))))
theorem Good.reg {c : Cd} {f : Fr} (g : Good c f) (n : Bool) (hn : f.over = false) {i : Nat} {v : Int} (hv : U v) : Good c { f with regs := f.regs.set i v } :=
  ⟨set_nonneg g.regs0 hv, g.cells0, g.cellsL, fun h => by rw [List.length_set]; exact g.regsL h, g.place, fun h => by rw [List.length_set]; exact g.one h⟩
theorem Fine.x0 {c : Cd} (hw : CdOk c) {i : Nat} (hi : i < c.l.length) : U (c.l.getD i dIr).n :=
  hw _ (by rw [List.getD_eq_getElem?_getD, List.getElem?_eq_getElem hi]; exact List.getElem_mem hi)

theorem step_good {c : Cd} (hw : CdOk c) (hf : Fine c) {call : Ir → List Int → Rn → Option Int × Rn} (hcall : CallOk call) {f : Fr} (g : Good c f) (ho : f.over = false) {r : Rn} (hr : r.wrong = 0) :
    Good c (stepF call (c.l.getD f.at_.toNat dIr) { f with at_ := f.at_ + 1 } r).1 ∧ RLe 1 r (stepF call (c.l.getD f.at_.toNat dIr) { f with at_ := f.at_ + 1 } r).2 := by
  obtain ⟨p0, p1⟩ := g.place ho
  have hi : f.at_.toNat < c.l.length := by omega
  have hx := hf.ir _ hi
  have hn := Fine.x0 hw hi
  generalize c.l.getD f.at_.toNat dIr = x at hx hn
  have same : RLe 1 r r := ⟨Nat.le_refl _, by omega⟩
  have g1 : ∀ (a : Int), 0 ≤ a → a < c.l.length → Good c { f with at_ := a } := fun a h1 h2 => ⟨g.regs0, g.cells0, g.cellsL, g.regsL, fun _ => ⟨h1, h2⟩, g.one⟩
  have next : x.kind ≠ 10 → Good c { f with at_ := f.at_ + 1 } := fun h => g1 _ (by omega) (by
    by_cases e : f.at_.toNat + 1 = c.l.length
    · exact absurd (hx.last e) h
    · omega)
  unfold stepF
  split
  · exact ⟨(next (by omega)).reg true ho hn, same⟩
  split
  · exact ⟨(next (by omega)).reg true ho (getD_nonneg g.regs0 _), same⟩
  split
  · exact ⟨(next (by omega)).reg true ho (opv_U (getD_nonneg g.regs0 _)), same⟩
  split
  · refine ⟨(next (by omega)).reg true ho ?_, same⟩
    exact bif_U (getD_nonneg g.regs0 _) (getD_nonneg g.regs0 _)
  split
  · exact ⟨(next (by omega)).reg true ho (getD_nonneg g.cells0 _), same⟩
  split
  · have g2 := next (by omega)
    exact ⟨⟨g2.regs0, set_nonneg g2.cells0 (getD_nonneg g.regs0 _), by rw [List.length_set]; exact g2.cellsL, g2.regsL, g2.place, g2.one⟩, same⟩
  split
  · obtain ⟨h1, h2, h3⟩ := hcall x f.regs r hr g.regs0
    refine ⟨?_, ⟨h1.left, Nat.le_succ_of_le h1.went⟩⟩
    dsimp only
    split
    · exact next (by omega)
    · rename_i v hv
      exact (next (by omega)).reg true ho (h2 v hv)
  split
  · have hj := hx.jump (.inl ‹_›)
    exact ⟨g1 _ (by omega) hj.2, same⟩
  split
  · have hj := hx.jump (.inr ‹_›)
    have hne : x.kind ≠ 10 := by omega
    have h2 := (next hne).place ho
    refine ⟨?_, ⟨Nat.le_refl _, by simp only [List.length_append, List.length_singleton]; omega⟩⟩
    cases (f.regs.getD x.a.toNat 0 == 0) <;> simp only [cond_true, cond_false]
    · exact g1 _ h2.1 h2.2
    · exact g1 _ (by omega) hj.2
  · refine ⟨⟨fun v hv => ?_, g.cells0, g.cellsL, fun h => Bool.noConfusion h, fun h => Bool.noConfusion h, fun _ => rfl⟩, same⟩
    rw [List.mem_singleton] at hv
    rw [hv]
    exact getD_nonneg g.regs0 _

theorem loop_ok {c : Cd} (hw : CdOk c) (hf : Fine c) {call : Ir → List Int → Rn → Option Int × Rn} (hcall : CallOk call) {cell : Nat} (hc : cell ≤ c.cells.toNat) : ∀ (n : Nat) {f : Fr} {r : Rn}, r.left < n → Good c f → ResOk r (loopR call c cell n f r)
  | 0, f, r, hn, g => by omega
  | n + 1, f, r, hn, g => by
    unfold loopR
    split
    · exact ⟨U.zero, fun v hv => (by cases hv), Nat.zero_le _, Nat.zero_le _, ⟨Nat.le_refl _, Nat.le_refl _⟩, fun _ => ⟨rfl, rfl, rfl⟩⟩
    rename_i hwr
    have hwr : r.wrong = 0 := Classical.not_not.1 hwr
    split
    · exact ⟨getD_nonneg g.regs0 _, g.cells0, by rw [g.cellsL]; exact hc, by rw [g.cellsL]; have := hf.cells; omega, ⟨Nat.le_refl _, Nat.le_refl _⟩, fun h => absurd hwr h⟩
    rename_i ho
    have ho : f.over = false := by simpa using ho
    split
    · exact ⟨U.zero, fun v hv => (by cases hv), Nat.zero_le _, Nat.zero_le _, ⟨Nat.le_refl _, Nat.le_refl _⟩, fun _ => ⟨rfl, rfl, rfl⟩⟩
    rename_i hl
    have hs := step_good hw hf hcall g ho (r := { r with left := r.left - 1 }) hwr
    have h1 := hs.2.left
    have h2 := hs.2.went
    dsimp only at h1 h2
    have ih := loop_ok hw hf hcall hc n (Nat.lt_of_le_of_lt h1 (by omega)) hs.1
    exact ⟨ih.result, ih.cells, ih.cell, ih.small, ⟨by have := ih.le.left; omega, by have := ih.le.went; omega⟩, ih.bad⟩

/-! Arguments -/
structure LayOk (c : Cd) (args : List Int) (p : List Ty) (s : Laid) : Prop where
  regsL : s.regs.length = c.regs.toNat
  cellsL : s.cells.length = c.cells.toNat
  regs0 : ∀ v ∈ s.regs, U v
  cells0 : ∀ v ∈ s.cells, U v
  reg : s.reg = wordsN p
  cell : s.cell = cellsN p
  args : s.args = args.drop (wordsN p + cellsN p)
theorem wordsN_snoc (p : List Ty) (t : Ty) : wordsN (p ++ [t]) = wordsN p + if t.len = 0 then 1 else 0 := by
  simp [wordsN, List.countP_append, List.countP_cons, beq_iff_eq]
theorem wordsN_cons (t : Ty) (q : List Ty) : wordsN (t :: q) = (if t.len = 0 then 1 else 0) + wordsN q := by
  simp only [wordsN, List.countP_cons, beq_iff_eq]
  exact Nat.add_comm _ _
theorem cellsN_snoc (p : List Ty) (t : Ty) : cellsN (p ++ [t]) = cellsN p + t.len.toNat := by simp [cellsN]
theorem wordsN_append (p q : List Ty) : wordsN (p ++ q) = wordsN p + wordsN q := by simp [wordsN, List.countP_append]
theorem cellsN_append (p q : List Ty) : cellsN (p ++ q) = cellsN p + cellsN q := by simp [cellsN]
theorem LayOk.next {c : Cd} (hf : Fine c) {args : List Int} (h0 : ∀ v ∈ args, U v) {p : List Ty} {t : Ty} {q : List Ty} (hp : c.params = p ++ t :: q) (hl : args.length = wordsN c.params + cellsN c.params) {s : Laid} (h : LayOk c args p s) :
    LayOk c args (p ++ [t]) (layStep s t) ∧ (t.len = 0 → 0 < s.args.length ∧ s.reg < s.regs.length) ∧ (t.len ≠ 0 → t.len.toNat ≤ s.args.length ∧ s.cell + t.len.toNat ≤ s.cells.length) := by
  have hw : wordsN c.params = wordsN p + (if t.len = 0 then 1 else 0) + wordsN q := by rw [hp, wordsN_append, wordsN_cons, Nat.add_assoc]
  have hc : cellsN c.params = cellsN p + t.len.toNat + cellsN q := by rw [hp, cellsN_append]; simp [cellsN]; omega
  have ht := hf.par t (by rw [hp]; simp)
  have hr := hf.regs
  have hcl := hf.cells
  have hal : s.args.length = args.length - (wordsN p + cellsN p) := by rw [h.args, List.length_drop]
  have ha0 : ∀ v ∈ s.args, U v := fun v hv => h0 v (by rw [h.args] at hv; exact List.mem_of_mem_drop hv)
  unfold layStep
  split
  · rename_i he
    rw [if_pos he] at hw
    refine ⟨⟨by rw [List.length_set]; exact h.regsL, h.cellsL, set_nonneg h.regs0 (getD_nonneg ha0 0), h.cells0, by rw [wordsN_snoc, if_pos he, h.reg], by rw [cellsN_snoc, he, h.cell]; rfl, ?_⟩, fun _ => ⟨by omega, by rw [h.reg, h.regsL]; omega⟩, fun hne => absurd he hne⟩
    rw [wordsN_snoc, cellsN_snoc, if_pos he, he, h.args, List.drop_drop]
    congr 1
    simp
    omega
  · rename_i he
    rw [if_neg he] at hw
    have h1 : t.len.toNat ≤ s.args.length := by omega
    have h2 : s.cell + t.len.toNat ≤ s.cells.length := by rw [h.cell, h.cellsL]; omega
    have h3 : s.cell + (s.args.take t.len.toNat).length ≤ s.cells.length := by rw [List.length_take, Nat.min_eq_left h1]; exact h2
    refine ⟨⟨h.regsL, by rw [setRange_length h3]; exact h.cellsL, h.regs0, fun v hv => ?_, by rw [wordsN_snoc, if_neg he, h.reg]; rfl, by rw [cellsN_snoc, h.cell], ?_⟩, fun h => absurd h he, fun _ => ⟨h1, h2⟩⟩
    · unfold setRange at hv
      rw [List.mem_append, List.mem_append] at hv
      rcases hv with (hv | hv) | hv
      · exact h.cells0 v (List.mem_of_mem_take hv)
      · exact ha0 v (List.mem_of_mem_take hv)
      · exact h.cells0 v (List.mem_of_mem_drop hv)
    · rw [wordsN_snoc, cellsN_snoc, if_neg he]
      show s.args.drop t.len.toNat = _
      rw [h.args, List.drop_drop]
      congr 1
      omega
theorem layTo_ok {c : Cd} (hf : Fine c) {args : List Int} (h0 : ∀ v ∈ args, U v) (hl : args.length = wordsN c.params + cellsN c.params) : ∀ (q p : List Ty) {s : Laid}, c.params = p ++ q → LayOk c args p s → LayOk c args c.params (q.foldl layStep s)
  | [], p, s, hp, h => by rw [List.append_nil] at hp; rw [hp]; exact h
  | t :: q, p, s, hp, h => by
    rw [List.foldl_cons]
    exact layTo_ok hf h0 hl q (p ++ [t]) (by rw [hp, List.append_assoc]; rfl) (h.next hf h0 hp hl).1
def lay0 (c : Cd) (args : List Int) : Laid := ⟨List.replicate c.regs.toNat 0, List.replicate c.cells.toNat 0, 0, 0, args⟩
theorem lay0_ok (c : Cd) (args : List Int) : LayOk c args [] (lay0 c args) :=
  ⟨by simp [lay0], by simp [lay0], fun v hv => by rw [List.eq_of_mem_replicate hv]; exact U.zero, fun v hv => by rw [List.eq_of_mem_replicate hv]; exact U.zero, rfl, rfl, rfl⟩
theorem lay_ok {c : Cd} (hf : Fine c) {args : List Int} (h0 : ∀ v ∈ args, U v) (hl : args.length = wordsN c.params + cellsN c.params) : LayOk c args c.params (layArgs c args) :=
  layTo_ok hf h0 hl c.params [] rfl (lay0_ok c args)
theorem lay_good {c : Cd} (hf : Fine c) {args : List Int} (h0 : ∀ v ∈ args, U v) (hl : args.length = wordsN c.params + cellsN c.params) : Good c ⟨(layArgs c args).regs, (layArgs c args).cells, 0, false⟩ := by
  have h := lay_ok hf h0 hl
  exact ⟨h.regs0, h.cells0, h.cellsL, fun _ => h.regsL, fun _ => ⟨Int.le_refl 0, by have := hf.len.1; show (0 : Int) < _; omega⟩, fun h => Bool.noConfusion h⟩

/-- What functions may be called. -/
structure InOk (find : ByteArray → Option Cd) : Prop where
  ok : ∀ s c, find s = some c → CdOk c
  fine : ∀ s c, find s = some c → Fine c
def RunOk (run : RunF) (c : Cd) : Prop := ∀ (args : List Int) (r : Rn), (∀ v ∈ args, U v) → args.length = wordsN c.params + cellsN c.params → ResOk r (run c args r)
theorem call_ok {find : ByteArray → Option Cd} (hin : InOk find) {deeper : Option RunF} (hd : ∀ run, deeper = some run → ∀ c, CdOk c → Fine c → RunOk run c) : CallOk (callR find deeper) := by
  intro x regs r hr h0
  unfold callR
  split
  · exact ⟨⟨Nat.le_refl _, Nat.le_refl _⟩, fun v h => (by cases h), fun _ => (by simp)⟩
  rename_i c hc
  split
  · exact ⟨⟨Nat.le_refl _, Nat.le_refl _⟩, fun v h => (by cases h), fun _ => (by simp)⟩
  rename_i hwc
  split
  · exact ⟨⟨Nat.le_refl _, Nat.le_refl _⟩, fun v h => (by cases h), fun _ => (by simp)⟩
  rename_i run
  have h := hd run rfl c (hin.ok _ _ hc) (hin.fine _ _ hc) (x.args.map fun a => regs.getD a.toNat 0) r (fun v hv => by
    obtain ⟨a, _, rfl⟩ := List.mem_map.1 hv
    exact getD_nonneg h0 _) (by rw [List.length_map]; omega)
  exact ⟨h.le, fun v e => by cases e; exact h.result, fun e => by cases e⟩
theorem runW_ok {find : ByteArray → Option Cd} (hin : InOk find) {deeper : Option RunF} (hd : ∀ run, deeper = some run → ∀ c, CdOk c → Fine c → RunOk run c) {c : Cd} (hw : CdOk c) (hf : Fine c) : RunOk (runW find deeper) c := by
  intro args r h0 hl
  have hk := lay_ok hf h0 hl
  refine loop_ok hw hf (call_ok hin hd) ?_ _ (by omega) (lay_good hf h0 hl)
  rw [hk.cell]
  have := hf.cells
  omega
theorem runR_ok {find : ByteArray → Option Cd} (hin : InOk find) : ∀ (k : Nat) {c : Cd}, CdOk c → Fine c → RunOk (runR find k) c
  | 0, c, hw, hf => runW_ok hin (fun run h => by cases h) hw hf
  | k + 1, c, hw, hf => runW_ok hin (fun run h => by cases h; exact fun c hw hf => runR_ok hin k hw hf) hw hf
theorem deeper_ok {find : ByteArray → Option Cd} (hin : InOk find) (k : Nat) : ∀ run, deeperR find k = some run → ∀ c, CdOk c → Fine c → RunOk run c := by
  intro run h
  cases k with
  | zero => cases h
  | succ k => cases h; exact fun c hw hf => runR_ok hin k hw hf
end Go.Vx

namespace Go.Vx
open Go.Proofs

@[reducible] def HRn (m : List (ByteArray × Cd)) (r : Rn) : Heap := [boxRn 1 3 2 r, oIn m, oDoes, rowI r.went]
@[reducible] def HRn' (m : List (ByteArray × Cd)) (y : Res) : Heap := [boxRn 1 4 2 y.r, oIn m, oDoes, .dead, rowI y.r.went, rowU y.cells]
def RunC (m : List (ByteArray × Cd)) (c : Cd) (args : List Int) (deep : Nat) (r : Rn) (y : Res) : Prop :=
  ImpCall Try.prog 59 [.ptr 0 0, aCd c, .pv (slU args), lt' .i64 deep] (HRn m r) (.tup [.pv (pu32 y.result), .sub 5 0 1 y.cell]) (HRn' m y)
theorem mAggC {r : Ren} {c : Cd} : matchV r (aCd c) (some (aCd c)) := ⟨fun p hp => by
  obtain ⟨q, _, e⟩ := List.mem_map.1 hp
  exact ⟨q, e.symm⟩, rfl⟩

section
variable {x : Ir} {m : List (ByteArray × Cd)} {f : Fr} {deep : Nat} {r : Rn}
theorem call_none (h : look KK.str m x.name = none) : StepC 54 x m f deep r f { r with wrong := 8 } := by
  refine imp_rule tabOk Try.func54 rfl (by kernel_rfl) (by kernel_rfl) (Nat.le_of_ble_eq_true rfl) (Nat.le_of_ble_eq_true rfl) rfl ?_
  intro s
  show awp Try.prog tab 110 (bodyOf Try.f54) _ _ _
  refine draw_lex tabOk mixed false false (by kernel_rfl) ?_
  repeat' first
    | refine And.intro ?_ ?_
    | (intro y hy; rw [h] at hy; cases hy)
    | (intro hb; first | exact Bool.noConfusion hb | clear hb)
    | refine Or.inl (Exists.intro [.pv (slTy [])] (Exists.intro _ (And.intro (And.intro rfl trivial) (And.intro (irun_sizes [] (by decide)) ?_))))
  all_goals try refine @Exists.intro Ren _ [some 0, some 1, some 2, some 3, some 4, some 5, some 6, some 4, some 6] (Exists.intro [7, 8, 9, 10, 11, 12, 13] ?_)
  repeat' first | exact trivial | exact rfl | refine And.intro ?_ ?_

theorem sizes_fine {c : Cd} (hf : Fine c) : PureCall Try.prog 58 [.pv (slTy c.params)] (.tup [lt' .i64 (wordsN c.params), lt' .i64 (cellsN c.params)]) := by
  have := irun_sizes c.params (by have := hf.np; omega)
  rwa [szs_eq hf.par hf.np] at this

theorem call_type1 {c : Cd} (h : look KK.str m x.name = some c) (hf : Fine c) (hw : wordsN c.params ≠ x.args.length) : StepC 54 x m f deep r f { r with wrong := 10 } := by
  have e1 : ((wordsN c.params : Int) != (x.args.length : Int)) = true := by rw [bne_iff_ne]; omega
  refine imp_rule tabOk Try.func54 rfl (by kernel_rfl) (by kernel_rfl) (Nat.le_of_ble_eq_true rfl) (Nat.le_of_ble_eq_true rfl) rfl ?_
  intro s
  show awp Try.prog tab 110 (bodyOf Try.f54) _ _ _
  refine draw_lex tabOk mixed false false (by kernel_rfl) ?_
  repeat' first
    | refine And.intro ?_ ?_
    | (intro y hy; rw [h] at hy; cases hy)
    | (intro hy; rw [h] at hy; cases hy; done)
    | (intro hb; first | exact Bool.noConfusion hb | (simp only [e1, cond_true, cond_false, reduceCtorEq, Bool.not_true, Bool.not_false] at hb; done) | clear hb)
    | refine Or.inl (Exists.intro [.pv (slTy c.params)] (Exists.intro _ (And.intro (And.intro rfl trivial) (And.intro (sizes_fine hf) ?_))))
  all_goals try refine @Exists.intro Ren _ [some 0, some 1, some 2, some 3, some 4, some 5, some 6, some 4, some 6] (Exists.intro [7, 8, 9, 10, 11, 12, 13] ?_)
  repeat' first | exact trivial | exact rfl | refine And.intro ?_ ?_
theorem call_type2 {c : Cd} (h : look KK.str m x.name = some c) (hf : Fine c) (hw : wordsN c.params = x.args.length) (hc : 0 < cellsN c.params) : StepC 54 x m f deep r f { r with wrong := 10 } := by
  have e1 : ((wordsN c.params : Int) != (x.args.length : Int)) = false := by rw [bne_eq_false_iff_eq]; omega
  have e2 : decide ((cellsN c.params : Int) > 0) = true := decide_eq_true (by omega)
  refine imp_rule tabOk Try.func54 rfl (by kernel_rfl) (by kernel_rfl) (Nat.le_of_ble_eq_true rfl) (Nat.le_of_ble_eq_true rfl) rfl ?_
  intro s
  show awp Try.prog tab 110 (bodyOf Try.f54) _ _ _
  refine draw_lex tabOk mixed false false (by kernel_rfl) ?_
  repeat' first
    | refine And.intro ?_ ?_
    | (intro y hy; rw [h] at hy; cases hy)
    | (intro hy; rw [h] at hy; cases hy; done)
    | (intro hb; first | exact Bool.noConfusion hb | (simp only [e1, e2, cond_true, cond_false, reduceCtorEq, Bool.not_true, Bool.not_false] at hb; done) | clear hb)
    | refine Or.inl (Exists.intro [.pv (slTy c.params)] (Exists.intro _ (And.intro (And.intro rfl trivial) (And.intro (sizes_fine hf) ?_))))
  all_goals try refine @Exists.intro Ren _ [some 0, some 1, some 2, some 3, some 4, some 5, some 6, some 4, some 6] (Exists.intro [7, 8, 9, 10, 11, 12, 13] ?_)
  repeat' first | exact trivial | exact rfl | refine And.intro ?_ ?_
theorem call_fuel {c : Cd} (h : look KK.str m x.name = some c) (hf : Fine c) (hw : wordsN c.params = x.args.length) (hc : ¬ 0 < cellsN c.params) (hd : deep = 32) : StepC 54 x m f deep r f { r with wrong := 19 } := by
  subst hd
  have e1 : ((wordsN c.params : Int) != (x.args.length : Int)) = false := by rw [bne_eq_false_iff_eq]; omega
  have e2 : decide ((cellsN c.params : Int) > 0) = false := decide_eq_false (by omega)
  refine imp_rule tabOk Try.func54 rfl (by kernel_rfl) (by kernel_rfl) (Nat.le_of_ble_eq_true rfl) (Nat.le_of_ble_eq_true rfl) rfl ?_
  intro s
  show awp Try.prog tab 110 (bodyOf Try.f54) _ _ _
  refine draw_lex tabOk mixed false false (by kernel_rfl) ?_
  repeat' first
    | refine And.intro ?_ ?_
    | (intro y hy; rw [h] at hy; cases hy)
    | (intro hy; rw [h] at hy; cases hy; done)
    | (intro hb; first | exact Bool.noConfusion hb | (simp only [e1, e2, cond_true, cond_false, reduceCtorEq, Bool.not_true, Bool.not_false] at hb; done) | exact absurd hb (by decide) | clear hb)
    | refine Or.inl (Exists.intro [.pv (slTy c.params)] (Exists.intro _ (And.intro (And.intro rfl trivial) (And.intro (sizes_fine hf) ?_))))
  all_goals try refine @Exists.intro Ren _ [some 0, some 1, some 2, some 3, some 4, some 5, some 6, some 4, some 6] (Exists.intro [7, 8, 9, 10, 11, 12, 13] ?_)
  repeat' first | exact trivial | exact rfl | refine And.intro ?_ ?_
end
end Go.Vx

namespace Go.Vx
open Go.Proofs

theorem SoftStep.mk' {P : Program} {fn : FuncId} {xs : List AV} {H : Heap} {K : AV → Heap → Prop} (cs : List AV) (r : Ren) {bs : List AV} {Hc : Heap} {x : AV} {H' : Heap} (h : ImpCall P fn bs Hc x H') (hr : (nodupR r && allSome r && noDead Hc) = true)
    (ha : ArgsM H xs cs) (hm : matchC r bs cs) (hH : matchH r (frzAL H xs) r Hc) (hk : K (reV r (frzAL H xs).length x) (merge r (frzAL H xs) H')) : SoftStep P fn xs H K := ⟨cs, ha, r, bs, Hc, x, H', hr, hm, hH, h, hk⟩
theorem ImpStep.mk' {P : Program} {fn : FuncId} {xs : List AV} {H : Heap} {K : AV → Heap → Prop} (r : Ren) {bs : List AV} {Hc : Heap} {x : AV} {H' : Heap} (h : ImpCall P fn bs Hc x H') (hr : (nodupR r && allSome r && noDead Hc) = true)
    (hm : matchC r bs xs) (hH : matchH r H r Hc) (hk : K (reV r H.length x) (merge r H H')) : ImpStep P fn xs H K := ⟨r, bs, Hc, x, H', hr, hm, hH, h, hk⟩
section
variable {x : Ir} {m : List (ByteArray × Cd)} {f : Fr} {deep : Nat} {r : Rn}
def argsTo (x : Ir) (f : Fr) (k : Nat) : List Int := (x.args.take k).map fun a => f.regs.getD a.toNat 0
theorem argsTo_next {k : Nat} (h : k < x.args.length) : argsTo x f k ++ [f.regs.getD (x.args.getD k 0).toNat 0] = argsTo x f (k + 1) := by
  unfold argsTo
  rw [take_getD 0 h, List.map_append]; rfl
theorem argsTo_all : argsTo x f x.args.length = x.args.map fun a => f.regs.getD a.toNat 0 := by unfold argsTo; rw [List.take_length]
theorem argsTo_length {k : Nat} : (argsTo x f k).length ≤ k := by unfold argsTo; rw [List.length_map, List.length_take]; exact Nat.min_le_left _ _
theorem mt_rowU {xs ys : List Int} (h : ys = xs) : some (rowU ys) = some (rowU xs) := by rw [h]

set_option maxRecDepth 10000 in
set_option maxHeartbeats 2000000 in
theorem call_run {c : Cd} (h : look KK.str m x.name = some c) (hf : Fine c) (hw : wordsN c.params = x.args.length) (hc : ¬ 0 < cellsN c.params) (hd : deep < 32)
    (ha : ∀ a ∈ x.args, 0 ≤ a ∧ a < f.regs.length) (hl : x.args.length ≤ 6) (hx : 0 ≤ x.d ∧ x.d < f.regs.length) {y : Res} (hy : RunC m c (x.args.map fun a => f.regs.getD a.toNat 0) (deep + 1) r y) :
    StepC 54 x m f deep r { f with regs := f.regs.set x.d.toNat y.result } y.r := by
  have e1 : ((wordsN c.params : Int) != (x.args.length : Int)) = false := by rw [bne_eq_false_iff_eq]; omega
  have e2 : decide ((cellsN c.params : Int) > 0) = false := decide_eq_false (by omega)
  have e3 : ((deep : Int) == 32) = false := by rw [beq_eq_false_iff_ne]; omega
  have e4 : IntKind.i64.wrap ((deep : Int) + 1) = ((deep + 1 : Nat) : Int) := wrap_succ (by omega)
  refine imp_rule tabOk Try.func54 rfl (by kernel_rfl) (by kernel_rfl) (Nat.le_of_ble_eq_true rfl) (Nat.le_of_ble_eq_true rfl) rfl ?_
  intro s
  show awp Try.prog tab 110 (bodyOf Try.f54) _ _ _
  refine draw_lex tabOk mixed false false (by kernel_rfl) ?_
  repeat' first
    | refine And.intro ?_ ?_
    | (intro y' hy'; rw [h] at hy'; cases hy')
    | (intro hy'; rw [h] at hy'; cases hy'; done)
    | (intro hb; first | exact Bool.noConfusion hb | (simp only [e1, e2, e3, cond_true, cond_false, reduceCtorEq, Bool.not_true, Bool.not_false] at hb; done) | clear hb)
    | refine Or.inl (Exists.intro [.pv (slTy c.params)] (Exists.intro _ (And.intro (And.intro rfl trivial) (And.intro (sizes_fine hf) ?_))))
  refine loop_rule (X := Nat) tabOk (by kernel_rfl) (fun k => k ≤ x.args.length)
    (fun k => ([(0, .ptr 0 0), (3, .ptr 14 0), (4, .ptr 15 0), (8, .own 16), (33, .pv (slI x.args)), (34, lt' .i64 x.args.length), (35, lt' .i64 k)], HX m f deep r s ++ [boxIr x, boxCd c, rowU (argsTo x f k)]))
    (fun k => x.args.length - k) 0 (Nat.zero_le _) ?_ ?_
  · refine @Exists.intro Ren _ [some 0, some 1, some 2, some 3, some 4, some 5, some 6, some 7, some 8, some 9, some 10, some 11, some 12, some 13, some 14, some 15, none] ?_
    repeat' first | refine And.intro ?_ ?_ | exact rfl | exact trivial | decide
  · intro k hk
    refine And.intro ?_ ?_
    · intro hb
      have hlt : k < x.args.length := by have := of_decide_eq_true hb; omega
      have hav := ha (x.args.getD k 0) (by rw [List.getD_eq_getElem?_getD, List.getElem?_eq_getElem hlt]; exact List.getElem_mem hlt)
      repeat' first
        | refine And.intro ?_ ?_
        | refine @Exists.intro (List Int) _ [f.regs.getD (x.args.getD k 0).toNat 0] (And.intro rfl (And.intro (And.intro (And.intro rfl trivial) trivial) ?_))
        | refine @Exists.intro (List Int) _ _ (And.intro rfl ?_)
      all_goals try refine @Exists.intro Nat _ (k + 1) (And.intro ?_ (And.intro ?_ (@Exists.intro Ren _ [some 0, some 1, some 2, some 3, some 4, some 5, some 6, some 7, some 8, some 9, some 10, some 11, some 12, some 13, some 14, some 15, some 18] ?_)))
      repeat' first | exact trivial | exact rfl | exact mt_rowU (argsTo_next hlt) | refine mt_int (wrap_succ ?_) | refine And.intro ?_ ?_
      all_goals first
        | omega
        | exact Int.natCast_nonneg k
        | exact hav.1
        | exact hav.2
        | (show (x.args.getD k 0).toNat < f.regs.length; omega)
        | (have := @argsTo_length x f k; show ((argsTo x f k).length + 1) * 4 ≤ 140737488355328; omega)
    · intro hb
      have hk' : k = x.args.length := by have := of_decide_eq_false hb; omega
      subst hk'
      refine draw_lex tabOk mixed false false (by kernel_rfl) ?_
      refine Or.inr (Or.inr (SoftStep.mk' [.ptr 1 0, aCd c, .pv (slU (x.args.map fun a => f.regs.getD a.toNat 0)), lt' .i64 ((deep + 1 : Nat) : Int)] [some 1, some 2, some 3, some 6] hy rfl ?_ ?_ ?_ ?_))
      · refine And.intro (Or.inr rfl) (And.intro (Or.inr rfl) (And.intro (Or.inl ?_) (And.intro (Or.inl (fit_int e4)) trivial)))
        show PV.sl 1 Int encU 0 (argsTo x f x.args.length) = _
        rw [argsTo_all]
      · exact And.intro rfl (And.intro mAggC (And.intro rfl (And.intro rfl trivial)))
      · repeat' first | refine And.intro ?_ ?_ | exact rfl | exact trivial
      · refine DrawSem.sub (E0 := [(0, .ptr 0 0), (3, .ptr 14 0), (11, .pv (pu32 y.result))]) (H0 := [boxFr 4 5 f deep, boxRn 2 15 3 y.r, oIn m, oDoes, rowU f.regs, rowU f.cells, .dead] ++ pins s 0 (HF m f deep r) ++ [boxIr x, rowI y.r.went])
          (@Exists.intro Ren _ [some 0, some 1, some 2, some 3, some 4, some 5, some 6, some 7, some 8, some 9, some 10, some 11, some 12, some 13, some 14, some 17] ?_) ?_
        · repeat' first | refine And.intro ?_ ?_ | exact rfl | exact trivial
        refine draw_lex tabOk mixed false false (by kernel_rfl) ?_
        repeat' first
          | refine And.intro ?_ ?_
          | refine @Exists.intro (List AV) _ [.pv (pu32 y.result)] (And.intro (And.intro (Or.inl rfl) trivial) (@Exists.intro Int _ y.result (And.intro rfl ?_)))
        all_goals try refine @Exists.intro Ren _ [some 0, some 1, some 2, some 3, some 4, some 5, some 6, some 4, some 15] (Exists.intro [7, 8, 9, 10, 11, 12, 13] ?_)
        repeat' first | refine And.intro ?_ ?_ | exact rfl | exact trivial
        all_goals omega
end
end Go.Vx

namespace Go.Vx
open Go.Proofs

/-- What is asked of functions that may be called, one deeper. -/
def RunsAt (m : List (ByteArray × Cd)) (deep k : Nat) : Prop :=
  ∀ (c : Cd) (args : List Int) (r : Rn), CdOk c → Fine c → (∀ v ∈ args, U v) → args.length = wordsN c.params + cellsN c.params → r.wrong = 0 → r.went.length + r.left ≤ 1000000 → RunC m c args deep r (runR (look KK.str m) k c args r)
def DeeperC (m : List (ByteArray × Cd)) (deep k : Nat) : Prop := ∀ k', k = k' + 1 → RunsAt m (deep + 1) k'

theorem StepC.to {q : Nat} {x : Ir} {m : List (ByteArray × Cd)} {f : Fr} {deep : Int} {r : Rn} {f1 f2 : Fr} {r1 r2 : Rn} (h : StepC q x m f deep r f1 r1) (hf : f1 = f2) (hr : r1 = r2) : StepC q x m f deep r f2 r2 := by subst hf; subst hr; exact h

theorem does_any {m : List (ByteArray × Cd)} (hin : InOk (look KK.str m)) {deep k : Nat} (hk : deep + k = 32) (hd : DeeperC m deep k) {c : Cd} {i : Nat} {x : Ir} (hx : FineI c i x) (hn : 0 ≤ x.n) {f : Fr} (hc0 : 0 ≤ c.regs ∧ 0 ≤ c.cells)
    (hrl : f.regs.length = c.regs.toNat) (hcl : f.cells.length = c.cells.toNat) (h0 : ∀ v ∈ f.regs, U v) {r : Rn} (hr : r.wrong = 0) (hw : r.went.length + r.left ≤ 1000000) :
    ∃ q, look KI does x.kind = some q ∧ StepC q x m f deep r (stepF (callR (look KK.str m) (deeperR (look KK.str m) k)) x f r).1 (stepF (callR (look KK.str m) (deeperR (look KK.str m) k)) x f r).2 := by
  have hA : x.kind = 2 ∨ x.kind = 6 ∨ x.kind = 9 ∨ x.kind = 10 → 0 ≤ x.a ∧ x.a < f.regs.length := fun h => by
    have := hx.reads x.a (by unfold reads; rcases h with h | h | h | h <;> rw [h] <;> simp)
    omega
  have hD : Vx.writes x = true → 0 ≤ x.d ∧ x.d < f.regs.length := fun h => by have := hx.writes h; omega
  have hwr : ∀ n, x.kind = n → (1 ≤ n ∧ n ≤ 5 ∨ n = 7) → Vx.writes x = true := fun n e h => by
    unfold Vx.writes
    rw [e, Bool.or_eq_true, Bool.and_eq_true, decide_eq_true_eq, decide_eq_true_eq, beq_iff_eq]
    omega
  have hk1 := hx.kind
  by_cases e1 : x.kind = 1
  · exact ⟨48, by rw [e1]; rfl, (does_constant (hD (hwr 1 e1 (by omega)))).to (by simp [stepF, e1]) (by simp [stepF, e1])⟩
  by_cases e2 : x.kind = 2
  · exact ⟨49, by rw [e2]; rfl, (does_copied (hD (hwr 2 e2 (by omega))) (hA (by omega))).to (by simp [stepF, e2]) (by simp [stepF, e2])⟩
  by_cases e3 : x.kind = 3
  · have hr3 : reads x = [x.a, x.b] := by unfold reads; rw [e3]; rfl
    have ha := hx.reads x.a (by rw [hr3]; simp)
    have hb := hx.reads x.b (by rw [hr3]; simp)
    exact ⟨50, by rw [e3]; rfl, (does_reckon (hD (hwr 3 e3 (by omega))) (by omega) (by omega) (getD_nonneg h0 _).1).to (by simp [stepF, e3]) (by simp [stepF, e3])⟩
  by_cases e4 : x.kind = 4
  · have hr4 : reads x = [x.a, x.b, x.c] := by unfold reads; rw [e4]; rfl
    have ha := hx.reads x.a (by rw [hr4]; simp)
    have hb := hx.reads x.b (by rw [hr4]; simp)
    have hc := hx.reads x.c (by rw [hr4]; simp)
    exact ⟨51, by rw [e4]; rfl, (does_choose (hD (hwr 4 e4 (by omega))) (by omega) (by omega) (by omega)).to (by simp [stepF, e4]) (by simp [stepF, e4])⟩
  by_cases e5 : x.kind = 5
  · have ha := hx.addr (.inl e5)
    exact ⟨52, by rw [e5]; rfl, (does_load (hD (hwr 5 e5 (by omega))) (by omega)).to (by simp [stepF, e5]) (by simp [stepF, e5])⟩
  by_cases e6 : x.kind = 6
  · have ha := hx.addr (.inr e6)
    exact ⟨53, by rw [e6]; rfl, (does_store (hA (by omega)) (by omega)).to (by simp [stepF, e6]) (by simp [stepF, e6])⟩
  by_cases e7 : x.kind = 7
  · refine ⟨54, by rw [e7]; rfl, ?_⟩
    have hr7 : reads x = x.args := by unfold reads; rw [e7]; rfl
    have hargs : ∀ a ∈ x.args, 0 ≤ a ∧ a < f.regs.length := fun a ha => by have := hx.reads a (by rw [hr7]; exact ha); omega
    have es : stepF (callR (look KK.str m) (deeperR (look KK.str m) k)) x f r = (match (callR (look KK.str m) (deeperR (look KK.str m) k) x f.regs r).1 with
      | none => f
      | some v => { f with regs := f.regs.set x.d.toNat v }, (callR (look KK.str m) (deeperR (look KK.str m) k) x f.regs r).2) := by
      first
        | (simp [stepF, e7]; done)
        | (simp [stepF, e7]
           cases (callR (look KK.str m) (deeperR (look KK.str m) k) x f.regs r).1 <;> rfl)
    rw [es]
    unfold callR
    cases hf : look KK.str m x.name with
    | none => exact call_none hf
    | some c' =>
      have hfine := hin.fine _ _ hf
      dsimp only
      by_cases hwc : wordsN c'.params ≠ x.args.length ∨ 0 < cellsN c'.params
      · rw [if_pos hwc]
        by_cases hw1 : wordsN c'.params = x.args.length
        · exact call_type2 hf hfine hw1 (by omega)
        · exact call_type1 hf hfine hw1
      · rw [if_neg hwc]
        cases k with
        | zero => exact call_fuel hf hfine (by omega) (by omega) (by omega)
        | succ k =>
          exact call_run hf hfine (by omega) (by omega) (by omega) hargs (hx.args e7) (hD (hwr 7 e7 (by omega))) (hd k rfl c' _ r (hin.ok _ _ hf) hfine (fun v hv => by
            obtain ⟨a, _, rfl⟩ := List.mem_map.1 hv
            exact getD_nonneg h0 _) (by rw [List.length_map]; omega) hr hw)
  by_cases e8 : x.kind = 8
  · exact ⟨55, by rw [e8]; rfl, does_jump.to (by simp [stepF, e8]) (by simp [stepF, e8])⟩
  by_cases e9 : x.kind = 9
  · exact ⟨56, by rw [e9]; rfl, (does_zero (hA (by omega)) (by omega)).to (by simp [stepF, e9]) (by simp [stepF, e9])⟩
  have e10 : x.kind = 10 := by omega
  exact ⟨57, by rw [e10]; rfl, (does_ret (hA (by omega))).to (by simp [stepF, e10]) (by simp [stepF, e10])⟩
end Go.Vx

