/- Contracts: irun.Run, and the first law of its layer. No condition: these are lemmas for the laws. -/
import Derived.Test.YtmmdnljokoojdaaYb
import Derived.Test.YtmmdnljokoojdaaXb
import Derived.Test.YtmmdnljokoojdaaXc
import Derived.Test.YtmmdnljokoojdaaXd
set_option linter.unusedVariables false
set_option linter.unusedSimpArgs false
namespace Go.Vx
open Go.Proofs

def mapOf (l : List Cd) : List (ByteArray × Cd) := l.map fun c => (c.name, c)
@[reducible] def findC (l : List Cd) : ByteArray → Option Cd := look KK.str (mapOf l)
def badAt (l : List Cd) (k : Nat) : Bool := (rightR (l.getD k dCd)).1 != 0
def dupAt (l : List Cd) (k : Nat) : Bool := (findC (l.take k) (l.getD k dCd).name).isSome
def someBad (l : List Cd) : Bool := (List.range l.length).any (badAt l)
def someDup (l : List Cd) : Bool := (List.range l.length).any (dupAt l)
def rn0 : Rn := ⟨60000, [], 0⟩
/-- What comes of one of several. -/
def runAll (l : List Cd) (name : ByteArray) (args : List Int) : Oc × List Int × Int :=
  if someBad l = true then (dOc, [], 6)
  else if someDup l = true then (dOc, [], 9)
  else match findC l name with
    | none => (dOc, [], 22)
    | some c =>
      if args.length ≠ wordsN c.params + cellsN c.params then (dOc, [], 1)
      else if (runR (findC l) 32 c args rn0).r.wrong ≠ 0 then (dOc, [], (runR (findC l) 32 c args rn0).r.wrong)
      else (⟨(runR (findC l) 32 c args rn0).result, (runR (findC l) 32 c args rn0).cells.take (runR (findC l) 32 c args rn0).cell⟩, (runR (findC l) 32 c args rn0).r.went, 0)
@[reducible] def aOc (o : Oc) : AV := .agg ((encOc o).map .pv)
@[reducible] def outV (y : Oc × List Int × Int) : AV := .tup [aOc y.1, .pv (slI y.2.1), lt' .i64 y.2.2]
@[reducible] def boxOc0 : AObj := .box [lt' .u32 0, .nil]

def NoneTo (p : Nat → Bool) (k : Nat) : Prop := ∀ i, i < k → p i = false
theorem NoneTo.next {p : Nat → Bool} {k : Nat} (h : NoneTo p k) (h0 : p k = false) : NoneTo p (k + 1) := fun i hi => by
  rcases Nat.lt_or_ge i k with h1 | h1
  · exact h i h1
  · obtain rfl : i = k := by omega
    exact h0
theorem NoneTo.any {p : Nat → Bool} {n : Nat} (h : NoneTo p n) : (List.range n).any p = false := by
  rw [List.any_eq_false]
  intro i hi
  rw [h i (List.mem_range.1 hi)]
  decide
theorem any_at {p : Nat → Bool} {n k : Nat} (hk : k < n) (h : p k = true) : (List.range n).any p = true := List.any_eq_true.2 ⟨k, List.mem_range.2 hk, h⟩
theorem upsert_new {m : List (ByteArray × Cd)} {s : ByteArray} {c : Cd} (h : look KK.str m s = none) : upsert KK.str m s c = m ++ [(s, c)] := by
  induction m with
  | nil => rfl
  | cons p m ih =>
    obtain ⟨a, y⟩ := p
    unfold look at h
    unfold upsert
    split at h
    · cases h
    · rename_i hne
      rw [if_neg hne, ih h]; rfl
theorem mapOf_next {l : List Cd} {k : Nat} (hk : k < l.length) (h : dupAt l k = false) : upsert KK.str (mapOf (l.take k)) (l.getD k dCd).name (l.getD k dCd) = mapOf (l.take (k + 1)) := by
  have h1 : look KK.str (mapOf (l.take k)) (l.getD k dCd).name = none := by
    unfold dupAt at h
    cases e : look KK.str (mapOf (l.take k)) (l.getD k dCd).name with
    | none => rfl
    | some y => rw [findC, e] at h; cases h
  rw [upsert_new h1, take_getD dCd hk, mapOf, mapOf, List.map_append]; rfl
theorem look_mem' {m : List (ByteArray × Cd)} {s : ByteArray} {c : Cd} (h : look KK.str m s = some c) : ∃ p ∈ m, p.2 = c := by
  induction m with
  | nil => cases h
  | cons p m ih =>
    obtain ⟨a, y⟩ := p
    unfold look at h
    split at h
    · cases h; exact ⟨_, List.mem_cons_self, rfl⟩
    · obtain ⟨q, hq, e⟩ := ih h
      exact ⟨q, List.mem_cons_of_mem _ hq, e⟩
theorem findC_mem {l : List Cd} {s : ByteArray} {c : Cd} (h : findC l s = some c) : c ∈ l := by
  obtain ⟨p, hp, e⟩ := look_mem' h
  obtain ⟨d, hd, rfl⟩ := List.mem_map.1 hp
  rw [← e]; exact hd
theorem in_ok {l : List Cd} (hw : ∀ c ∈ l, CdOk c) (hb : NoneTo (badAt l) l.length) : InOk (findC l) :=
  ⟨fun s c h => hw c (findC_mem h), fun s c h => Fine.of (hw c (findC_mem h)) (by
    obtain ⟨i, hi, e⟩ := mem_getD (d := dCd) (findC_mem h)
    have := hb i hi
    unfold badAt at this
    rw [e] at this
    simpa using this)⟩
theorem mt_oIn {xs ys : List (ByteArray × Cd)} (h : ys = xs) : some (oIn ys) = some (oIn xs) := by rw [h]

set_option maxRecDepth 10000 in
set_option maxHeartbeats 4000000 in
theorem irun_run {l : List Cd} {name : ByteArray} {args : List Int} (hs : ∀ c ∈ l, Small c) (hw : ∀ c ∈ l, CdOk c) (hl : l.length ≤ 1000000) (h0 : ∀ v ∈ args, U v) (hal : args.length ≤ 1000000) :
    PureCall Try.prog 31 [.pv (slCd l), .pv (.lit (.string name)), .pv (slU args)] (outV (runAll l name args)) := by
  refine pure_ruleS tabOk Try.func31 rfl (by kernel_rfl) (Nat.le_of_ble_eq_true rfl) ?_
  show Tri Try.prog 124 (bodyOf Try.f31) _ _ _
  refine cut_rule tabOk (by kernel_rfl) 4 (X := Unit) (fun _ => NoneTo (badAt l) l.length) (fun _ => ([(0, .pv (slCd l)), (1, .pv (.lit (.string name))), (2, .pv (slU args)), (6, .ptr 0 0), (9, .ptr 1 0)], [boxOc0, boxRn 2 4 3 rn0, oIn (mapOf (l.take 0)), oDoes, rowI []])) ?_ ?_
  · iterate 10 refine @Exists.intro Nat _ _ (And.intro rfl ?_)
    refine loop_rule (X := Nat) tabOk (by kernel_rfl) (fun j => j ≤ l.length ∧ NoneTo (badAt l) j)
      (fun j => ([(0, .pv (slCd l)), (1, .pv (.lit (.string name))), (2, .pv (slU args)), (6, .ptr 0 0), (9, .ptr 1 0), (32, .pv (slCd l)), (33, lt' .i64 l.length), (34, lt' .i64 j)], [boxOc0, boxRn 2 4 3 rn0, oIn (mapOf (l.take 0)), oDoes, rowI []])) (fun j => l.length - j) 0 (And.intro (Nat.zero_le _) (fun i h => absurd h (Nat.not_lt_zero _))) ?_ ?_
    · refine @Exists.intro Ren _ [some 0, some 2, some 1, some 3, none] ?_
      repeat' first | refine And.intro ?_ ?_ | exact rfl | exact trivial | decide
    rintro j ⟨hj, hb⟩
    refine And.intro ?_ ?_
    · intro h
      have hlt : j < l.length := by have := of_decide_eq_true h; omega
      have hcm : l.getD j dCd ∈ l := by rw [List.getD_eq_getElem?_getD, List.getElem?_eq_getElem hlt]; exact List.getElem_mem hlt
      have e : l.getD ((j : Int).toNat) dCd = l.getD j dCd := rfl
      refine And.intro (Int.natCast_nonneg j) (And.intro (by omega) ?_)
      refine Or.inl (Exists.intro [aCd (l.getD j dCd)] (Exists.intro _ (And.intro (FitAL.self rfl) (And.intro (irun_right _ (hs _ hcm)) ?_))))
      refine And.intro ?_ ?_
      · intro hbad
        have hrun : runAll l name args = (dOc, [], 6) := by unfold runAll someBad; rw [if_pos (any_at hlt hbad)]
        rw [hrun]
        refine And.intro ?_ ?_
        repeat' first | refine And.intro ?_ ?_ | exact rfl | exact trivial
      · intro hgood
        refine Exists.intro (j + 1) (And.intro (by omega) (And.intro (And.intro hlt (hb.next hgood)) (@Exists.intro Ren _ [some 0, some 1, some 2, some 3, some 4] ?_)))
        repeat' first | refine And.intro ?_ ?_ | exact rfl | exact trivial | exact mt_int (wrap_succ (by omega))
    · intro h
      have hj' : j = l.length := by have := of_decide_eq_false h; omega
      subst hj'
      refine Exists.intro () (And.intro hb (@Exists.intro Ren _ [some 0, some 1, some 2, some 3, some 4] ?_))
      repeat' first | refine And.intro ?_ ?_ | exact rfl | exact trivial
  rintro ⟨⟩ hbad
  have hin := in_ok hw hbad
  have hnb : ¬ someBad l = true := by unfold someBad; rw [hbad.any]; decide
  refine cut_rule tabOk (by kernel_rfl) 1 (X := Unit) (fun _ => NoneTo (dupAt l) l.length) (fun _ => ([(0, .pv (slCd l)), (1, .pv (.lit (.string name))), (2, .pv (slU args)), (6, .ptr 0 0), (9, .ptr 1 0)], [boxOc0, boxRn 2 4 3 rn0, oIn (mapOf l), oDoes, rowI []])) ?_ ?_
  · refine loop_rule (X := Nat) tabOk (by kernel_rfl) (fun j => j ≤ l.length ∧ NoneTo (dupAt l) j)
      (fun j => ([(0, .pv (slCd l)), (1, .pv (.lit (.string name))), (2, .pv (slU args)), (6, .ptr 0 0), (9, .ptr 1 0), (47, .pv (slCd l)), (48, lt' .i64 l.length), (49, lt' .i64 j)], [boxOc0, boxRn 2 4 3 rn0, oIn (mapOf (l.take j)), oDoes, rowI []])) (fun j => l.length - j) 0 (And.intro (Nat.zero_le _) (fun i h => absurd h (Nat.not_lt_zero _))) ?_ ?_
    · refine @Exists.intro Ren _ [some 0, some 1, some 2, some 3, some 4] ?_
      repeat' first | refine And.intro ?_ ?_ | exact rfl | exact trivial
    rintro j ⟨hj, hb⟩
    refine And.intro ?_ ?_
    · intro h
      have hlt : j < l.length := by have := of_decide_eq_true h; omega
      refine And.intro (Int.natCast_nonneg j) (And.intro (by omega) ?_)
      refine draw_lex tabOk mixed false false (by kernel_rfl) ?_
      refine And.intro ?_ ?_
      · intro y hy
        have hd : dupAt l j = true := by unfold dupAt; rw [show findC (l.take j) (l.getD j dCd).name = some y from hy]; rfl
        have hrun : runAll l name args = (dOc, [], 9) := by unfold runAll; rw [if_neg hnb]; unfold someDup; rw [if_pos (any_at hlt hd)]
        rw [hrun]
        repeat' first | refine And.intro ?_ ?_ | exact rfl | exact trivial | (intro hb2; first | exact Bool.noConfusion hb2 | clear hb2)
      · intro hy
        have hd : dupAt l j = false := by unfold dupAt; rw [show findC (l.take j) (l.getD j dCd).name = none from hy]; rfl
        refine And.intro ?_ ?_
        · intro hb2; exact Bool.noConfusion hb2
        intro _
        refine draw_lex tabOk mixed false false (by kernel_rfl) ?_
        refine @Exists.intro Cd _ (l.getD j dCd) (And.intro rfl ?_)
        refine Exists.intro (j + 1) (And.intro (by omega) (And.intro (And.intro hlt (hb.next hd)) (@Exists.intro Ren _ [some 0, some 1, some 2, some 3, some 4] ?_)))
        repeat' first | refine And.intro ?_ ?_ | exact rfl | exact trivial | exact mt_int (wrap_succ (by omega)) | exact mt_oIn (mapOf_next hlt hd)
    · intro h
      have hj' : j = l.length := by have := of_decide_eq_false h; omega
      subst hj'
      rw [List.take_length]
      refine Exists.intro () (And.intro hb (@Exists.intro Ren _ [some 0, some 1, some 2, some 3, some 4] ?_))
      repeat' first | refine And.intro ?_ ?_ | exact rfl | exact trivial
  rintro ⟨⟩ hdup
  have hnd : ¬ someDup l = true := by unfold someDup; rw [hdup.any]; decide
  refine Tri.of tabOk (by kernel_rfl) ?_
  cases hfind : findC l name with
  | none =>
    have hrun : runAll l name args = (dOc, [], 22) := by unfold runAll; rw [if_neg hnb, if_neg hnd, hfind]
    rw [hrun]
    repeat' first
      | refine And.intro ?_ ?_
      | (intro y hy; rw [show look KK.str (mapOf l) name = none from hfind] at hy; cases hy)
      | (intro hb; first | exact Bool.noConfusion hb | clear hb)
      | exact rfl
      | exact trivial
  | some c =>
    have hf := hin.fine _ _ hfind
    have hcw := hin.ok _ _ hfind
    have hcn := cellsN_le hf.par
    have hnp := hf.np
    have hwn : wordsN c.params ≤ c.params.length := List.countP_le_length
    have ew : IntKind.i64.wrap ((wordsN c.params : Int) + (cellsN c.params : Int)) = ((wordsN c.params + cellsN c.params : Nat) : Int) := by rw [wrap_small (by omega) (by omega)]; omega
    by_cases hal2 : args.length = wordsN c.params + cellsN c.params
    case neg =>
      have hrun : runAll l name args = (dOc, [], 1) := by unfold runAll; rw [if_neg hnb, if_neg hnd, hfind]; dsimp only; rw [if_pos hal2]
      rw [hrun]
      have e1 : ((args.length : Int) != IntKind.i64.wrap ((wordsN c.params : Int) + (cellsN c.params : Int))) = true := by rw [ew, bne_iff_ne]; omega
      repeat' first
        | refine And.intro ?_ ?_
        | (intro y hy; rw [show look KK.str (mapOf l) name = some c from hfind] at hy; cases hy)
        | (intro hy; rw [show look KK.str (mapOf l) name = some c from hfind] at hy; cases hy; done)
        | (intro hb; first | exact Bool.noConfusion hb | (rw [e1] at hb; exact Bool.noConfusion hb) | clear hb)
        | refine Or.inl (Exists.intro [.pv (slTy c.params)] (Exists.intro _ (And.intro (FitAL.self rfl) (And.intro (sizes_fine hf) ?_))))
        | exact rfl
        | exact trivial
    have e1 : ((args.length : Int) != IntKind.i64.wrap ((wordsN c.params : Int) + (cellsN c.params : Int))) = false := by rw [ew, bne_eq_false_iff_eq]; omega
    have hrunc : RunC (mapOf l) c args 0 rn0 (runR (findC l) 32 c args rn0) := runs_at hin 32 0 rfl c args rn0 hcw hf h0 hal2 rfl (by decide)
    have hrok := runR_ok hin 32 hcw hf args rn0 h0 hal2
    have hrun : runAll l name args = (if (runR (findC l) 32 c args rn0).r.wrong ≠ 0 then (dOc, [], (runR (findC l) 32 c args rn0).r.wrong)
      else (⟨(runR (findC l) 32 c args rn0).result, (runR (findC l) 32 c args rn0).cells.take (runR (findC l) 32 c args rn0).cell⟩, (runR (findC l) 32 c args rn0).r.went, 0)) := by
      unfold runAll; rw [if_neg hnb, if_neg hnd, hfind]; dsimp only; rw [if_neg (by simpa using hal2)]
    rw [hrun]
    generalize runR (findC l) 32 c args rn0 = y at hrunc hrok ⊢
    have hcell := hrok.cell
    have hbadr := hrok.bad
    have hcl0 := hrok.small
    clear hrun hin hrok
    refine And.intro ?_ ?_
    case refine_2 => intro hy; rw [show look KK.str (mapOf l) name = some c from hfind] at hy; cases hy
    intro y' hy
    rw [show look KK.str (mapOf l) name = some c from hfind] at hy
    cases hy
    by_cases hwr : y.r.wrong = 0
    · have hwb : (y.r.wrong != 0) = false := by rw [hwr]; rfl
      rw [if_neg (by simpa using hwr)]
      repeat' first
        | refine And.intro ?_ ?_
        | (intro hb; first | exact Bool.noConfusion hb | (rw [e1] at hb; exact Bool.noConfusion hb) | (have hb2 : (y.r.wrong != 0) = true := hb; rw [hwb] at hb2; exact Bool.noConfusion hb2) | clear hb)
        | refine Or.inl (Exists.intro [.pv (slTy c.params)] (Exists.intro _ (And.intro (FitAL.self rfl) (And.intro (sizes_fine hf) ?_))))
        | refine Or.inr (Or.inl (ImpStep.mk' [some 1, some 2, some 3, some 4] hrunc rfl ?_ ?_ ?_))
        | refine draw_plan tabOk mixed false true [0, 2, 5, 6, 7] 7 [(6, .ptr 0 0), (7, .own 2), (8, lt' .i64 0)] [.box [.pv (pu32 y.result), .own 1], rowU (y.cells.take y.cell), rowI y.r.went] (by kernel_rfl) ?_ ?_
        | refine @Exists.intro (List Int) _ [] (And.intro rfl (And.intro trivial ?_))
        | refine @Exists.intro (List Int) _ ((y.cells.drop 0).take y.cell) (And.intro (And.intro rfl (And.intro ?_ rfl)) ?_)
        | (intro p hp; obtain ⟨q', _, e'⟩ := List.mem_map.1 hp; exact Exists.intro q' e'.symm)
        | exact rfl
        | exact trivial
      all_goals try refine @Exists.intro Ren _ [some 0, some 9, some 6] ?_
      all_goals repeat' first | refine And.intro ?_ ?_ | exact rfl | exact trivial
      all_goals first
        | omega
        | (have hc := hf.cells
           show (0 + ((y.cells.drop 0).take y.cell).length) * 4 ≤ 140737488355328
           rw [List.length_take, List.length_drop]
           omega)
    · have hwb : (y.r.wrong != 0) = true := by rw [bne_iff_ne]; exact hwr
      rw [if_pos hwr]
      repeat' first
        | refine And.intro ?_ ?_
        | (intro hb; first | exact Bool.noConfusion hb | (rw [e1] at hb; exact Bool.noConfusion hb) | (have hb2 : (y.r.wrong != 0) = false := hb; rw [hwb] at hb2; exact Bool.noConfusion hb2) | clear hb)
        | refine Or.inl (Exists.intro [.pv (slTy c.params)] (Exists.intro _ (And.intro (FitAL.self rfl) (And.intro (sizes_fine hf) ?_))))
        | refine Or.inr (Or.inl (ImpStep.mk' [some 1, some 2, some 3, some 4] hrunc rfl ?_ ?_ ?_))
        | refine draw_plan tabOk mixed false false [0, 1, 2, 3] 4 [(6, .ptr 0 0), (7, .nil), (8, lt' .i64 y.r.wrong)] [boxOc0] (by kernel_rfl) ?_ ?_
        | (intro p hp; obtain ⟨q', _, e'⟩ := List.mem_map.1 hp; exact Exists.intro q' e'.symm)
        | exact rfl
        | exact trivial
      all_goals try refine @Exists.intro Ren _ [some 0] ?_
      all_goals repeat' first | refine And.intro ?_ ?_ | exact rfl | exact trivial
end Go.Vx

namespace Go.Vx
open Go.Proofs


def awakeI : Cd := ⟨nmAF, [], 3, 0, [irK 0 5, ⟨2, 0, 1, 0, 0, 0, 0, ByteArray.empty, []⟩, irB 1 2 0 1, irR 2]⟩
theorem awakeI_run : runAll [awakeI] nmAF [] = (⟨10, []⟩, [], 0) := by kernel_rfl
theorem awakeI_right : rightR awakeI = (0, -1) := by kernel_rfl
theorem awakeI_small : Small awakeI := ⟨by decide, by decide, by decide, by decide⟩

set_option maxRecDepth 100000 in
set_option maxHeartbeats 1000000 in
theorem awake07 : PureCall Try.prog 29 [] (lb true) := by
  have hr := irun_run (l := [awakeI]) (name := nmAF) (args := []) (fun c hc => by rw [List.mem_singleton] at hc; rw [hc]; exact awakeI_small) (fun c hc => by rw [List.mem_singleton] at hc; rw [hc]; unfold CdOk IrOk; decide) (by decide) (fun v hv => by cases hv) (by decide)
  rw [awakeI_run] at hr
  have hk := irun_right awakeI awakeI_small
  rw [awakeI_right] at hk
  refine pure_rule tabOk Try.func29 rfl (by kernel_rfl) (by kernel_rfl) (Nat.le_of_ble_eq_true rfl) ?_
  show awp Try.prog tab 45 (bodyOf Try.f29) _ _ _
  refine Exists.intro awakeI.l (And.intro rfl (And.intro ?_ ?_))
  · repeat' refine And.intro ?_ ?_
    all_goals first | rfl | exact trivial
  refine Exists.intro [awakeI] (And.intro rfl (And.intro ?_ ?_))
  · repeat' refine And.intro ?_ ?_
    all_goals first | rfl | exact trivial
  refine Or.inl (Exists.intro [.pv (slCd [awakeI]), .pv (.lit (.string nmAF)), .pv (slU [])] (Exists.intro _ (And.intro ?_ (And.intro hr ?_))))
  · repeat' refine And.intro ?_ ?_
    all_goals first | rfl | exact trivial
  refine Or.inl (Exists.intro [aCd awakeI] (Exists.intro _ (And.intro ?_ (And.intro hk ?_))))
  · repeat' refine And.intro ?_ ?_
    all_goals first | rfl | exact trivial
  repeat' first
    | refine And.intro ?_ ?_
    | (intro h; try simp only [Bool.not_true, Bool.not_false, cond_true, cond_false, reduceCtorEq] at h; try (replace h : True := h; clear h))
    | refine fit_bool (H := []) ?_
  all_goals first
    | trivial
    | decide
    | exact absurd ‹_ = false› (by decide)

theorem small_of_light {c : Cd} (h : lightB [c] = true) : Small c := Small.of_light h

set_option maxRecDepth 100000 in
theorem irun_rights (c : Cd) : PureCall Try.prog 7 [aCd c] (lb true) := by
  refine pure_ruleS tabOk Try.func7 rfl (by kernel_rfl) (Nat.le_of_ble_eq_true rfl) ?_
  show Tri Try.prog 37 (bodyOf Try.f7) _ _ _
  refine cut_rule tabOk (by kernel_rfl) 4 (X := Unit) (fun _ => lightB [c] = true) (fun _ => ([(1, .ptr 0 0), (3, lb true)], [boxCd c])) ?_ ?_
  · refine Or.inl ⟨_, _, FitAL.self rfl, awake07, ?_⟩
    refine Exists.intro [c] (And.intro rfl (And.intro (And.intro (And.intro rfl (And.intro rfl (And.intro rfl (And.intro rfl (And.intro rfl trivial))))) trivial) ?_))
    refine Or.inl (Exists.intro [.pv (slCd [c])] (Exists.intro _ (And.intro (And.intro rfl trivial) (And.intro (ref_light [c]) ?_))))
    repeat' first
      | refine And.intro ?_ ?_
      | (intro h; try simp only [Bool.not_true, Bool.not_false, cond_true, cond_false, reduceCtorEq] at h; try (replace h : True := h; clear h))
      | refine fit_bool (H := []) ?_
    all_goals try rfl
    all_goals try refine Exists.intro () (And.intro ?_ (Exists.intro [some 0] (And.intro rfl (And.intro (And.intro rfl (And.intro rfl trivial)) (And.intro mCd trivial)))))
    all_goals simp only [Bool.not_eq_eq_eq_not, Bool.not_true, Bool.not_false] at *
    all_goals assumption
  rintro ⟨⟩ hlight
  have hs := Small.of_light hlight
  have h1 := irun_right c hs
  have h2 := ref_right c hs
  generalize rightR c = y at h1 h2
  refine Tri.of tabOk (by kernel_rfl) ?_
  repeat' first
    | refine And.intro ?_ ?_
    | (intro h; first | exact absurd h (by decide) | (rw [beq_self_eq_true] at h; exact absurd h (by decide)) | (try simp only [Bool.not_true, Bool.not_false, cond_true, cond_false, reduceCtorEq] at h; try (replace h : True := h; clear h)))
    | refine fit_bool (H := []) ?_
    | refine Or.inl (Exists.intro [aCd c] (Exists.intro _ (And.intro (FitAL.self rfl) (And.intro h1 ?_))))
    | refine Or.inl (Exists.intro [aCd c] (Exists.intro _ (And.intro (FitAL.self rfl) (And.intro h2 ?_))))
  all_goals simp only [beq_self_eq_true, cond_true]
end Go.Vx

