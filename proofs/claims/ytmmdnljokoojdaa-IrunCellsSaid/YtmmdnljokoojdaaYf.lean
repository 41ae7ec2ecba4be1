/- Contracts: the Run of the document, and that irun.Run does what it says. No condition: these are lemmas for the laws. -/
import Derived.Test.YtmmdnljokoojdaaYe
set_option linter.unusedVariables false
set_option linter.unusedSimpArgs false
namespace Go.Vx
open Go.Proofs

theorem beq_getD_self {l : List Cd} {j : Nat} : ((l.getD j dCd).name == (l.getD j dCd).name) = true := bytes_self _
theorem idx_dup {l : List Cd} {j : Nat} (hj : j < l.length) : decide (idxI l (l.getD j dCd).name < (j : Int)) = dupAt l j := by
  have e := List.take_append_drop j l
  have ha := idxC_append (l.take j) (l.drop j) (l.getD j dCd).name
  rw [e] at ha
  unfold dupAt
  rw [findC_idx]
  have hd : idxC (l.drop j) (l.getD j dCd).name = some 0 := by
    rw [List.drop_eq_getElem_cons hj, idxC, if_pos]
    have : l[j] = l.getD j dCd := by rw [List.getD_eq_getElem?_getD, List.getElem?_eq_getElem hj]; rfl
    rw [this]; exact bytes_self _
  cases hk : idxC (l.take j) (l.getD j dCd).name with
  | some i =>
    have hi := idxC_lt hk
    rw [List.length_take] at hi
    rw [hk] at ha
    have : idxI l (l.getD j dCd).name = i := by unfold idxI; rw [ha]
    rw [this]
    exact decide_eq_true (by omega)
  | none =>
    rw [hk, hd] at ha
    have : idxI l (l.getD j dCd).name = j := by
      unfold idxI
      rw [ha]
      show ((0 + (l.take j).length : Nat) : Int) = j
      rw [List.length_take]; omega
    rw [this]
    exact decide_eq_false (by omega)

set_option maxRecDepth 10000 in
set_option maxHeartbeats 4000000 in
theorem ref_run {l : List Cd} {name : ByteArray} {args : List Int} (hs : ∀ c ∈ l, Small c) (hw : ∀ c ∈ l, CdOk c) (hl : l.length ≤ 1000000) (h0 : ∀ v ∈ args, U v) (hal : args.length ≤ 1000000) :
    PureCall Try.prog 32 [.pv (slCd l), .pv (.lit (.string name)), .pv (slU args)] (outV (runAll l name args)) := by
  refine pure_ruleS tabOk2 Try.func32 rfl (by kernel_rfl) (Nat.le_of_ble_eq_true rfl) ?_
  show Tri Try.prog 104 (bodyOf Try.f32) _ _ _
  refine cut_rule tabOk2 (by kernel_rfl) 2 (X := Unit) (fun _ => NoneTo (badAt l) l.length) (fun _ => ([(0, .pv (slCd l)), (1, .pv (.lit (.string name))), (2, .pv (slU args)), (6, .ptr 0 0)], [boxOc0])) ?_ ?_
  · refine loop_rule (X := Nat) tabOk2 (by kernel_rfl) (fun j => j ≤ l.length ∧ NoneTo (badAt l) j)
      (fun j => ([(0, .pv (slCd l)), (1, .pv (.lit (.string name))), (2, .pv (slU args)), (6, .ptr 0 0), (9, lt' .i64 j)], [boxOc0])) (fun j => l.length - j) 0 (And.intro (Nat.zero_le _) (fun i h => absurd h (Nat.not_lt_zero _))) ?_ ?_
    · refine @Exists.intro Ren _ [some 0] ?_
      repeat' first | refine And.intro ?_ ?_ | exact rfl | exact trivial
    rintro j ⟨hj, hb⟩
    refine And.intro ?_ ?_
    · intro h
      have hlt : j < l.length := by have := of_decide_eq_true h; omega
      have hcm : l.getD j dCd ∈ l := by rw [List.getD_eq_getElem?_getD, List.getElem?_eq_getElem hlt]; exact List.getElem_mem hlt
      refine And.intro (Int.natCast_nonneg j) (And.intro (by omega) ?_)
      refine Or.inl (Exists.intro [aCd (l.getD j dCd)] (Exists.intro _ (And.intro (FitAL.self rfl) (And.intro (ref_right _ (hs _ hcm)) ?_))))
      refine And.intro ?_ ?_
      · intro hbad
        have hrun : runAll l name args = (dOc, [], 6) := by unfold runAll someBad; rw [if_pos (any_at hlt hbad)]
        rw [hrun]
        refine And.intro ?_ ?_
        repeat' first | refine And.intro ?_ ?_ | exact rfl | exact trivial
      · intro hgood
        refine Exists.intro (j + 1) (And.intro (by omega) (And.intro (And.intro hlt (hb.next hgood)) (@Exists.intro Ren _ [some 0] ?_)))
        repeat' first | refine And.intro ?_ ?_ | exact rfl | exact trivial | exact mt_int (wrap_succ (by omega))
    · intro h
      have hj' : j = l.length := by have := of_decide_eq_false h; omega
      subst hj'
      refine Exists.intro () (And.intro hb (@Exists.intro Ren _ [some 0] ?_))
      repeat' first | refine And.intro ?_ ?_ | exact rfl | exact trivial
  rintro ⟨⟩ hbad
  have hin := in_ok hw hbad
  have hnb : ¬ someBad l = true := by unfold someBad; rw [hbad.any]; decide
  refine cut_rule tabOk2 (by kernel_rfl) 1 (X := Unit) (fun _ => NoneTo (dupAt l) l.length) (fun _ => ([(0, .pv (slCd l)), (1, .pv (.lit (.string name))), (2, .pv (slU args)), (6, .ptr 0 0)], [boxOc0])) ?_ ?_
  · refine loop_rule (X := Nat) tabOk2 (by kernel_rfl) (fun j => j ≤ l.length ∧ NoneTo (dupAt l) j)
      (fun j => ([(0, .pv (slCd l)), (1, .pv (.lit (.string name))), (2, .pv (slU args)), (6, .ptr 0 0), (12, lt' .i64 j)], [boxOc0])) (fun j => l.length - j) 0 (And.intro (Nat.zero_le _) (fun i h => absurd h (Nat.not_lt_zero _))) ?_ ?_
    · refine @Exists.intro Ren _ [some 0] ?_
      repeat' first | refine And.intro ?_ ?_ | exact rfl | exact trivial
    rintro j ⟨hj, hb⟩
    refine And.intro ?_ ?_
    · intro h
      have hlt : j < l.length := by have := of_decide_eq_true h; omega
      have hix := idx_dup hlt
      refine And.intro (Int.natCast_nonneg j) (And.intro (by omega) ?_)
      refine Or.inl (Exists.intro [.pv (slCd l), .pv (.lit (.string (l.getD j dCd).name))] (Exists.intro _ (And.intro (And.intro rfl (And.intro rfl trivial)) (And.intro (ref_find l _ hl) ?_))))
      refine And.intro ?_ ?_
      · intro hd
        have hd : dupAt l j = true := hix.symm.trans hd
        have hrun : runAll l name args = (dOc, [], 9) := by unfold runAll; rw [if_neg hnb]; unfold someDup; rw [if_pos (any_at hlt hd)]
        rw [hrun]
        refine And.intro ?_ ?_
        repeat' first | refine And.intro ?_ ?_ | exact rfl | exact trivial
      · intro hd
        have hd : dupAt l j = false := hix.symm.trans hd
        refine Exists.intro (j + 1) (And.intro (by omega) (And.intro (And.intro hlt (hb.next hd)) (@Exists.intro Ren _ [some 0] ?_)))
        repeat' first | refine And.intro ?_ ?_ | exact rfl | exact trivial | exact mt_int (wrap_succ (by omega))
    · intro h
      have hj' : j = l.length := by have := of_decide_eq_false h; omega
      subst hj'
      refine Exists.intro () (And.intro hb (@Exists.intro Ren _ [some 0] ?_))
      repeat' first | refine And.intro ?_ ?_ | exact rfl | exact trivial
  rintro ⟨⟩ hdup
  have hnd : ¬ someDup l = true := by unfold someDup; rw [hdup.any]; decide
  have hrf := ref_find l name hl
  cases hidx : idxC l name with
  | none =>
    have hfind : findC l name = none := by rw [findC_idx, hidx]; rfl
    have hrun : runAll l name args = (dOc, [], 22) := by unfold runAll; rw [if_neg hnb, if_neg hnd, hfind]
    have e : idxI l name = -1 := by unfold idxI; rw [hidx]
    rw [e] at hrf
    rw [hrun]
    refine Tri.of tabOk2 (by kernel_rfl) ?_
    repeat' first
      | refine And.intro ?_ ?_
      | (intro hb; first | exact absurd hb (by decide) | clear hb)
      | refine Or.inl (Exists.intro [.pv (slCd l), .pv (.lit (.string name))] (Exists.intro _ (And.intro (FitAL.self rfl) (And.intro hrf ?_))))
      | exact rfl
      | exact trivial
  | some i =>
    have hi := idxC_lt hidx
    have hfind : findC l name = some (l.getD i dCd) := by rw [findC_idx, hidx]; rfl
    have e : idxI l name = i := by unfold idxI; rw [hidx]
    rw [e] at hrf
    have e0 : decide ((i : Int) < 0) = false := decide_eq_false (by omega)
    have hf := hin.fine _ _ hfind
    have hcw := hin.ok _ _ hfind
    have hcn := cellsN_le hf.par
    have hnp := hf.np
    have hwn : wordsN (l.getD i dCd).params ≤ (l.getD i dCd).params.length := List.countP_le_length
    have hwf := words_fine hf
    have ew : IntKind.i64.wrap ((wordsN (l.getD i dCd).params : Int) + (cellsN (l.getD i dCd).params : Int)) = ((wordsN (l.getD i dCd).params + cellsN (l.getD i dCd).params : Nat) : Int) := by rw [wrap_small (by omega) (by omega)]; omega
    by_cases hal2 : args.length = wordsN (l.getD i dCd).params + cellsN (l.getD i dCd).params
    case neg =>
      have hrun : runAll l name args = (dOc, [], 1) := by unfold runAll; rw [if_neg hnb, if_neg hnd, hfind]; dsimp only; rw [if_pos hal2]
      rw [hrun]
      refine Tri.of tabOk2 (by kernel_rfl) ?_
      have e1 : ((args.length : Int) != IntKind.i64.wrap ((wordsN (l.getD i dCd).params : Int) + (cellsN (l.getD i dCd).params : Int))) = true := by rw [ew, bne_iff_ne]; omega
      repeat' first
        | refine And.intro ?_ ?_
        | (intro hb; first | (rw [e0] at hb; exact Bool.noConfusion hb) | (rw [e1] at hb; exact Bool.noConfusion hb) | clear hb)
        | refine Or.inl (Exists.intro [.pv (slCd l), .pv (.lit (.string name))] (Exists.intro _ (And.intro (FitAL.self rfl) (And.intro hrf ?_))))
        | refine Or.inl (Exists.intro [.pv (slTy (l.getD i dCd).params)] (Exists.intro _ (And.intro (And.intro rfl trivial) (And.intro hwf ?_))))
        | exact rfl
        | exact trivial
      all_goals omega
    have e1 : ((args.length : Int) != IntKind.i64.wrap ((wordsN (l.getD i dCd).params : Int) + (cellsN (l.getD i dCd).params : Int))) = false := by rw [ew, bne_eq_false_iff_eq]; omega
    have hrunc : RunD l (l.getD i dCd) args 0 rn0 (runR (findC l) 32 (l.getD i dCd) args rn0) := runs_atD hin hl 32 0 rfl _ args rn0 hcw hf h0 hal2 rfl (by decide)
    have hrok := runR_ok hin 32 hcw hf args rn0 h0 hal2
    have hrun : runAll l name args = (if (runR (findC l) 32 (l.getD i dCd) args rn0).r.wrong ≠ 0 then (dOc, [], (runR (findC l) 32 (l.getD i dCd) args rn0).r.wrong)
      else (⟨(runR (findC l) 32 (l.getD i dCd) args rn0).result, (runR (findC l) 32 (l.getD i dCd) args rn0).cells.take (runR (findC l) 32 (l.getD i dCd) args rn0).cell⟩, (runR (findC l) 32 (l.getD i dCd) args rn0).r.went, 0)) := by
      unfold runAll; rw [if_neg hnb, if_neg hnd, hfind]; dsimp only; rw [if_neg (by simpa using hal2)]
    rw [hrun]
    generalize runR (findC l) 32 (l.getD i dCd) args rn0 = y at hrunc hrok ⊢
    have hcell := hrok.cell
    have hcl0 := hrok.small
    clear hrun hin hrok
    refine cut_rule tabOk2 (by kernel_rfl) 5 (X := Unit) (fun _ => True) (fun _ => ([(0, .pv (slCd l)), (2, .pv (slU args)), (6, .ptr 0 0), (13, lt' .i64 i), (16, .ptr 1 0)], [boxOc0, boxRR 2 l rn0, rowI []])) ?_ ?_
    · repeat' first
        | refine And.intro ?_ ?_
        | (intro hb; first | (rw [e0] at hb; exact Bool.noConfusion hb) | (rw [e1] at hb; exact Bool.noConfusion hb) | clear hb)
        | refine Or.inl (Exists.intro [.pv (slCd l), .pv (.lit (.string name))] (Exists.intro _ (And.intro (FitAL.self rfl) (And.intro hrf ?_))))
        | refine Or.inl (Exists.intro [.pv (slTy (l.getD i dCd).params)] (Exists.intro _ (And.intro (And.intro rfl trivial) (And.intro hwf ?_))))
      all_goals try refine Exists.intro () (And.intro trivial (@Exists.intro Ren _ [some 0, some 1, none] ?_))
      all_goals repeat' first | refine And.intro ?_ ?_ | exact rfl | exact trivial | decide
      all_goals omega
    rintro ⟨⟩ _
    refine Tri.of tabOk2 (by kernel_rfl) ?_
    refine And.intro (Int.natCast_nonneg i) (And.intro (by omega) ?_)
    refine Or.inr (Or.inl (ImpStep.mk' [some 1, some 2] hrunc rfl ?_ ?_ ?_))
    · exact And.intro rfl (And.intro mAggC (And.intro rfl (And.intro rfl trivial)))
    · repeat' first | refine And.intro ?_ ?_ | exact rfl | exact trivial
    by_cases hwr : y.r.wrong = 0
    · have hwb : (y.r.wrong != 0) = false := by rw [hwr]; rfl
      rw [if_neg (by simpa using hwr)]
      repeat' first
        | refine And.intro ?_ ?_
        | (intro hb; first | (have hb2 : (y.r.wrong != 0) = true := hb; rw [hwb] at hb2; exact Bool.noConfusion hb2) | clear hb)
        | refine draw_plan tabOk2 mixed false false [0, 1, 2, 3, 4, 5] 4 [(6, .ptr 0 0), (7, .own 2), (8, lt' .i64 0)] [.box [.pv (pu32 y.result), .sub 1 0 1 y.cell], rowU y.cells, rowI y.r.went] (by kernel_rfl) ?_ ?_
      all_goals try refine @Exists.intro Ren _ [some 0, some 4, some 3] ?_
      all_goals repeat' first | refine And.intro ?_ ?_ | exact rfl | exact trivial
      all_goals omega
    · have hwb : (y.r.wrong != 0) = true := by rw [bne_iff_ne]; exact hwr
      rw [if_pos hwr]
      repeat' first
        | refine And.intro ?_ ?_
        | (intro hb; first | (have hb2 : (y.r.wrong != 0) = false := hb; rw [hwb] at hb2; exact Bool.noConfusion hb2) | clear hb)
        | refine draw_plan tabOk2 mixed false false [0, 1, 2, 3] 4 [(6, .ptr 0 0), (7, .nil), (8, lt' .i64 y.r.wrong)] [boxOc0] (by kernel_rfl) ?_ ?_
      all_goals try refine @Exists.intro Ren _ [some 0] ?_
      all_goals repeat' first | refine And.intro ?_ ?_ | exact rfl | exact trivial
end Go.Vx

namespace Go.Vx
open Go.Proofs

theorem U.of_wf {x : Int} (h : (Lit.int .u32 x).wf = true) : U x := by
  simp [Lit.wf, IntKind.min, IntKind.max, IntKind.signed, IntKind.bits] at h
  exact ⟨by omega, by omega⟩
theorem light_small {l : List Cd} (h : lightB l = true) : ∀ c ∈ l, Small c := fun c hc => by
  refine Small.of_light ?_
  unfold lightB at h ⊢
  simp only [Bool.and_eq_true, List.all_eq_true, List.all_cons, List.all_nil, Bool.and_true, decide_eq_true_eq] at h ⊢
  exact ⟨by simp, h.2 c hc⟩
theorem light_len {l : List Cd} (h : lightB l = true) : l.length ≤ 20 := by
  unfold lightB at h
  simp only [Bool.and_eq_true, decide_eq_true_eq] at h
  exact h.1
theorem runAll_small {l : List Cd} (hw : ∀ c ∈ l, CdOk c) {name : ByteArray} {args : List Int} (h0 : ∀ v ∈ args, U v) : (runAll l name args).1.arrays.length ≤ 1000000 ∧ (runAll l name args).2.1.length ≤ 1000000 := by
  unfold runAll
  split
  · exact ⟨Nat.zero_le _, Nat.zero_le _⟩
  rename_i hb
  split
  · exact ⟨Nat.zero_le _, Nat.zero_le _⟩
  split
  · exact ⟨Nat.zero_le _, Nat.zero_le _⟩
  rename_i c hc
  split
  · exact ⟨Nat.zero_le _, Nat.zero_le _⟩
  rename_i hal
  split
  · exact ⟨Nat.zero_le _, Nat.zero_le _⟩
  have hbn : NoneTo (badAt l) l.length := fun i hi => by
    cases h : badAt l i with
    | false => rfl
    | true => exact absurd (any_at hi h) hb
  have hin := in_ok hw hbn
  have hr := runR_ok hin 32 (hin.ok _ _ hc) (hin.fine _ _ hc) args rn0 h0 (Classical.not_not.1 hal)
  have h1 := hr.small
  have h2 := hr.le.went
  refine ⟨?_, ?_⟩
  · show (List.take _ _).length ≤ _
    rw [List.length_take]; omega
  · have h3 : rn0.went.length + rn0.left + 0 = 60000 := rfl
    show (runR (findC l) 32 c args rn0).r.went.length ≤ _
    omega
theorem self_oc {x : Oc} (hx : x.arrays.length ≤ 1000000) : PureCall Try.prog 33 [aOc x, aOc x] (lb true) := same_oc hx rfl
theorem self_ints {xs : List Int} (hx : xs.length ≤ 1000000) : PureCall Try.prog 34 [.pv (slI xs), .pv (slI xs)] (lb true) := same_ints hx rfl

set_option maxRecDepth 100000 in
theorem irun_runs (l : List Cd) (name : ByteArray) (args : List Int) (hw : ∀ c ∈ l, CdOk c) (h0 : ∀ v ∈ args, U v) : PureCall Try.prog 8 [.pv (slCd l), .pv (.lit (.string name)), .pv (slU args)] (lb true) := by
  refine pure_ruleS tabOk Try.func8 rfl (by kernel_rfl) (Nat.le_of_ble_eq_true rfl) ?_
  show Tri Try.prog 67 (bodyOf Try.f8) _ _ _
  refine cut_rule tabOk (by kernel_rfl) 4 (X := Unit) (fun _ => lightB l = true ∧ args.length ≤ 200) (fun _ => ([(0, .pv (slCd l)), (1, .pv (.lit (.string name))), (2, .pv (slU args)), (7, lb true)], [])) ?_ ?_
  · refine Or.inl ⟨_, _, FitAL.self rfl, awake07, ?_⟩
    refine Or.inl (Exists.intro [.pv (slCd l)] (Exists.intro _ (And.intro (FitAL.self rfl) (And.intro (ref_light l) ?_))))
    cases hlt : lightB l
    all_goals cases ha : decide ((args.length : Int) > 200)
    all_goals
      repeat' first
        | refine And.intro ?_ ?_
        | (intro h; first | exact Bool.noConfusion h | (simp only [ha, Bool.not_true, Bool.not_false, cond_true, cond_false, reduceCtorEq] at h; done) | clear h)
        | refine fit_bool (H := []) ?_
    all_goals first
      | exact rfl
      | (refine Exists.intro () (And.intro (And.intro rfl (by have := of_decide_eq_false ha; omega)) (@Exists.intro Ren _ [] ?_))
         repeat' first | refine And.intro ?_ ?_ | exact rfl | exact trivial)
      | skip
  rintro ⟨⟩ ⟨hlight, hal⟩
  have hll := light_len hlight
  have h1 := irun_run (name := name) (args := args) (light_small hlight) hw (by omega) h0 (by omega)
  have h2 := ref_run (name := name) (args := args) (light_small hlight) hw (by omega) h0 (by omega)
  obtain ⟨hb1, hb2⟩ := runAll_small (name := name) hw h0
  generalize runAll l name args = y at h1 h2 hb1 hb2
  obtain ⟨o, w, e⟩ := y
  refine Tri.of tabOk (by kernel_rfl) ?_
  refine Or.inl (Exists.intro [.pv (slCd l), .pv (.lit (.string name)), .pv (slU args)] (Exists.intro _ (And.intro (FitAL.self rfl) (And.intro h1 ?_))))
  refine Or.inl (Exists.intro [.pv (slCd l), .pv (.lit (.string name)), .pv (slU args)] (Exists.intro _ (And.intro (FitAL.self rfl) (And.intro h2 ?_))))
  refine Or.inl (Exists.intro [aOc o, aOc o] (Exists.intro _ (And.intro (FitAL.self rfl) (And.intro (self_oc hb1) ?_))))
  refine Or.inl (Exists.intro [.pv (slI w), .pv (slI w)] (Exists.intro _ (And.intro (FitAL.self rfl) (And.intro (self_ints hb2) ?_))))
  repeat' first
    | refine And.intro ?_ ?_
    | (intro h; first | exact Bool.noConfusion h | clear h)
    | refine fit_bool (H := []) ?_
  all_goals simp only [beq_self_eq_true, cond_true]
end Go.Vx

