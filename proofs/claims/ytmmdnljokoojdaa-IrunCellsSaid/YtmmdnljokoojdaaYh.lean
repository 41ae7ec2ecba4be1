/- One word that is stored. No condition: these are lemmas for the laws. -/
import Derived.Test.YtmmdnljokoojdaaYg
import Derived.Test.YtmmdnljokoojdaaVd
set_option linter.unusedVariables false
set_option linter.unusedSimpArgs false
namespace Go.Vx
open Go.Proofs

/-! ### One word stored -/
def ceC (len k : Nat) : Cd := ⟨nmAF, [⟨false, 0⟩, ⟨false, len⟩], 2, len, [⟨5, 0, 1, 0, 0, 0, k, ByteArray.empty, []⟩, ⟨6, 0, 0, 0, 0, 0, k, ByteArray.empty, []⟩, irR 1]⟩
theorem ce_right {len k : Nat} (h0 : 1 ≤ len) (h1 : len ≤ 16) (hk : k < len) : rightR (ceC len k) = (0, -1) := by
  have hp : ∀ t ∈ (ceC len k).params, 0 ≤ t.len ∧ t.len ≤ 16 := fun t ht => by
    simp only [ceC, List.mem_cons, List.not_mem_nil, or_false] at ht
    rcases ht with rfl | rfl
    · exact ⟨by decide, by decide⟩
    · exact ⟨by show (0 : Int) ≤ len; omega, by show (len : Int) ≤ 16; omega⟩
  have hsz := szs_eq hp (Nat.le_of_ble_eq_true rfl)
  have hwd : wordsN (ceC len k).params = 1 := by
    show wordsN [⟨false, 0⟩, ⟨false, (len : Int)⟩] = 1
    rw [wordsN_cons, wordsN_cons, if_pos rfl, if_neg (by show ¬ (len : Int) = 0; omega)]; rfl
  have hcd : cellsN (ceC len k).params = len := by
    show cellsN [⟨false, 0⟩, ⟨false, (len : Int)⟩] = len
    simp [cellsN]
  have hf : formOk (ceC len k) = true := formOk_iff.2 ⟨by kernel_rfl, Nat.le_of_ble_eq_true rfl, fun i hi => hp _ (by rw [List.getD_eq_getElem?_getD, List.getElem?_eq_getElem hi]; exact List.getElem_mem hi), by rw [hsz, hwd]; show (1 : Int) ≤ 2; decide, by show (2 : Int) ≤ 10000; decide, by rw [hsz, hcd]; exact Int.le_refl _, by show (len : Int) ≤ 4096; omega, Nat.le_of_ble_eq_true rfl, Nat.le_of_ble_eq_true rfl⟩
  unfold rightR
  rw [hf]
  have wk : IntKind.u64.wrap (k : Int) = k := wrap_u64 (by omega) (by omega)
  have wl : IntKind.u64.wrap (len : Int) = len := wrap_u64 (by omega) (by omega)
  have hb : decide ((k : Int) ≥ (len : Int)) = false := decide_eq_false (by omega)
  have w0 : wrongI (ceC len k) 0 = 0 := by
    show wrongX (ceC len k) ⟨5, 0, 1, 0, 0, 0, k, ByteArray.empty, []⟩ 0 = 0
    have hba : badAddr (ceC len k) ⟨5, 0, 1, 0, 0, 0, k, ByteArray.empty, []⟩ = false := by
      show (((5 : Int) == 5 || (5 : Int) == 6) && decide (IntKind.u64.wrap (k : Int) ≥ IntKind.u64.wrap (len : Int))) = false
      simp only [wk, wl, hb, Bool.and_false]
    unfold wrongX
    rw [hba]; rfl
  have w1 : wrongI (ceC len k) 1 = 0 := by
    show wrongX (ceC len k) ⟨6, 0, 0, 0, 0, 0, k, ByteArray.empty, []⟩ 1 = 0
    have hba : badAddr (ceC len k) ⟨6, 0, 0, 0, 0, 0, k, ByteArray.empty, []⟩ = false := by
      show (((6 : Int) == 5 || (6 : Int) == 6) && decide (IntKind.u64.wrap (k : Int) ≥ IntKind.u64.wrap (len : Int))) = false
      simp only [wk, wl, hb, Bool.and_false]
    unfold wrongX
    rw [hba]; rfl
  have w2 : wrongI (ceC len k) 2 = 0 := rfl
  show firstWrong (ceC len k) 3 0 = (0, -1)
  rw [firstWrong, w0]
  show firstWrong (ceC len k) 2 1 = (0, -1)
  rw [firstWrong, w1]
  show firstWrong (ceC len k) 1 2 = (0, -1)
  rw [firstWrong, w2]
  rfl
theorem ce_lay {cells : List Int} {k : Nat} {n : Int} (h0 : 1 ≤ cells.length) : layArgs (ceC cells.length k) (n :: cells) = ⟨[n, 0], cells, 1, cells.length, []⟩ := by
  show layStep (layStep (lay0 (ceC cells.length k) (n :: cells)) ⟨false, 0⟩) ⟨false, (cells.length : Int)⟩ = _
  have e1 : layStep (lay0 (ceC cells.length k) (n :: cells)) ⟨false, 0⟩ = ⟨[n, 0], List.replicate cells.length 0, 1, 0, cells⟩ := by
    unfold layStep
    rw [if_pos rfl]
    rfl
  rw [e1]
  unfold layStep
  rw [if_neg (by show ¬ (cells.length : Int) = 0; omega)]
  have et : ((⟨false, (cells.length : Int)⟩ : Ty).len).toNat = cells.length := rfl
  rw [et]
  have es : setRange (List.replicate cells.length 0) 0 (cells.take cells.length) = cells := by
    unfold setRange
    rw [List.take_length, List.take_zero, List.nil_append, Nat.zero_add, List.drop_eq_nil_of_le (by simp), List.append_nil]
  show Laid.mk [n, 0] (setRange (List.replicate cells.length 0) 0 (cells.take cells.length)) 1 (0 + cells.length) (cells.drop cells.length) = _
  rw [es, List.drop_length, Nat.zero_add]
theorem ce_run {cells : List Int} {k : Nat} {n : Int} (h0 : 1 ≤ cells.length) (h1 : cells.length ≤ 16) (hk : k < cells.length) :
    runAll [ceC cells.length k] nmAF (n :: cells) = (⟨cells.getD k 0, cells.set k n⟩, [], 0) := by
  have hwd : wordsN (ceC cells.length k).params = 1 := by
    show wordsN [⟨false, 0⟩, ⟨false, (cells.length : Int)⟩] = 1
    rw [wordsN_cons, wordsN_cons, if_pos rfl, if_neg (by show ¬ (cells.length : Int) = 0; omega)]; rfl
  have hcd : cellsN (ceC cells.length k).params = cells.length := by
    show cellsN [⟨false, 0⟩, ⟨false, (cells.length : Int)⟩] = cells.length
    simp [cellsN]
  have h := runAll_one (c := ceC cells.length k) (args := n :: cells) (ce_right h0 h1 hk) (by rw [hwd, hcd, List.length_cons]; omega)
  have e : runR (findC [ceC cells.length k]) 32 (ceC cells.length k) (n :: cells) rn0 = ⟨cells.getD k 0, cells.set k n, cells.length, ⟨59997, [], 0⟩⟩ := by
    rw [runR_eq]
    unfold runW
    rw [ce_lay h0]
    show loopR (callR (findC [ceC cells.length k]) (deeperR (findC [ceC cells.length k]) 32)) (ceC cells.length k) cells.length (60001 + 1) ⟨[n, 0], cells, 0, false⟩ rn0 = _
    rw [loop_step (k := 59999) rfl rfl rfl, stepF_5 rfl]
    show loopR _ _ _ (60000 + 1) ⟨[n, cells.getD k 0], cells, 1, false⟩ ⟨59999, [], 0⟩ = _
    rw [loop_step (k := 59998) rfl rfl rfl, stepF_6 rfl]
    show loopR _ _ _ (59999 + 1) ⟨[n, cells.getD k 0], cells.set k n, 2, false⟩ ⟨59998, [], 0⟩ = _
    rw [loop_step (k := 59997) rfl rfl rfl, stepF_10 rfl]
    show loopR _ _ _ (59998 + 1) ⟨[cells.getD k 0], cells.set k n, 3, true⟩ ⟨59997, [], 0⟩ = _
    rw [loop_over rfl rfl]; rfl
  rw [e, if_neg (fun h => h rfl)] at h
  refine h.trans ?_
  show (Oc.mk (cells.getD k 0) ((cells.set k n).take cells.length), ([] : List Int), (0 : Int)) = _
  rw [List.take_of_length_le (by rw [List.length_set]; exact Nat.le_refl _)]
end Go.Vx

namespace Go.Vx
open Go.Proofs

theorem fitC_u32 {H : Heap} {x y : Int} (h : x = y) : FitC H (.pv (pu32 x)) (.pv (pu32 y)) := by rw [h]; rfl
theorem ce_small (len k : Nat) : Small (ceC len k) := ⟨Nat.le_of_ble_eq_true rfl, Nat.le_of_ble_eq_true rfl, Nat.le_of_ble_eq_true rfl, fun x hx => by
  simp only [ceC, List.mem_cons, List.not_mem_nil, or_false] at hx
  rcases hx with rfl | rfl | rfl <;> exact ⟨Nat.le_of_ble_eq_true rfl, Nat.le_of_ble_eq_true rfl⟩⟩
def ceTree : PT := (.one 0 (.one 2 (.one 4 (.alt (.br 1 (.alt (.br 3 (.alt (.br 5 (.alt (.br 6 (.one 7 (.one 8 (.one 9 (.one 10 (.one 11 (.one 12 (.one 13 (.one 14 .fin)))))))) (.br 11 (.one 6 (.one 7 (.one 8 (.one 9 (.one 10 (.one 12 (.one 13 (.one 14 .fin)))))))) .no))) (.br 11 (.one 5 (.one 6 (.one 7 (.one 8 (.one 9 (.one 10 (.one 12 (.one 13 (.one 14 .fin))))))))) .no))) (.br 11 (.one 3 (.one 5 (.one 6 (.one 7 (.one 8 (.one 9 (.one 10 (.one 12 (.one 13 (.one 14 .fin)))))))))) .no))) (.br 3 (.alt (.br 1 (.alt (.br 5 (.alt (.br 6 (.one 7 (.one 8 (.one 9 (.one 10 (.one 11 (.one 12 (.one 13 (.one 14 .fin)))))))) (.br 11 (.one 6 (.one 7 (.one 8 (.one 9 (.one 10 (.one 12 (.one 13 (.one 14 .fin)))))))) .no))) (.br 11 (.one 5 (.one 6 (.one 7 (.one 8 (.one 9 (.one 10 (.one 12 (.one 13 (.one 14 .fin))))))))) .no))) (.br 5 (.alt (.br 1 (.alt (.br 6 (.one 7 (.one 8 (.one 9 (.one 10 (.one 11 (.one 12 (.one 13 (.one 14 .fin)))))))) (.br 11 (.one 6 (.one 7 (.one 8 (.one 9 (.one 10 (.one 12 (.one 13 (.one 14 .fin)))))))) .no))) (.br 11 (.one 1 (.one 6 (.one 7 (.one 8 (.one 9 (.one 10 (.one 12 (.one 13 (.one 14 .fin))))))))) .no))) (.br 11 (.alt (.br 1 (.one 5 (.one 6 (.one 7 (.one 8 (.one 9 (.one 10 (.one 12 (.one 13 (.one 14 .fin))))))))) (.br 5 (.one 1 (.one 6 (.one 7 (.one 8 (.one 9 (.one 10 (.one 12 (.one 13 (.one 14 .fin))))))))) .no))) .no)))) (.br 11 (.alt (.br 1 (.one 3 (.one 5 (.one 6 (.one 7 (.one 8 (.one 9 (.one 10 (.one 12 (.one 13 (.one 14 .fin)))))))))) (.br 3 (.alt (.br 1 (.one 5 (.one 6 (.one 7 (.one 8 (.one 9 (.one 10 (.one 12 (.one 13 (.one 14 .fin))))))))) (.br 5 (.one 1 (.one 6 (.one 7 (.one 8 (.one 9 (.one 10 (.one 12 (.one 13 (.one 14 .fin))))))))) .no))) .no))) .no)))))))

set_option maxRecDepth 100000 in
set_option maxHeartbeats 4000000 in
theorem irun_cells (cells : List Int) (at_ n : Int) (hc : ∀ v ∈ cells, U v) (hn : U n) (hat : at_ < 9223372036854775808) : PureCall Try.prog 12 [.pv (slU cells), lt' .i64 at_, .pv (pu32 n)] (lb true) := by
  refine pure_ruleS tabOk Try.func12 rfl (by kernel_rfl) (Nat.le_of_ble_eq_true rfl) ?_
  show Tri Try.prog 114 (bodyOf Try.f12) _ _ _
  refine cut_rule tabOk (by kernel_rfl) 4 (X := Nat) (fun k => 1 ≤ cells.length ∧ cells.length ≤ 16 ∧ k < cells.length) (fun k => ([(0, .pv (slU cells)), (2, .pv (pu32 n)), (7, lb true), (8, lt' .i64 k)], [])) ?_ ?_
  · refine Or.inl ⟨_, _, FitAL.self rfl, awake07, ?_⟩
    cases h1 : decide ((cells.length : Int) < 1)
    all_goals cases h2 : decide ((cells.length : Int) > 16)
    all_goals cases h3 : decide (at_ < 0)
    all_goals
      repeat' first
        | refine And.intro ?_ ?_
        | (show ((cells.length : Int) ≠ 0); have := of_decide_eq_false h1; omega)
        | (intro h; first | exact absurd h Bool.false_ne_true | exact absurd h.symm Bool.false_ne_true | (simp only [h1, h2, h3, Bool.not_true, Bool.not_false, cond_true, cond_false, reduceCtorEq] at h; done) | clear h)
        | refine fit_bool (H := []) ?_
    all_goals first
      | exact rfl
      | (have := of_decide_eq_false h1; omega)
      | (have a1 := of_decide_eq_false h1
         have a2 := of_decide_eq_false h2
         have a3 := of_decide_eq_false h3
         have hlt : at_.toNat % cells.length < cells.length := Nat.mod_lt _ (by omega)
         refine @Exists.intro Nat _ (at_.toNat % cells.length) (And.intro (And.intro (show 1 ≤ cells.length by omega) (And.intro (show cells.length ≤ 16 by omega) hlt)) (@Exists.intro Ren _ [] ?_))
         repeat' first | refine And.intro ?_ ?_ | exact rfl | exact trivial
         refine mt_int ?_
         rw [Int.tmod_eq_emod_of_nonneg (by omega), Int.natCast_emod, Int.toNat_of_nonneg (by omega)])
  rintro k ⟨hl1, hl2, hk⟩
  have hr := irun_run (l := [ceC cells.length k]) (name := nmAF) (args := n :: cells) (mem_one (ce_small _ _)) (mem_one (c := ceC cells.length k) (fun x hx => by
    simp only [ceC, List.mem_cons, List.not_mem_nil, or_false] at hx
    rcases hx with rfl | rfl | rfl <;> first | exact U.zero | exact ⟨by show (0 : Int) ≤ k; omega, by show (k : Int) < 4294967296; omega⟩)) (Nat.le_of_ble_eq_true rfl) (fun v hv => by rcases List.mem_cons.1 hv with rfl | hv; exact hn; exact hc v hv) (by rw [List.length_cons]; omega)
  rw [ce_run hl1 hl2 hk] at hr
  have wk : IntKind.u32.wrap (k : Int) = k := u32_small (by omega) (by omega)
  refine cut_rule tabOk (by kernel_rfl) 1 (X := Unit) (fun _ => True) (fun _ => ([(0, .pv (slU cells)), (2, .pv (pu32 n)), (7, lb true), (8, lt' .i64 k), (9, .ptr 0 0)], [.box [.pv (.lit (.string nmAF)), .own 1, lt' .i64 2, lt' .i64 cells.length, .own 2], .row false 42 2 Ty encTy dTy (ceC cells.length k).params, .row false 36 9 Ir encIr dIr (ceC cells.length k).l])) ?_ ?_
  · refine @Exists.intro (List Ty) _ (ceC cells.length k).params (And.intro rfl (And.intro ?_ ?_))
    · repeat' first | refine And.intro ?_ ?_ | exact rfl | exact trivial
    refine @Exists.intro (List Ir) _ (ceC cells.length k).l (And.intro rfl (And.intro ?_ ?_))
    · repeat' first | refine And.intro ?_ ?_ | exact rfl | exact trivial | exact fitC_u32 wk
    refine Exists.intro () (And.intro trivial (@Exists.intro Ren _ [some 2, some 0, some 1] ?_))
    repeat' first | refine And.intro ?_ ?_ | exact rfl | exact trivial
  rintro ⟨⟩ _
  refine cut_rule tabOk (by kernel_rfl) 1 (X := Unit) (fun _ => True) (fun _ => ([(0, .pv (slU cells)), (2, .pv (pu32 n)), (7, lb true), (8, lt' .i64 k), (10, .ptr 0 0), (12, lt' .i64 0)], [.box ((encOc ⟨cells.getD k 0, cells.set k n⟩).map .pv)])) ?_ ?_
  · have hrow : (1 + cells.length) * 4 ≤ 140737488355328 := by omega
    have e : ceC cells.length k = ⟨nmAF, (ceC cells.length k).params, 2, cells.length, (ceC cells.length k).l⟩ := rfl
    rw [e] at hr
    generalize (ceC cells.length k).params = Pa at hr ⊢
    generalize (ceC cells.length k).l = La at hr ⊢
    generalize (⟨cells.getD k 0, cells.set k n⟩ : Oc) = o at hr ⊢
    clear wk hl1 hl2 hk e
    generalize hze : (cells.length : Int) = z at hr ⊢
    generalize (k : Int) = kk
    clear hze
    refine draw_tree tabOk mixed true true ceTree [(0, .pv (slU cells)), (2, .pv (pu32 n)), (7, lb true), (8, lt' .i64 kk), (10, .ptr 0 0), (12, lt' .i64 0)] [.box ((encOc o).map .pv)] (by kernel_rfl) ?_ ?_
    · repeat' first
        | refine And.intro ?_ ?_
        | refine @Exists.intro (List Cd) _ [⟨nmAF, Pa, 2, z, La⟩] (And.intro rfl (And.intro ?_ ?_))
        | refine @Exists.intro (List Int) _ [n] (And.intro rfl (And.intro ?_ ?_))
        | refine @Exists.intro (List Int) _ cells (And.intro rfl (And.intro hrow ?_))
        | refine @Exists.intro (List AV) _ [.pv (slCd [⟨nmAF, Pa, 2, z, La⟩]), .pv (.lit (.string nmAF)), .pv (slU (n :: cells))] (Exists.intro _ (And.intro ?_ (And.intro hr ?_)))
        | exact rfl
        | exact trivial
      all_goals first
        | (refine @Exists.intro Ren _ [some 6] ?_; (repeat' first | refine And.intro ?_ ?_ | exact rfl | exact trivial); done)
        | (refine @Exists.intro Ren _ [some 5] ?_; (repeat' first | refine And.intro ?_ ?_ | exact rfl | exact trivial); done)
        | (refine @Exists.intro Ren _ [some 4] ?_; (repeat' first | refine And.intro ?_ ?_ | exact rfl | exact trivial); done)
        | (refine @Exists.intro Ren _ [some 3] ?_; (repeat' first | refine And.intro ?_ ?_ | exact rfl | exact trivial); done)
    · refine Exists.intro () (And.intro trivial (@Exists.intro Ren _ [some 0] ?_))
      repeat' first | refine And.intro ?_ ?_ | exact rfl | exact trivial
  rintro ⟨⟩ _
  clear hr wk
  have el : (cells.set k n).length = cells.length := List.length_set
  have eg : ∀ i, (cells.set k n).getD i 0 = if i = k ∧ k < cells.length then n else cells.getD i 0 := fun i => by
    rw [List.getD_eq_getElem?_getD, List.getElem?_set]
    by_cases e : k = i
    · subst e
      rw [if_pos rfl, if_pos hk, if_pos ⟨rfl, hk⟩]; rfl
    · rw [if_neg e, if_neg (fun h => e h.1.symm), List.getD_eq_getElem?_getD]
  generalize cells.set k n = A at el eg ⊢
  refine cut_rule tabOk (by kernel_rfl) 1 (X := Unit) (fun _ => True) (fun _ => ([(0, .pv (slU cells)), (2, .pv (pu32 n)), (7, lb true), (8, lt' .i64 k), (10, .ptr 0 0)], [.box ((encOc ⟨cells.getD k 0, A⟩).map .pv)])) ?_ ?_
  · refine draw_still tabOk mixed (by kernel_rfl) ?_
    repeat' first
      | refine And.intro ?_ ?_
      | exact Int.natCast_nonneg k
      | exact Int.ofNat_lt.2 hk
      | (intro h; first | exact absurd h Bool.false_ne_true | exact absurd h.symm Bool.false_ne_true | (simp only [el, Int.toNat_natCast, bne_self_eq_false, bne, beq_self_eq_true, Bool.not_false, Bool.not_true, cond_false, cond_true, reduceCtorEq] at h; done) | clear h)
      | refine fit_bool (H := []) ?_
    all_goals first | ((refine Exists.intro () (And.intro trivial (@Exists.intro Ren _ [some 0] ?_)); (repeat' first | refine And.intro ?_ ?_ | exact rfl | exact trivial)); done) | trace_state
  rintro ⟨⟩ _
  refine Tri.of tabOk (by kernel_rfl) ?_
  refine loop_rule (X := Nat) tabOk (by kernel_rfl) (fun i => i ≤ cells.length) (fun i => ([(0, .pv (slU cells)), (2, .pv (pu32 n)), (7, lb true), (8, lt' .i64 k), (10, .ptr 0 0), (13, lt' .i64 i)], [.box ((encOc ⟨cells.getD k 0, A⟩).map .pv)])) (fun i => cells.length - i) 0 (Nat.zero_le _) ?_ ?_
  · refine @Exists.intro Ren _ [some 0] ?_
    repeat' first | refine And.intro ?_ ?_ | exact rfl | exact trivial
  rintro i hi
  refine And.intro ?_ ?_
  case refine_2 =>
    intro h
    repeat' first
      | refine And.intro ?_ ?_
      | refine fit_bool (H := []) ?_
    all_goals first | exact rfl | trace_state
  intro h
  have hlt : i < cells.length := by have := of_decide_eq_true h; omega
  clear h
  have egi := eg i
  have wi : IntKind.i64.wrap ((i : Int) + 1) = ((i + 1 : Nat) : Int) := wrap_succ' (by omega) (by omega)
  have hiA : i < A.length := by omega
  refine draw_still tabOk mixed (by kernel_rfl) ?_
  cases hik : ((i : Int) == (k : Int))
  all_goals
    first
      | (have e : i ≠ k := fun e => by rw [e, beq_self_eq_true] at hik; exact Bool.noConfusion hik
         rw [if_neg (fun h => e h.1)] at egi)
      | (have e : i = k := Int.ofNat_inj.1 (eq_of_beq hik)
         rw [if_pos ⟨e, hk⟩] at egi)
    repeat' first
      | refine And.intro ?_ ?_
      | exact Int.natCast_nonneg i
      | exact Int.ofNat_lt.2 hlt
      | exact Int.ofNat_lt.2 hiA
      | (intro h; first | exact absurd h Bool.false_ne_true | exact absurd h.symm Bool.false_ne_true | (simp only [hik, el, egi, Int.toNat_natCast, bne_self_eq_false, bne, beq_self_eq_true, Bool.not_false, Bool.not_true, cond_false, cond_true, reduceCtorEq] at h; done) | clear h)
      | refine fit_bool (H := []) ?_
  all_goals first
    | (refine Exists.intro (i + 1) (And.intro (by omega) (And.intro (by omega) (@Exists.intro Ren _ [some 0] ?_)))
       repeat' first | refine And.intro ?_ ?_ | exact rfl | exact trivial | exact mt_int wi)
    | trace_state
theorem i64_hi {x : Int} (h : (Lit.int .i64 x).wf = true) : x < 9223372036854775808 := by
  simp [Lit.wf, IntKind.min, IntKind.max, IntKind.signed, IntKind.bits] at h
  omega
end Go.Vx

