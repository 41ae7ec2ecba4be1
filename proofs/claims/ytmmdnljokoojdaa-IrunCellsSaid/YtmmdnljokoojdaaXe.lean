/- Contracts: folding what is folded. No condition: these are lemmas for the laws. -/
import Derived.Test.YtmmdnljokoojdaaXd
set_option linter.unusedVariables false
set_option linter.unusedSimpArgs false
namespace Go.Vx
open Go.Proofs

/-! ### Folding again -/
theorem foldIr_cases (x : Ir) (w : Int × Bool) : foldIr x w = x ∨ (w.2 = true ∧ (x.kind = 2 ∨ x.kind = 3 ∨ x.kind = 4) ∧ foldIr x w = ⟨1, 0, x.d, 0, 0, 0, w.1, ByteArray.empty, []⟩) := by
  unfold foldIr
  cases hb : (w.2 && (x.kind == 2 || (x.kind == 3 || x.kind == 4)))
  · exact .inl rfl
  · simp only [Bool.and_eq_true, Bool.or_eq_true, beq_iff_eq] at hb
    exact .inr ⟨hb.1, hb.2, rfl⟩
theorem foldIr_again (x : Ir) (m : IM) : worked (foldIr x (worked x m)) m = worked x m ∧ foldIr (foldIr x (worked x m)) (worked x m) = foldIr x (worked x m) ∧ (foldIr x (worked x m)).d = x.d ∧
    ((worked x m).2 = false → foldIr x (worked x m) = x) := by
  rcases foldIr_cases x (worked x m) with h | ⟨h1, h2, h3⟩
  · rw [h]; exact ⟨rfl, h, rfl, fun _ => rfl⟩
  · rw [h3]
    refine ⟨?_, ?_, rfl, fun h => by rw [h1] at h; cases h⟩
    · show ((worked x m).1, true) = worked x m
      rw [← h1]
    · unfold foldIr
      simp
theorem goalStep_fold (g : BM) (x : Ir) (w : Int × Bool) : goalStep g (foldIr x w) = goalStep g x := by
  rcases foldIr_cases x w with h | ⟨_, h2, h3⟩
  · rw [h]
  · rw [h3]
    unfold goalStep
    have e : (x.kind == 8 || x.kind == 9) = false := by
      rw [Bool.or_eq_false_iff, beq_eq_false_iff_ne, beq_eq_false_iff_ne]; omega
    rw [e]; rfl
theorem foldl_getD {β : Type} (f : β → Ir → β) (b : β) : ∀ (l1 l2 : List Ir), l1.length = l2.length → (∀ i, i < l1.length → ∀ g, f g (l1.getD i dIr) = f g (l2.getD i dIr)) → l1.foldl f b = l2.foldl f b
  | [], [], _, _ => rfl
  | x :: l1, y :: l2, hl, h => by
    have h0 := h 0 (by simp) b
    simp only [List.getD_cons_zero] at h0
    rw [List.foldl_cons, List.foldl_cons, h0]
    exact foldl_getD f (f b y) l1 l2 (by simpa using hl) (fun i hi g => by have := h (i + 1) (by simpa using hi) g; simpa using this)
  | [], _ :: _, h, _ => by simp at h
  | _ :: _, [], h, _ => by simp at h
theorem foldL_get (l : List Ir) {i : Nat} (h : i < l.length) : ∃ w, (foldL l).getD i dIr = foldIr (l.getD i dIr) w := foldTo_get (goalM l) l l.length i h
theorem goalM_fold (l : List Ir) : goalM (foldL l) = goalM l := by
  unfold goalM
  refine foldl_getD _ _ _ _ (foldL_length l) fun i hi g => ?_
  rw [foldL_length] at hi
  obtain ⟨w, hw⟩ := foldL_get l hi
  rw [hw, goalStep_fold]

/-- What lies at a place does not hang on how far was gone. -/
theorem foldTo_stable (g : BM) (l : List Ir) (i : Nat) : ∀ (k : Nat), i < k → (foldTo g l k).2.getD i dIr = (foldStep g i (foldTo g l i) (l.getD i dIr)).2.getD i dIr
  | 0, h => absurd h (Nat.not_lt_zero _)
  | k + 1, h => by
    rcases Nat.lt_or_ge i k with h1 | h1
    · rw [← foldTo_stable g l i k h1]
      simp only [foldTo, foldStep]
      rw [List.getD_eq_getElem?_getD, List.getElem?_append_left (by rw [foldTo_length]; exact h1), ← List.getD_eq_getElem?_getD]
    · obtain rfl : i = k := by omega
      rfl
theorem foldTo_at (g : BM) (l : List Ir) {i k : Nat} (h : i < k) : (foldTo g l k).2.getD i dIr = foldIr (l.getD i dIr) (worked (l.getD i dIr) (fresh (isGoal g i) (foldTo g l i).1)) := by
  rw [foldTo_stable g l i k h]
  simp only [foldStep]
  rw [List.getD_eq_getElem?_getD, List.getElem?_append_right (by rw [foldTo_length]; exact Nat.le_refl _), foldTo_length, Nat.sub_self]
  rfl
theorem foldKn_again (x : Ir) (m : IM) : foldKn (foldIr x (worked x m)) (worked x m) m = foldKn x (worked x m) m := by
  obtain ⟨_, _, h3, h4⟩ := foldIr_again x m
  unfold foldKn
  cases hw : (worked x m).2
  · rw [h4 hw]
  · rw [h3]; rfl
theorem foldTo_again (g : BM) (l : List Ir) (l' : List Ir) (hl : ∀ i, i < l.length → l'.getD i dIr = (foldTo g l l.length).2.getD i dIr) : ∀ k, k ≤ l.length → foldTo g l' k = foldTo g l k
  | 0, _ => rfl
  | k + 1, hk => by
    have ih := foldTo_again g l l' hl k (by omega)
    simp only [foldTo]
    rw [ih, hl k hk, foldTo_at g l hk]
    generalize l.getD k dIr = x
    simp only [foldStep]
    generalize fresh (isGoal g k) (foldTo g l k).1 = m
    obtain ⟨h1, h2, _, _⟩ := foldIr_again x m
    rw [h1, h2, foldKn_again]
theorem fold_again (l : List Ir) : foldL (foldL l) = foldL l := by
  have h := foldTo_again (goalM l) l (foldL l) (fun i hi => rfl) l.length (Nat.le_refl _)
  show (foldTo (goalM (foldL l)) (foldL l) (foldL l).length).2 = _
  rw [goalM_fold, foldL_length, h]
  rfl

/-! What is right still is, folded. -/
theorem reads_const (d n : Int) : reads ⟨1, 0, d, 0, 0, 0, n, ByteArray.empty, []⟩ = [] := rfl
theorem writes_234 {x : Ir} (h : x.kind = 2 ∨ x.kind = 3 ∨ x.kind = 4) : writes x = true := by
  unfold writes
  rcases h with h | h | h <;> rw [h] <;> rfl
theorem wrong_fold {c : Cd} {i : Nat} (hi : i < c.l.length) (h : wrongI c i = 0) : wrongI (foldD c) i = 0 := by
  obtain ⟨w, hw⟩ := foldL_get c.l hi
  have hlen : (foldD c).l.length = c.l.length := foldL_length c.l
  unfold wrongI at h ⊢
  show wrongX (foldD c) ((foldL c.l).getD i dIr) i = 0
  rw [hw]
  generalize c.l.getD i dIr = x at h
  have hsame : wrongX (foldD c) x i = wrongX c x i := by
    unfold wrongX badReg badAddr badJump badEnd outReg
    rw [hlen]; rfl
  rcases foldIr_cases x w with e | ⟨_, h2, e⟩
  · rw [e, hsame]; exact h
  · rw [e]
    unfold wrongX at h
    cases b1 : badOp x
    case true => rw [b1] at h; simp at h
    cases b2 : badReg c x
    case true => rw [b1, b2] at h; simp at h
    cases b3 : badAddr c x
    case true => rw [b1, b2, b3] at h; simp at h
    cases b4 : badJump c x i
    case true => rw [b1, b2, b3, b4] at h; simp at h
    cases b5 : badEnd c x i
    case true => rw [b1, b2, b3, b4, b5] at h; simp at h
    rw [badReg_w (writes_234 h2), List.any_append, Bool.or_eq_false_iff] at b2
    have hd : outReg c x.d = false := by simpa using b2.2
    have hend : ((i : Int) == IntKind.i64.wrap (c.l.length - 1)) = false := by
      unfold badEnd at b5
      have : (x.kind != 10) = true := by rw [bne_iff_ne]; omega
      rwa [this, Bool.and_true] at b5
    have c2 : badReg (foldD c) ⟨1, 0, x.d, 0, 0, 0, w.1, ByteArray.empty, []⟩ = false := by
      show (false || (true && outReg c x.d)) = false
      rw [hd]; rfl
    have c5 : badEnd (foldD c) ⟨1, 0, x.d, 0, 0, 0, w.1, ByteArray.empty, []⟩ i = false := by
      show (((i : Int) == IntKind.i64.wrap ((foldD c).l.length - 1)) && _) = false
      rw [hlen, hend]; rfl
    unfold wrongX
    rw [c2, c5]
    rfl
theorem firstWrong_ok {c : Cd} : ∀ (n i : Nat), (firstWrong c n i).1 = 0 → ∀ j, i ≤ j → j < i + n → wrongI c j = 0
  | 0, i, _, j, h1, h2 => by omega
  | n + 1, i, h, j, h1, h2 => by
    rw [firstWrong] at h
    cases hb : (wrongI c i != 0)
    · rw [hb] at h
      rcases Nat.eq_or_lt_of_le h1 with rfl | h3
      · simpa using hb
      · exact firstWrong_ok n (i + 1) h j h3 (by omega)
    · rw [hb] at h
      simp only [cond_true] at h
      simp [h] at hb
theorem firstWrong_none {c : Cd} : ∀ (n i : Nat), (∀ j, i ≤ j → j < i + n → wrongI c j = 0) → firstWrong c n i = (0, -1)
  | 0, i, _ => rfl
  | n + 1, i, h => by
    rw [firstWrong, h i (Nat.le_refl _) (by omega)]
    exact firstWrong_none n (i + 1) fun j h1 h2 => h j (by omega) (by omega)
theorem right_fold {c : Cd} (h : (rightR c).1 = 0) : rightR (foldD c) = (0, -1) := by
  have hf : formOk c = true := by
    cases hb : formOk c
    · rw [right_form hb] at h; simp at h
    · rfl
  have hf' : formOk (foldD c) = true := by
    rw [formOk_iff] at hf ⊢
    have hlen : (foldD c).l.length = c.l.length := foldL_length c.l
    rw [hlen]
    exact hf
  unfold rightR at h ⊢
  rw [hf] at h
  rw [hf']
  refine firstWrong_none _ _ fun j _ h2 => ?_
  have h2 : j < c.l.length := by
    have : (foldD c).l.length = c.l.length := foldL_length c.l
    omega
  exact wrong_fold h2 (firstWrong_ok _ _ h j (Nat.zero_le _) (by omega))

/-! How many are known. -/
def isK (x : Ir) : Bool := x.kind == 1
theorem known_count : ∀ (l : List Ir) (n : Nat), n + l.length ≤ 1000000 → l.foldl knStep (n : Int) = ((n + l.countP isK : Nat) : Int)
  | [], n, _ => by simp
  | x :: l, n, h => by
    rw [List.length_cons] at h
    rw [List.foldl_cons, knStep, List.countP_cons]
    have e : isK x = (x.kind == 1) := rfl
    rw [e]
    cases (x.kind == 1)
    · rw [cond_false, known_count l n (by omega)]
      simp
    · rw [cond_true, wrap_succ (by omega), known_count l (n + 1) (by omega)]
      simp
      omega
theorem knownN_count {l : List Ir} (h : l.length ≤ 1000000) : knownN l = (l.countP isK : Nat) := by
  have := known_count l 0 (by omega)
  rw [Nat.zero_add] at this
  exact this
theorem countP_le : ∀ (l1 l2 : List Ir), l1.length = l2.length → (∀ i, i < l1.length → isK (l1.getD i dIr) = true → isK (l2.getD i dIr) = true) → l1.countP isK ≤ l2.countP isK
  | [], [], _, _ => Nat.le_refl _
  | x :: l1, y :: l2, hl, h => by
    rw [List.countP_cons, List.countP_cons]
    have h0 := h 0 (by simp)
    simp only [List.getD_cons_zero] at h0
    have ih := countP_le l1 l2 (by simpa using hl) (fun i hi g => by have := h (i + 1) (by simpa using hi) (by simpa using g); simpa using this)
    cases hx : isK x
    · simp; omega
    · rw [h0 hx]; simp; exact ih
  | [], _ :: _, h, _ => by simp at h
  | _ :: _, [], h, _ => by simp at h
theorem known_more (l : List Ir) (h : l.length ≤ 1000000) : knownN l ≤ knownN (foldL l) := by
  have hl := foldL_length l
  rw [knownN_count h, knownN_count (by omega)]
  have := countP_le l (foldL l) hl.symm (fun i hi hk => by
    obtain ⟨w, hw⟩ := foldL_get l hi
    rw [hw]
    rcases foldIr_cases (l.getD i dIr) w with e | ⟨_, _, e⟩
    · rw [e]; exact hk
    · rw [e]; rfl)
  omega
end Go.Vx

namespace Go.Vx
open Go.Proofs

theorem foldD_D (c : Cd) : foldD (foldD c) = foldD c := by
  show (⟨c.name, c.params, c.regs, c.cells, foldL (foldL c.l)⟩ : Cd) = _
  rw [fold_again]; rfl
theorem Small.fold {c : Cd} (h : Small c) : Small (foldD c) := by
  have hlen : (foldD c).l.length = c.l.length := foldL_length c.l
  refine ⟨h.name, h.params, by rw [hlen]; exact h.l, fun x hx => ?_⟩
  obtain ⟨i, hi, rfl⟩ := List.getElem_of_mem hx
  have hi' : i < c.l.length := by omega
  obtain ⟨w, hw⟩ := foldL_get c.l hi'
  have e : (foldL c.l).getD i dIr = (foldD c).l[i] := by
    rw [List.getD_eq_getElem?_getD]
    have : i < (foldL c.l).length := by rw [foldL_length]; exact hi'
    rw [List.getElem?_eq_getElem this]; rfl
  rw [← e, hw]
  rcases foldIr_cases (c.l.getD i dIr) w with e | ⟨_, _, e⟩
  · rw [e]; exact h.ir _ (by rw [List.getD_eq_getElem?_getD, List.getElem?_eq_getElem hi']; exact List.getElem_mem hi')
  · rw [e]; exact ⟨Nat.zero_le _, Nat.zero_le _⟩
theorem foldL_n {l : List Ir} (h : ∀ x ∈ l, 0 ≤ x.n) : ∀ x ∈ foldL l, 0 ≤ x.n := by
  intro x hx
  obtain ⟨i, hi, rfl⟩ := List.getElem_of_mem hx
  have hi' : i < l.length := by rw [foldL_length] at hi; exact hi
  have e : (foldL l).getD i dIr = (foldL l)[i] := by rw [List.getD_eq_getElem?_getD, List.getElem?_eq_getElem hi]; rfl
  rw [← e]
  have hx0 : 0 ≤ (l.getD i dIr).n := h _ (by rw [List.getD_eq_getElem?_getD, List.getElem?_eq_getElem hi']; exact List.getElem_mem hi')
  show 0 ≤ ((foldTo (goalM l) l l.length).2.getD i dIr).n
  rw [foldTo_at (goalM l) l hi']
  have hm := (KnOk.to (g := goalM l) h i (by omega)).fresh (b := isGoal (goalM l) i)
  generalize l.getD i dIr = x at hx0
  rcases foldIr_cases x (worked x (fresh (isGoal (goalM l) i) (foldTo (goalM l) l i).1)) with e | ⟨_, _, e⟩
  · rw [e]; exact hx0
  · rw [e]; exact worked_nonneg hx0 hm

set_option maxHeartbeats 4000000 in
set_option maxRecDepth 100000 in
theorem again_draw {a c : Cd} {Q : Exit → Env → Heap → Prop} (ha : PureCall Try.prog 27 [aCd a] (lt' .i64 (knownN a.l))) (hc : PureCall Try.prog 27 [aCd c] (lt' .i64 (knownN c.l)))
    (hlen : ((a.l.length : Int) == (c.l.length : Int)) = true) (hk : decide (knownN a.l ≥ knownN c.l) = true) (hq : Q .normal [(2, lb true)] []) :
    DrawSem Try.prog 75 11 (regionOf 11 (bodyOf Try.f4)) [(1, .ptr 0 0), (3, lb true), (5, .ptr 1 0), (10, lt' .i64 0), (11, lb true)] [boxCd c, boxCd a] Q := by
  refine draw_any tabOk mixed _ _ (by kernel_rfl) ?_ hq
  repeat' first
    | refine And.intro ?_ ?_
    | (intro h; first | exact absurd h (by decide) | (rw [hlen] at h; exact absurd h (by decide)) | (try simp only [Bool.not_true, Bool.not_false, cond_true, cond_false, reduceCtorEq] at h; try (replace h : True := h; clear h)))
    | refine Or.inl (Exists.intro [aCd a] (Exists.intro _ (And.intro (FitAL.self rfl) (And.intro ha ?_))))
    | refine Or.inl (Exists.intro [aCd c] (Exists.intro _ (And.intro (FitAL.self rfl) (And.intro hc ?_))))
    | refine Exists.intro [] (And.intro rfl (And.intro (And.intro (mt_bool ?_) trivial) trivial))
  all_goals try exact trivial
  all_goals exact hk
end Go.Vx

namespace Go.Vx
open Go.Proofs

set_option maxHeartbeats 1000000 in
set_option maxRecDepth 100000 in
theorem fold_twice (c : Cd) (hn : ∀ x ∈ c.l, 0 ≤ x.n) : PureCall Try.prog 4 [aCd c] (lb true) := by
  refine pure_ruleS tabOk Try.func4 rfl (by kernel_rfl) (Nat.le_of_ble_eq_true rfl) ?_
  show Tri Try.prog 75 (bodyOf Try.f4) _ _ _
  refine cut_rule tabOk (by kernel_rfl) 4 (X := Unit) (fun _ => lightB [c] = true) (fun _ => ([(1, .ptr 0 0), (3, lb true)], [boxCd c])) ?_ ?_
  · refine Or.inl ⟨_, _, FitAL.self rfl, awake09, ?_⟩
    refine Exists.intro [c] (And.intro rfl (And.intro (And.intro (And.intro rfl (And.intro rfl (And.intro rfl (And.intro rfl (And.intro rfl trivial))))) trivial) ?_))
    refine Or.inl (Exists.intro [.pv (slCd [c])] (Exists.intro _ (And.intro (And.intro rfl trivial) (And.intro (ref_light [c]) ?_))))
    refine And.intro ?_ ?_
    · intro h
      exact fit_bool (H := []) rfl
    · intro h
      exact Exists.intro () (And.intro (by simpa using h) (Exists.intro [some 0] (And.intro rfl (And.intro (And.intro rfl (And.intro rfl trivial)) (And.intro mCd trivial)))))
  rintro ⟨⟩ hlight
  have hs := Small.of_light hlight
  have hf := fold_fold c hs hn
  have hright := irun_right c hs
  refine cut_rule tabOk (by kernel_rfl) 2 (X := Unit) (fun _ => (rightR c).1 = 0) (fun _ => ([(1, .ptr 0 0), (3, lb true), (5, .ptr 1 0)], [boxCd c, boxCd (foldD c)])) ?_ ?_
  · cases hr : ((rightR c).1 == 0)
    · rw [foldC_no hr] at hf
      refine Or.inl (Exists.intro [aCd c] (Exists.intro _ (And.intro (FitAL.self rfl) (And.intro hf ?_))))
      refine And.intro ?_ ?_
      · intro h
        refine Or.inl (Exists.intro [aCd c] (Exists.intro _ (And.intro (FitAL.self rfl) (And.intro hright ?_))))
        repeat' first
          | refine And.intro ?_ ?_
          | (intro h; first | exact absurd h (by decide) | (rw [beq_self_eq_true] at h; exact absurd h (by decide)) | (try simp only [Bool.not_true, Bool.not_false, cond_true, cond_false, reduceCtorEq] at h; try (replace h : True := h; clear h)))
          | refine fit_bool (H := []) ?_
        all_goals rfl
      · intro h
        exact absurd h (by simp only [bne, hr]; decide)
    · rw [foldC_ok hr] at hf
      refine Or.inl (Exists.intro [aCd c] (Exists.intro _ (And.intro (FitAL.self rfl) (And.intro hf ?_))))
      refine And.intro ?_ ?_
      · intro h
        exact absurd h (by show ¬ (((0 : Int) != 0) = true); decide)
      · intro h
        exact Exists.intro () (And.intro (by simpa using hr) (Exists.intro [some 0, some 1] (And.intro rfl (And.intro (And.intro rfl (And.intro rfl (And.intro rfl trivial))) (And.intro mCd (And.intro mCd trivial))))))
  rintro ⟨⟩ hr
  have hl := hs.l
  have hdl : (foldD c).l.length = c.l.length := foldL_length c.l
  have hf2 := fold_fold (foldD c) hs.fold (foldL_n hn)
  rw [foldC_ok (by rw [right_fold hr]; rfl), foldD_D] at hf2
  have hsame := ref_same (foldD c) (foldD c) hs.fold.params hs.fold.l (fun x hx => (hs.fold.ir x hx).2)
  rw [← same_yes rfl] at hsame
  refine Tri.of tabOk (by kernel_rfl) ?_
  refine Or.inl (Exists.intro [aCd (foldD c)] (Exists.intro _ (And.intro (FitAL.self rfl) (And.intro hf2 ?_))))
  refine Or.inl (Exists.intro [aCd (foldD c), aCd (foldD c)] (Exists.intro _ (And.intro (FitAL.self rfl) (And.intro hsame ?_))))
  refine DrawSem.sub (E0 := [(1, .ptr 0 0), (3, lb true), (5, .ptr 1 0), (10, lt' .i64 0), (11, lb true)]) (H0 := [boxCd c, boxCd (foldD c)]) (Exists.intro [some 0, some 1] (And.intro rfl (And.intro (And.intro rfl (And.intro rfl (And.intro rfl (And.intro rfl (And.intro rfl trivial))))) (And.intro mCd (And.intro mCd trivial)))))
    (again_draw (fold_known (foldD c) (by omega)) (fold_known c hl) (by rw [hdl]; simp) (decide_eq_true (known_more c.l hl)) ?_)
  exact fit_bool (H := []) rfl
end Go.Vx

