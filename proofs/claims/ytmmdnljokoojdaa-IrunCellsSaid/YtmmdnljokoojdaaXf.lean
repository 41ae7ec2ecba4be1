/- Contracts: the document for folding, and that fold.Fold does what it says. No condition: these are lemmas for the laws. -/
import Derived.Test.YtmmdnljokoojdaaXe
import Derived.Test.YtmmdnljokoojdaaXd
set_option linter.unusedVariables false
set_option linter.unusedSimpArgs false
namespace Go.Vx
open Go.Proofs

/-! ### The document's answer for folding -/
def beginsB (l : List Ir) (i : Nat) : Bool := i == 0 || (endsK (l.getD (i - 1) dIr) || l.any fun x => (x.kind == 8 || x.kind == 9) && x.c == (i : Int))
def noF : Fact := ⟨false, 0⟩
def knownF (l : List Ir) (f : List Fact) (reg : Int) : Nat → Fact
  | 0 => noF
  | k + 1 => bif beginsB l (k + 1) then noF else bif writes (l.getD k dIr) && (l.getD k dIr).d == reg then f.getD k dFact else knownF l f reg k
def afterF (l : List Ir) (f : List Fact) (i : Nat) : Fact :=
  bif (l.getD i dIr).kind == 1 then ⟨true, (l.getD i dIr).n⟩
  else bif (l.getD i dIr).kind == 2 then knownF l f (l.getD i dIr).a i
  else bif (l.getD i dIr).kind == 3 then (bif (knownF l f (l.getD i dIr).a i).is && (knownF l f (l.getD i dIr).b i).is then ⟨true, (opv (l.getD i dIr).op (knownF l f (l.getD i dIr).a i).n (knownF l f (l.getD i dIr).b i).n).1⟩ else noF)
  else bif (l.getD i dIr).kind == 4 then (bif (knownF l f (l.getD i dIr).a i).is && (knownF l f (l.getD i dIr).a i).n != 0 then knownF l f (l.getD i dIr).b i else bif (knownF l f (l.getD i dIr).a i).is then knownF l f (l.getD i dIr).c i else noF)
  else noF
def factsTo (l : List Ir) : Nat → List Fact
  | 0 => []
  | k + 1 => factsTo l k ++ [afterF l (factsTo l k) k]
theorem factsTo_length (l : List Ir) : ∀ k, (factsTo l k).length = k
  | 0 => rfl
  | k + 1 => by rw [factsTo, List.length_append, factsTo_length l k]; rfl
theorem factsTo_get (l : List Ir) (i : Nat) : ∀ k, i < k → (factsTo l k).getD i dFact = afterF l (factsTo l i) i
  | 0, h => absurd h (Nat.not_lt_zero _)
  | k + 1, h => by
    rw [factsTo, List.getD_eq_getElem?_getD]
    rcases Nat.lt_or_ge i k with h1 | h1
    · rw [List.getElem?_append_left (by rw [factsTo_length]; exact h1), ← List.getD_eq_getElem?_getD, factsTo_get l i k h1]
    · obtain rfl : i = k := by omega
      rw [List.getElem?_append_right (by rw [factsTo_length]; exact Nat.le_refl _), factsTo_length, Nat.sub_self]; rfl
theorem knownF_stable (l : List Ir) (f f' : List Fact) (reg : Int) : ∀ k, (∀ i, i < k → f.getD i dFact = f'.getD i dFact) → knownF l f reg k = knownF l f' reg k
  | 0, _ => rfl
  | k + 1, h => by
    rw [knownF, knownF, h k (by omega), knownF_stable l f f' reg k (fun i hi => h i (by omega))]
def refIr (x : Ir) (f : Fact) : Ir := bif f.is && (decide (x.kind ≥ 2) && decide (x.kind ≤ 4)) then ⟨1, 0, x.d, 0, 0, 0, f.n, ByteArray.empty, []⟩ else x

def toF (w : Int × Bool) : Fact := bif w.2 then ⟨true, w.1⟩ else noF

/-! Maps whose keys stand once. -/
def Uniq (m : IM) : Prop := (m.map (·.1)).Nodup
theorem lk_upsert {m : IM} {k v j : Int} : lk (upsert KI m k v) j = if j = k then (v, true) else lk m j := by
  induction m with
  | nil =>
    simp only [upsert, lk, look, KK.eq]
    by_cases h : j = k <;> simp [h]
  | cons p m ih =>
    obtain ⟨a, y⟩ := p
    simp only [upsert, KK.eq, decide_eq_true_eq]
    by_cases h : k = a
    · subst h
      rw [if_pos rfl]
      simp only [lk, look, KK.eq, decide_eq_true_eq]
      by_cases hj : j = k <;> simp [hj]
    · rw [if_neg h]
      have e : ∀ (m' : IM), lk ((a, y) :: m') j = if j = a then (y, true) else lk m' j := by
        intro m'
        simp only [lk, look, KK.eq, decide_eq_true_eq]
        by_cases hj : j = a <;> simp [hj]
      rw [e, e, ih]
      by_cases h1 : j = a
      · subst h1
        rw [if_pos rfl, if_pos rfl, if_neg (fun h2 => h h2.symm)]
      · rw [if_neg h1, if_neg h1]
theorem mem_upsert {m : IM} {k v x : Int} (h : x ∈ (upsert KI m k v).map (·.1)) : x = k ∨ x ∈ m.map (·.1) := by
  induction m with
  | nil => simp [upsert] at h; exact .inl h
  | cons p m ih =>
    obtain ⟨a, y⟩ := p
    simp only [upsert, KK.eq, decide_eq_true_eq] at h
    by_cases hk : k = a
    · rw [if_pos hk] at h
      simp only [List.map_cons, List.mem_cons] at h ⊢
      exact .inr h
    · rw [if_neg hk] at h
      simp only [List.map_cons, List.mem_cons] at h ⊢
      rcases h with h | h
      · exact .inr (.inl h)
      · rcases ih h with h | h
        · exact .inl h
        · exact .inr (.inr h)
theorem Uniq.upsert {m : IM} (h : Uniq m) {k v : Int} : Uniq (upsert KI m k v) := by
  induction m with
  | nil => simp [Uniq, Vx.upsert]
  | cons p m ih =>
    obtain ⟨a, y⟩ := p
    unfold Uniq at h ih ⊢
    simp only [List.map_cons, List.nodup_cons] at h
    simp only [Vx.upsert, KK.eq, decide_eq_true_eq]
    by_cases hk : k = a
    · rw [if_pos hk]
      simp only [List.map_cons, List.nodup_cons]
      exact h
    · rw [if_neg hk]
      simp only [List.map_cons, List.nodup_cons]
      refine ⟨fun hm => ?_, ih h.2⟩
      rcases mem_upsert hm with h1 | h1
      · exact hk h1.symm
      · exact h.1 h1
theorem without_sub {m : IM} {k x : Int} (h : x ∈ (without KI m k).map (·.1)) : x ∈ m.map (·.1) := by
  induction m with
  | nil => exact h
  | cons p m ih =>
    obtain ⟨a, y⟩ := p
    simp only [without, KK.eq, decide_eq_true_eq] at h
    by_cases hk : k = a
    · rw [if_pos hk] at h
      exact List.mem_cons_of_mem _ h
    · rw [if_neg hk] at h
      simp only [List.map_cons, List.mem_cons] at h ⊢
      exact h.imp id ih
theorem Uniq.without {m : IM} (h : Uniq m) {k : Int} : Uniq (without KI m k) := by
  induction m with
  | nil => exact h
  | cons p m ih =>
    obtain ⟨a, y⟩ := p
    unfold Uniq at h ih ⊢
    simp only [List.map_cons, List.nodup_cons] at h
    simp only [Vx.without, KK.eq, decide_eq_true_eq]
    by_cases hk : k = a
    · rw [if_pos hk]; exact h.2
    · rw [if_neg hk]
      simp only [List.map_cons, List.nodup_cons]
      exact ⟨fun hm => h.1 (without_sub hm), ih h.2⟩
theorem lk_none {m : IM} {k : Int} (h : k ∉ m.map (·.1)) : lk m k = (0, false) := by
  induction m with
  | nil => rfl
  | cons p m ih =>
    obtain ⟨a, y⟩ := p
    simp only [List.map_cons, List.mem_cons, not_or] at h
    have := ih h.2
    simp only [lk, look, KK.eq, decide_eq_true_eq] at this ⊢
    rw [if_neg h.1]
    exact this
theorem lk_without {m : IM} (hu : Uniq m) {k j : Int} : lk (without KI m k) j = if j = k then (0, false) else lk m j := by
  induction m with
  | nil => simp [without, lk, look]
  | cons p m ih =>
    obtain ⟨a, y⟩ := p
    unfold Uniq at hu
    simp only [List.map_cons, List.nodup_cons] at hu
    simp only [without, KK.eq, decide_eq_true_eq]
    have e : ∀ (m' : IM), lk ((a, y) :: m') j = if j = a then (y, true) else lk m' j := by
      intro m'
      simp only [lk, look, KK.eq, decide_eq_true_eq]
      by_cases hj : j = a <;> simp [hj]
    by_cases hk : k = a
    · subst hk
      rw [if_pos rfl, e]
      by_cases hj : j = k
      · subst hj; rw [if_pos rfl]; exact lk_none hu.1
      · rw [if_neg hj, if_neg hj]
    · rw [if_neg hk, e, e, ih hu.2]
      by_cases h1 : j = a
      · subst h1
        rw [if_pos rfl, if_pos rfl, if_neg (fun h2 => hk h2.symm)]
      · rw [if_neg h1, if_neg h1]
end Go.Vx

namespace Go.Vx
open Go.Proofs

theorem isGoal_upsert {g : BM} {k i : Int} : isGoal (upsert KI g k true) i = (decide (i = k) || isGoal g i) := by
  induction g with
  | nil =>
    simp only [upsert, isGoal, look, KK.eq]
    by_cases h : i = k <;> simp [h]
  | cons p g ih =>
    obtain ⟨a, y⟩ := p
    have e : ∀ (z : Bool) (g' : BM), isGoal ((a, z) :: g') i = if i = a then z else isGoal g' i := by
      intro z g'
      simp only [isGoal, look, KK.eq, decide_eq_true_eq]
      by_cases hj : i = a <;> simp [hj]
    simp only [upsert, KK.eq, decide_eq_true_eq]
    by_cases h : k = a
    · subst h
      rw [if_pos rfl, e, e]
      by_cases hj : i = k <;> simp [hj]
    · rw [if_neg h, e, e, ih]
      by_cases h1 : i = a
      · subst h1
        rw [if_pos rfl, if_pos rfl, decide_eq_false (fun h2 => h h2.symm), Bool.false_or]
      · rw [if_neg h1, if_neg h1]
def jumpsTo (i : Int) (x : Ir) : Bool := (x.kind == 8 || x.kind == 9) && x.c == i
theorem isGoal_fold (i : Int) : ∀ (l : List Ir) (g : BM), isGoal (l.foldl goalStep g) i = (isGoal g i || l.any (jumpsTo i))
  | [], g => by simp
  | x :: l, g => by
    rw [List.foldl_cons, isGoal_fold i l, List.any_cons]
    unfold goalStep jumpsTo
    cases (x.kind == 8 || x.kind == 9)
    · simp
    · rw [cond_true, isGoal_upsert, Bool.true_and]
      have e : decide (i = x.c) = (x.c == i) := by
        rw [Bool.eq_iff_iff, decide_eq_true_eq, beq_iff_eq]; exact eq_comm
      rw [e]
      cases (x.c == i) <;> cases isGoal g i <;> simp
theorem isGoal_goalM (l : List Ir) (i : Int) : isGoal (goalM l) i = l.any (jumpsTo i) := by
  unfold goalM
  rw [isGoal_fold]
  rfl

theorem worked_ends {x : Ir} {m : IM} (h : endsK x = true) : (worked x m).2 = false := by
  unfold endsK at h
  simp only [Bool.or_eq_true, beq_iff_eq] at h
  unfold worked
  rcases h with h | h | h <;> rw [h] <;> rfl
theorem worked_writes {x : Ir} {m : IM} (h : (worked x m).2 = true) : writes x = true := by
  unfold worked at h
  cases h1 : (x.kind == 1)
  case true => rw [beq_iff_eq] at h1; unfold writes; rw [h1]; rfl
  cases h2 : (x.kind == 2)
  case true => rw [beq_iff_eq] at h2; exact writes_234 (.inl h2)
  cases h3 : (x.kind == 3)
  case true => rw [beq_iff_eq] at h3; exact writes_234 (.inr (.inl h3))
  cases h4 : (x.kind == 4)
  case true => rw [beq_iff_eq] at h4; exact writes_234 (.inr (.inr h4))
  rw [h1, h2, h3, h4] at h
  cases h
theorem fact_worked {x : Ir} {m : IM} {K : Int → Fact} (hK : ∀ r, toF (lk m r) = K r) (ho : x.kind = 3 → ∀ a b, (opv x.op a b).2 = true) :
    (bif x.kind == 1 then (⟨true, x.n⟩ : Fact)
  else bif x.kind == 2 then K x.a
  else bif x.kind == 3 then (bif (K x.a).is && (K x.b).is then ⟨true, (opv x.op (K x.a).n (K x.b).n).1⟩ else noF)
  else bif x.kind == 4 then (bif (K x.a).is && (K x.a).n != 0 then K x.b else bif (K x.a).is then K x.c else noF)
  else noF) = toF (worked x m) := by
  rw [← hK, ← hK, ← hK]
  unfold worked
  cases h1 : (x.kind == 1)
  case true => rfl
  cases h2 : (x.kind == 2)
  case true => rfl
  cases h3 : (x.kind == 3)
  case true =>
    have ho := ho (by simpa using h3)
    simp only [cond_true, cond_false]
    obtain ⟨a, pa⟩ := lk m x.a
    obtain ⟨b, pb⟩ := lk m x.b
    cases pa <;> cases pb <;> try rfl
    show (⟨true, (opv x.op a b).1⟩ : Fact) = toF (opv x.op a b)
    unfold toF
    rw [ho]; rfl
  cases h4 : (x.kind == 4)
  case true =>
    simp only [cond_true, cond_false]
    obtain ⟨a, pa⟩ := lk m x.a
    obtain ⟨b, pb⟩ := lk m x.b
    obtain ⟨c, pc⟩ := lk m x.c
    cases pa
    · rfl
    · show (bif a != 0 then toF (b, pb) else toF (c, pc)) = toF (bif a == 0 then (c, pc) else (b, pb))
      cases h0 : (a == 0)
      · have : (a != 0) = true := by simp only [bne, h0]; rfl
        rw [this]; rfl
      · have : (a != 0) = false := by simp only [bne, h0]; rfl
        rw [this]; rfl
  rfl

def known0 (l : List Ir) (i : Nat) : IM := fresh (isGoal (goalM l) i) (foldTo (goalM l) l i).1
theorem foldTo_uniq (g : BM) (l : List Ir) : ∀ k, Uniq (foldTo g l k).1
  | 0 => by simp [Uniq, foldTo]
  | k + 1 => by
    have h := foldTo_uniq g l k
    have hf : Uniq (fresh (isGoal g k) (foldTo g l k).1) := by
      unfold fresh
      cases isGoal g k
      · exact h
      · simp [Uniq]
    simp only [foldTo, foldStep, foldKn]
    cases (worked (l.getD k dIr) (fresh (isGoal g k) (foldTo g l k).1)).2
    · cases endsK (l.getD k dIr)
      · cases writes (l.getD k dIr)
        · exact hf
        · exact hf.without
      · simp [Uniq]
    · exact hf.upsert
theorem known0_uniq (l : List Ir) (i : Nat) : Uniq (known0 l i) := by
  unfold known0 fresh
  cases isGoal (goalM l) i
  · exact foldTo_uniq _ _ _
  · simp [Uniq]
/-- What the map knows is what the document's answer knows. -/
theorem known_same (l : List Ir) (ho : ∀ i, i < l.length → (l.getD i dIr).kind = 3 → ∀ a b, (opv (l.getD i dIr).op a b).2 = true) : ∀ i, i ≤ l.length →
    (∀ r, toF (lk (known0 l i) r) = knownF l (factsTo l i) r i)
  | 0, _ => fun r => by
    unfold known0
    have : ∀ b, fresh b ([] : IM) = [] := fun b => by cases b <;> rfl
    show toF (lk (fresh (isGoal (goalM l) 0) []) r) = noF
    rw [this]; rfl
  | i + 1, hi => fun r => by
    have ih := known_same l ho i (by omega)
    have hfact : (factsTo l (i + 1)).getD i dFact = toF (worked (l.getD i dIr) (known0 l i)) := by
      rw [factsTo_get l i (i + 1) (by omega)]
      exact fact_worked ih (ho i (by omega))
    have hst : knownF l (factsTo l (i + 1)) r i = toF (lk (known0 l i) r) := by
      rw [ih r]
      refine knownF_stable l _ _ r i fun j hj => ?_
      rw [factsTo_get l j (i + 1) (by omega), factsTo_get l j i hj]
    rw [knownF, hfact, hst]
    have hu := known0_uniq l i
    have hstep : known0 l (i + 1) = fresh (isGoal (goalM l) (i + 1 : Nat)) (foldKn (l.getD i dIr) (worked (l.getD i dIr) (known0 l i)) (known0 l i)) := rfl
    rw [hstep, isGoal_goalM]
    have hb : beginsB l (i + 1) = (endsK (l.getD i dIr) || l.any (jumpsTo ((i + 1 : Nat) : Int))) := rfl
    rw [hb]
    generalize l.getD i dIr = x
    generalize known0 l i = m at hu
    cases hj : l.any (jumpsTo ((i + 1 : Nat) : Int))
    case true => rw [Bool.or_true]; rfl
    rw [Bool.or_false]
    show toF (lk (foldKn x (worked x m) m) r) = _
    cases he : endsK x
    case true =>
      have hw := worked_ends (m := m) he
      unfold foldKn
      rw [hw, he]; rfl
    rw [cond_false]
    unfold foldKn
    cases hw : (worked x m).2
    case true =>
      have hwr := worked_writes hw
      rw [cond_true, hwr, Bool.true_and, lk_upsert]
      by_cases hd : r = x.d
      · subst hd
        rw [if_pos rfl, beq_self_eq_true, cond_true]
        unfold toF
        rw [hw]
      · rw [if_neg hd, beq_false_of_ne (fun h => hd h.symm), cond_false]
    case false =>
      rw [cond_false, he, cond_false]
      cases hwr : writes x
      · rw [cond_false, Bool.false_and, cond_false]
      · rw [cond_true, Bool.true_and, lk_without hu]
        by_cases hd : r = x.d
        · subst hd
          rw [if_pos rfl, beq_self_eq_true, cond_true]
          unfold toF
          rw [hw]; rfl
        · rw [if_neg hd, beq_false_of_ne (fun h => hd h.symm), cond_false]
theorem refIr_same (x : Ir) (w : Int × Bool) : refIr x (toF w) = foldIr x w := by
  unfold refIr foldIr toF
  cases w.2
  · rfl
  · have e : (decide (x.kind ≥ 2) && decide (x.kind ≤ 4)) = (x.kind == 2 || (x.kind == 3 || x.kind == 4)) := by
      rw [Bool.eq_iff_iff]
      simp only [Bool.and_eq_true, Bool.or_eq_true, decide_eq_true_eq, beq_iff_eq]
      omega
    simp only [cond_true, Bool.true_and, e]
/-- The document's answer, instruction by instruction, is what fold.Fold leaves. -/
theorem ref_fold_get (l : List Ir) (ho : ∀ i, i < l.length → (l.getD i dIr).kind = 3 → ∀ a b, (opv (l.getD i dIr).op a b).2 = true) (i : Nat) (hi : i < l.length) :
    refIr (l.getD i dIr) (afterF l (factsTo l i) i) = (foldL l).getD i dIr := by
  have h := known_same l ho i (by omega)
  have hfact : afterF l (factsTo l i) i = toF (worked (l.getD i dIr) (known0 l i)) := fact_worked h (ho i hi)
  rw [hfact, refIr_same]
  exact (foldTo_at (goalM l) l hi).symm
end Go.Vx

namespace Go.Vx
open Go.Proofs

/-! ### The document's words, bit by bit -/
def bitI (x : Int) (k : Nat) : Int := (x.fdiv (2 ^ k)).tmod 2
def tabT (t0 t1 t2 t3 : Int) (p q : Int) : Int := if p = 0 then (if q = 0 then t0 else t1) else (if q = 0 then t2 else t3)
def accB (f : Int → Int → Int) (a b : Int) : Nat → Int
  | 0 => 0
  | k + 1 => IntKind.u32.wrap (accB f a b k + IntKind.u32.wrap (f (bitI a k) (bitI b k) * 2 ^ k))

theorem u32_small {x : Int} (h0 : 0 ≤ x) (h1 : x < 4294967296) : IntKind.u32.wrap x = x := by
  simp only [IntKind.wrap, IntKind.signed, IntKind.bits]
  simp
  omega
theorem bitI_nat {A k : Nat} : bitI (A : Int) k = ((A.testBit k).toNat : Int) := by
  unfold bitI
  have e : ((A : Int).fdiv (2 ^ k)) = ((A / 2 ^ k : Nat) : Int) := by
    rw [Int.fdiv_eq_ediv_of_nonneg _ (Int.le_of_lt (Int.pow_pos (by decide)))]
    simp
  rw [e, Nat.toNat_testBit]
  have : (((A / 2 ^ k : Nat) : Int)).tmod 2 = ((A / 2 ^ k % 2 : Nat) : Int) := rfl
  exact this
theorem mod_succ (x k : Nat) : x % 2 ^ (k + 1) = x % 2 ^ k + 2 ^ k * (x.testBit k).toNat := by
  rw [Nat.mod_pow_succ, Nat.toNat_testBit]
theorem acc_nat {f : Int → Int → Int} {A B : Nat} {C : Nat} (hC : C < 4294967296) (hf : ∀ k, k < 32 → f (bitI A k) (bitI B k) = ((C.testBit k).toNat : Int)) : ∀ k, k ≤ 32 → accB f A B k = ((C % 2 ^ k : Nat) : Int)
  | 0, _ => by simp [accB, Nat.mod_one]
  | k + 1, hk => by
    rw [accB, acc_nat hC hf k (by omega), hf k (by omega), mod_succ]
    have h1 : (C.testBit k).toNat ≤ 1 := Bool.toNat_le _
    have h2 : 2 ^ k ≤ 2147483648 := by
      have : 2 ^ k ≤ 2 ^ 31 := Nat.pow_le_pow_right (by decide) (by omega)
      exact this
    have h3 : C % 2 ^ k < 2 ^ k := Nat.mod_lt _ (Nat.pow_pos (by decide))
    have h4 : (C.testBit k).toNat * 2 ^ k ≤ 2147483648 := by
      calc (C.testBit k).toNat * 2 ^ k ≤ 1 * 2 ^ k := Nat.mul_le_mul_right _ h1
        _ ≤ 2147483648 := by omega
    have e : ((C.testBit k).toNat : Int) * 2 ^ k = (((C.testBit k).toNat * 2 ^ k : Nat) : Int) := by simp
    rw [e, u32_small (x := (((C.testBit k).toNat * 2 ^ k : Nat) : Int)) (by omega) (by omega), u32_small (by omega) (by omega)]
    rw [Nat.mul_comm (2 ^ k)]
    omega
theorem acc_op {f : Int → Int → Int} {a b : Int} (ha0 : 0 ≤ a) (ha : a < 4294967296) (hb0 : 0 ≤ b) (hb : b < 4294967296) {C : Nat} (hC : C < 4294967296)
    (hf : ∀ k, f ((a.toNat.testBit k).toNat : Int) ((b.toNat.testBit k).toNat : Int) = ((C.testBit k).toNat : Int)) : accB f a b 32 = (C : Int) := by
  have ea : (a.toNat : Int) = a := Int.toNat_of_nonneg ha0
  have eb : (b.toNat : Int) = b := Int.toNat_of_nonneg hb0
  have := acc_nat (f := f) (A := a.toNat) (B := b.toNat) hC (fun k _ => by rw [bitI_nat, bitI_nat]; exact hf k) 32 (Nat.le_refl _)
  rw [ea, eb] at this
  rw [this, Nat.mod_eq_of_lt hC]
theorem ofInt_nat {a : Int} (h0 : 0 ≤ a) (h : a < 4294967296) : (BitVec.ofInt 32 a).toNat = a.toNat := by
  rw [BitVec.toNat_ofInt]
  congr 1
  exact Int.emod_eq_of_lt h0 h
theorem acc_and {a b : Int} (ha0 : 0 ≤ a) (ha : a < 4294967296) (hb0 : 0 ≤ b) (hb : b < 4294967296) : accB (tabT 0 0 0 1) a b 32 = ((BitVec.ofInt 32 a &&& BitVec.ofInt 32 b).toNat : Int) := by
  refine acc_op ha0 ha hb0 hb (BitVec.isLt _) fun k => ?_
  rw [BitVec.toNat_and, ofInt_nat ha0 ha, ofInt_nat hb0 hb, Nat.testBit_and]
  cases a.toNat.testBit k <;> cases b.toNat.testBit k <;> rfl
theorem acc_or {a b : Int} (ha0 : 0 ≤ a) (ha : a < 4294967296) (hb0 : 0 ≤ b) (hb : b < 4294967296) : accB (tabT 0 1 1 1) a b 32 = ((BitVec.ofInt 32 a ||| BitVec.ofInt 32 b).toNat : Int) := by
  refine acc_op ha0 ha hb0 hb (BitVec.isLt _) fun k => ?_
  rw [BitVec.toNat_or, ofInt_nat ha0 ha, ofInt_nat hb0 hb, Nat.testBit_or]
  cases a.toNat.testBit k <;> cases b.toNat.testBit k <;> rfl
theorem acc_xor {a b : Int} (ha0 : 0 ≤ a) (ha : a < 4294967296) (hb0 : 0 ≤ b) (hb : b < 4294967296) : accB (tabT 0 1 1 0) a b 32 = ((BitVec.ofInt 32 a ^^^ BitVec.ofInt 32 b).toNat : Int) := by
  refine acc_op ha0 ha hb0 hb (BitVec.isLt _) fun k => ?_
  rw [BitVec.toNat_xor, ofInt_nat ha0 ha, ofInt_nat hb0 hb, Nat.testBit_xor]
  cases a.toNat.testBit k <;> cases b.toNat.testBit k <;> rfl

theorem bitI_01 {x : Int} (hx : 0 ≤ x) (k : Nat) : bitI x k = 0 ∨ bitI x k = 1 := by
  have ex : (x.toNat : Int) = x := Int.toNat_of_nonneg hx
  rw [← ex, bitI_nat]
  cases x.toNat.testBit k
  · exact .inl rfl
  · exact .inr rfl
@[reducible] def arr4 (t0 t1 t2 t3 : Int) : List AV := [.pv (pu32 t0), .pv (pu32 t1), .pv (pu32 t2), .pv (pu32 t3)]

set_option maxRecDepth 100000 in
theorem ref_bits (t0 t1 t2 t3 a b : Int) (ha : 0 ≤ a) (hb : 0 ≤ b) : PureCall Try.prog 82 [.pv (pu32 a), .pv (pu32 b), .agg (arr4 t0 t1 t2 t3)] (.pv (pu32 (accB (tabT t0 t1 t2 t3) a b 32))) := by
  refine pure_rule tabOk Try.func82 rfl (by kernel_rfl) (by kernel_rfl) (Nat.le_of_ble_eq_true rfl) ?_
  show awp Try.prog tab 32 (bodyOf Try.f82) _ _ _
  refine loop_ruleS (X := Nat) (fun k => k ≤ 32) (fun k => ([(0, .pv (pu32 a)), (1, .pv (pu32 b)), (5, .ptr 0 0), (7, .pv (pu32 (accB (tabT t0 t1 t2 t3) a b k))), (8, lt' .i64 k)], [.box (arr4 t0 t1 t2 t3)])) (fun k => 32 - k) 0 (Nat.zero_le _)
    (Exists.intro [some 0] (And.intro rfl (And.intro (And.intro rfl (And.intro rfl (And.intro rfl (And.intro rfl (And.intro rfl trivial))))) (And.intro (And.intro rfl (And.intro rfl (And.intro rfl (And.intro rfl trivial)))) trivial)))) ?_
  intro k hk
  refine cut_rule tabOk (by kernel_rfl) 1 (X := Unit) (fun _ => k < 32) (fun _ => ([(0, .pv (pu32 a)), (1, .pv (pu32 b)), (5, .ptr 0 0), (7, .pv (pu32 (accB (tabT t0 t1 t2 t3) a b k))), (8, lt' .i64 k)], [.box (arr4 t0 t1 t2 t3)])) ?_ ?_
  · refine And.intro ?_ ?_
    · intro h
      exact Exists.intro () (And.intro (by have := of_decide_eq_true h; omega) (Exists.intro [some 0] (And.intro rfl (And.intro (And.intro rfl (And.intro rfl (And.intro rfl (And.intro rfl (And.intro rfl trivial))))) (And.intro (And.intro rfl (And.intro rfl (And.intro rfl (And.intro rfl trivial)))) trivial)))))
    · intro h
      have e : k = 32 := by have := of_decide_eq_false h; omega
      subst e
      exact fit_int (H := []) rfl
  rintro ⟨⟩ hlt
  refine Tri.seq tabOk (by kernel_rfl) ?_
  refine Tri.block ?_
  refine cut_rule tabOk (by kernel_rfl) 1 (X := Int) (fun j => (j = 0 ∨ j = 1 ∨ j = 2 ∨ j = 3) ∧ j = 2 * bitI a k + bitI b k) (fun j => ([(0, .pv (pu32 a)), (1, .pv (pu32 b)), (5, .ptr 0 0), (7, .pv (pu32 (accB (tabT t0 t1 t2 t3) a b k))), (8, lt' .i64 k), (9, .pv (pu32 j))], [.box (arr4 t0 t1 t2 t3)])) ?_ ?_
  · refine draw_still tabOk mixed (by kernel_rfl) ?_
    refine And.intro (Int.natCast_nonneg k) (And.intro (by decide) (And.intro (Int.natCast_nonneg k) (And.intro (by decide) ?_)))
    have hv : IntKind.u32.wrap (IntKind.u32.wrap ((a.fdiv (2 ^ (min (k : Int).toNat 32))).tmod 2 * 2) + (b.fdiv (2 ^ (min (k : Int).toNat 32))).tmod 2) = 2 * bitI a k + bitI b k := by
      rw [Int.toNat_natCast, Nat.min_eq_left (by omega)]
      show IntKind.u32.wrap (IntKind.u32.wrap (bitI a k * 2) + bitI b k) = _
      rcases bitI_01 ha k with h1 | h1 <;> rcases bitI_01 hb k with h2 | h2 <;> rw [h1, h2] <;> rfl
    refine Exists.intro (2 * bitI a k + bitI b k) (And.intro (And.intro (by rcases bitI_01 ha k with h1 | h1 <;> rcases bitI_01 hb k with h2 | h2 <;> omega) rfl) (Exists.intro [some 0] (And.intro rfl (And.intro (And.intro rfl (And.intro rfl (And.intro rfl (And.intro rfl (And.intro rfl (And.intro (mt_int hv) trivial)))))) (And.intro (And.intro rfl (And.intro rfl (And.intro rfl (And.intro rfl trivial)))) trivial)))))
  rintro j ⟨hj, hje⟩
  refine Tri.of tabOk (by kernel_rfl) ?_
  have hT : accB (tabT t0 t1 t2 t3) a b (k + 1) = IntKind.u32.wrap (accB (tabT t0 t1 t2 t3) a b k + IntKind.u32.wrap (tabT t0 t1 t2 t3 (bitI a k) (bitI b k) * 2 ^ k)) := rfl
  have hmin : min ((k : Int).toNat) 32 = k := by rw [Int.toNat_natCast]; exact Nat.min_eq_left (by omega)
  have hbits : (j = 0 ∧ bitI a k = 0 ∧ bitI b k = 0) ∨ (j = 1 ∧ bitI a k = 0 ∧ bitI b k = 1) ∨ (j = 2 ∧ bitI a k = 1 ∧ bitI b k = 0) ∨ (j = 3 ∧ bitI a k = 1 ∧ bitI b k = 1) := by
    rcases bitI_01 ha k with h1 | h1 <;> rcases bitI_01 hb k with h2 | h2 <;> omega
  clear hj hje
  rcases hbits with ⟨rfl, h1, h2⟩ | ⟨rfl, h1, h2⟩ | ⟨rfl, h1, h2⟩ | ⟨rfl, h1, h2⟩
  all_goals rw [h1, h2] at hT
  all_goals repeat' refine And.intro ?_ ?_
  all_goals first
    | decide
    | exact Int.natCast_nonneg k
    | refine Exists.intro (k+1) (And.intro (by omega) (And.intro (by omega) (Exists.intro [some 0] (And.intro rfl (And.intro (And.intro rfl (And.intro rfl (And.intro rfl (And.intro (mt_int ?_) (And.intro (mt_int (wrap_succ (by omega))) trivial))))) (And.intro (And.intro rfl (And.intro rfl (And.intro rfl (And.intro rfl trivial)))) trivial))))))
  all_goals (rw [hT]; show IntKind.u32.wrap (_ + IntKind.u32.wrap (_ * 2 ^ (min ((k : Int).toNat) 32))) = _; rw [hmin]; rfl)
end Go.Vx

namespace Go.Vx
open Go.Proofs

theorem u64_small {x : Int} (h0 : 0 ≤ x) (h1 : x < 18446744073709551616) : IntKind.u64.wrap x = x := by
  simp only [IntKind.wrap, IntKind.signed, IntKind.bits]
  simp
  omega
theorem u32_mod (x : Int) : IntKind.u32.wrap x = x % 4294967296 := by
  simp only [IntKind.wrap, IntKind.signed, IntKind.bits]
  simp
def shv (op x : Int) (k : Nat) : Int := bif op == 7 then IntKind.u32.wrap (x * 2 ^ k) else x.fdiv (2 ^ k)
theorem shv_zero {op x : Int} (h0 : 0 ≤ x) (h1 : x < 4294967296) : x = shv op x 0 := by
  unfold shv
  cases (op == 7)
  · simp
  · rw [cond_true, u32_small] <;> omega
theorem shv_mul {op x : Int} {k : Nat} (h : (op == 7) = true) : IntKind.u32.wrap (shv op x k * 2) = shv op x (k + 1) := by
  unfold shv
  rw [h, cond_true, cond_true, u32_mod, u32_mod, u32_mod, Int.mul_emod, Int.emod_emod_of_dvd _ (Int.dvd_refl _), ← Int.mul_emod, Int.pow_succ, Int.mul_assoc]
theorem shv_nonneg {op x : Int} {k : Nat} (h0 : 0 ≤ x) (h : (op == 7) = false) : 0 ≤ shv op x k := by
  unfold shv
  rw [h, cond_false, Int.fdiv_eq_ediv_of_nonneg _ (Int.le_of_lt (Int.pow_pos (by decide)))]
  exact Int.ediv_nonneg h0 (Int.le_of_lt (Int.pow_pos (by decide)))
theorem shv_quo {op x : Int} {k : Nat} (h0 : 0 ≤ x) (h1 : x < 4294967296) (h : (op == 7) = false) : IntKind.u32.wrap ((shv op x k).tdiv 2) = shv op x (k + 1) := by
  have hn := shv_nonneg (k := k) h0 h
  have hp : (0 : Int) < 2 ^ k := Int.pow_pos (by decide)
  have hle : shv op x k ≤ x := by
    unfold shv
    rw [h, cond_false, Int.fdiv_eq_ediv_of_nonneg _ (Int.le_of_lt hp)]
    exact Int.ediv_le_self _ h0
  rw [Int.tdiv_eq_ediv_of_nonneg hn, u32_small (Int.ediv_nonneg hn (by decide)) (by omega)]
  unfold shv
  rw [h, cond_false, cond_false, Int.fdiv_eq_ediv_of_nonneg _ (Int.le_of_lt hp), Int.fdiv_eq_ediv_of_nonneg _ (Int.le_of_lt (Int.pow_pos (by decide))), Int.pow_succ, Int.ediv_ediv_of_nonneg (Int.le_of_lt hp)]

theorem r_add {x y : Int} (hx0 : 0 ≤ x) (hx : x < 4294967296) (hy0 : 0 ≤ y) (hy : y < 4294967296) : IntKind.u32.wrap ((IntKind.u64.wrap (x + y)).tmod 4294967296) = IntKind.u32.wrap (x + y) := by
  rw [u64_small (by omega) (by omega), Int.tmod_eq_emod_of_nonneg (by omega), u32_mod, u32_mod, Int.emod_emod_of_dvd _ (Int.dvd_refl _)]
theorem r_sub {x y : Int} (hx0 : 0 ≤ x) (hx : x < 4294967296) (hy0 : 0 ≤ y) (hy : y < 4294967296) : IntKind.u32.wrap ((IntKind.u64.wrap (IntKind.u64.wrap (x + 4294967296) - y)).tmod 4294967296) = IntKind.u32.wrap (x - y) := by
  rw [u64_small (x := x + 4294967296) (by omega) (by omega), u64_small (by omega) (by omega), Int.tmod_eq_emod_of_nonneg (by omega), u32_mod, u32_mod]
  omega
theorem r_mul {x y : Int} (hx0 : 0 ≤ x) (hx : x < 4294967296) (hy0 : 0 ≤ y) (hy : y < 4294967296) : IntKind.u32.wrap ((IntKind.u64.wrap (x * y)).tmod 4294967296) = IntKind.u32.wrap (x * y) := by
  have h0 : 0 ≤ x * y := Int.mul_nonneg hx0 hy0
  have h1 : x * y ≤ 4294967295 * 4294967295 := Int.mul_le_mul (by omega) (by omega) hy0 (by decide)
  rw [u64_small h0 (by omega), Int.tmod_eq_emod_of_nonneg h0, u32_mod, u32_mod, Int.emod_emod_of_dvd _ (Int.dvd_refl _)]
theorem r_bits (b : BitVec 32) : IntKind.u32.wrap (b.toNat : Int) = (b.toNat : Int) := u32_small (by omega) (by have := b.isLt; omega)

set_option maxRecDepth 100000 in
set_option maxHeartbeats 4000000 in
theorem ref_op (op x y : Int) (hx0 : 0 ≤ x) (hx : x < 4294967296) (hy0 : 0 ≤ y) (hy : y < 4294967296) : PureCall Try.prog 68 [.pv (pint op), .pv (pu32 x), .pv (pu32 y)] (.tup [.pv (pu32 (opv op x y).1), .pv (.lit (.bool (opv op x y).2))]) := by
  have ex : IntKind.u64.wrap x = x := u64_small hx0 (by omega)
  have ey : IntKind.u64.wrap y = y := u64_small hy0 (by omega)
  have hm : y.tmod 32 = y % 32 := Int.tmod_eq_emod_of_nonneg hy0
  refine pure_rule tabOk Try.func68 rfl (by kernel_rfl) (by kernel_rfl) (Nat.le_of_ble_eq_true rfl) ?_
  show awp Try.prog tab 87 (bodyOf Try.f68) _ _ _
  repeat' first
    | refine And.intro ?_ ?_
    | (intro h; try simp only [Bool.not_true, Bool.not_false, cond_true, cond_false, reduceCtorEq] at h; try (replace h : True := h; clear h))
    | refine fit_int (H := []) ?_
    | refine fit_bool (H := []) ?_
    | refine Or.inl (Exists.intro _ (Exists.intro _ (And.intro (FitAL.self rfl) (And.intro (ref_bits _ _ _ _ x y hx0 hy0) ?_))))
    | refine loop_rule (X := Nat) tabOk (by kernel_rfl) (fun k => k ≤ 31 ∧ (k : Int) ≤ y % 32) (fun k => ([(0, .pv (pint op)), (1, .pv (pu32 (shv op x k))), (2, .pv (pu32 y)), (11, .pv (pu32 k))], [])) (fun k => 32 - k) 0 (And.intro (Nat.zero_le _) (by omega))
        (Exists.intro [] (And.intro rfl (And.intro (And.intro rfl (And.intro (mt_int (shv_zero hx0 hx)) (And.intro rfl (And.intro rfl trivial)))) trivial))) (fun k hk => ?_)
  all_goals try exact trivial
  all_goals try refine Exists.intro (k+1) (And.intro ?_ (And.intro ?_ (Exists.intro [] (And.intro rfl (And.intro (And.intro rfl (And.intro (mt_int ?_) (And.intro rfl (And.intro (mt_int ?_) trivial)))) trivial)))))
  all_goals try simp only [ex, ey, hm] at *
  all_goals first
    | exact absurd ‹(4294967296 : Int) = 0› (by decide)
    | exact absurd ‹(32 : Int) = 0› (by decide)
    | exact absurd ‹(2 : Int) = 0› (by decide)
    | omega
    | exact shv_mul ‹_›
    | exact shv_quo hx0 hx ‹_›
    | (simp only [decide_eq_true_eq] at *; omega)
    | (simp only [decide_eq_true_eq] at *; exact And.intro (by omega) (by omega))
    | (simp only [opv, *, cond_true, cond_false]; done)
    | (simp only [opv, one, *, cond_true, cond_false]; done)
    | (simp only [opv, *, cond_true, cond_false]; rw [r_add hx0 hx hy0 hy]; done)
    | (simp only [opv, *, cond_true, cond_false]; rw [r_sub hx0 hx hy0 hy]; done)
    | (simp only [opv, *, cond_true, cond_false]; rw [r_mul hx0 hx hy0 hy]; done)
    | (simp only [opv, *, cond_true, cond_false]; rw [acc_and hx0 hx hy0 hy, r_bits]; done)
    | (simp only [opv, *, cond_true, cond_false]; rw [acc_or hx0 hx hy0 hy, r_bits]; done)
    | (simp only [opv, *, cond_true, cond_false]; rw [acc_xor hx0 hx hy0 hy, r_bits]; done)
    | (simp only [decide_eq_false_iff_not] at *
       have hkk : min (y % 32).toNat 32 = k := by omega
       simp only [opv, shv, Int.tmod_eq_emod_of_nonneg hy0, *, cond_true, cond_false]; done)
    | (rw [u32_small (by omega) (by omega)]; omega)
    | exact absurd (‹(op == 7) = true›.symm.trans ‹(op == 7) = false›) (by decide)
    | exact absurd (‹(op == 8) = true›.symm.trans ‹(op == 8) = false›) (by decide)
end Go.Vx

namespace Go.Vx
open Go.Proofs

theorem wrap_pred {i : Nat} (h0 : 0 < i) (h : i < 1000000000000) : IntKind.i64.wrap ((i : Int) - 1) = ((i - 1 : Nat) : Int) := by
  rw [wrap_small (by omega) (by omega)]; omega
def NoJump (l : List Ir) (i : Int) (k : Nat) : Prop := k ≤ l.length ∧ ∀ j, j < k → jumpsTo i (l.getD j dIr) = false
theorem NoJump.next {l : List Ir} {i : Int} {k : Nat} (h : NoJump l i k) (hk : k < l.length) (h0 : jumpsTo i (l.getD k dIr) = false) : NoJump l i (k + 1) := ⟨hk, fun j hj => by
  rcases Nat.lt_or_ge j k with h1 | h1
  · exact h.2 j h1
  · obtain rfl : j = k := by omega
    exact h0⟩
theorem NoJump.all {l : List Ir} {i : Int} {k : Nat} (h : NoJump l i k) (hk : ¬ k < l.length) : l.any (jumpsTo i) = false := by
  rw [← Bool.not_eq_true, List.any_eq_true]
  rintro ⟨x, hx, h1⟩
  obtain ⟨j, hj, rfl⟩ := List.getElem_of_mem hx
  have := h.2 j (by omega)
  rw [List.getD_eq_getElem?_getD, List.getElem?_eq_getElem hj, Option.getD_some, h1] at this
  cases this
theorem any_jump {l : List Ir} {i : Int} {k : Nat} (hk : k < l.length) (h : jumpsTo i (l.getD k dIr) = true) : l.any (jumpsTo i) = true := by
  rw [List.any_eq_true]
  refine ⟨l[k], List.getElem_mem hk, ?_⟩
  rwa [List.getD_eq_getElem?_getD, List.getElem?_eq_getElem hk] at h
theorem begins_eq (l : List Ir) (i : Nat) : beginsB l i = (i == 0 || (endsK (l.getD (i - 1) dIr) || l.any (jumpsTo (i : Int)))) := rfl

set_option maxHeartbeats 1000000 in
set_option maxRecDepth 100000 in
theorem ref_begins (c : Cd) (i : Nat) (hi : i ≤ c.l.length) (hl : c.l.length ≤ 1000000) : PureCall Try.prog 81 [aCd c, lt' .i64 i] (lb (beginsB c.l i)) := by
  refine pure_ruleS tabOk Try.func81 rfl (by kernel_rfl) (Nat.le_of_ble_eq_true rfl) ?_
  show Tri Try.prog 59 (bodyOf Try.f81) _ _ _
  refine cut_rule tabOk (by kernel_rfl) 2 (X := Unit) (fun _ => 0 < i) (fun _ => ([(1, lt' .i64 i), (2, .ptr 0 0)], [boxCd c])) ?_ ?_
  · refine And.intro ?_ ?_
    · intro h
      have h0 : (i == 0) = true := by rw [beq_iff_eq] at h ⊢; omega
      exact fit_bool (H := []) (by rw [begins_eq, h0]; rfl)
    · intro h
      exact Exists.intro () (And.intro (by rw [beq_eq_false_iff_ne] at h; omega) (Exists.intro [some 0] (And.intro rfl (And.intro (And.intro rfl (And.intro rfl trivial)) (And.intro mCd trivial)))))
  rintro ⟨⟩ h0
  have hi0 : (i == 0) = false := beq_eq_false_iff_ne.2 (by omega)
  have hp := wrap_pred h0 (show i < 1000000000000 by omega)
  refine cut_rule tabOk (by kernel_rfl) 2 (X := Unit) (fun _ => endsK (c.l.getD (i - 1) dIr) = false) (fun _ => ([(1, lt' .i64 i), (2, .ptr 0 0)], [boxCd c])) ?_ ?_
  · have e : c.l.getD (IntKind.i64.wrap ((i : Int) - 1)).toNat dIr = c.l.getD (i - 1) dIr := by rw [hp, Int.toNat_natCast]
    refine And.intro (by rw [hp]; exact Int.natCast_nonneg _) (And.intro (by rw [hp]; omega) ?_)
    repeat' first
      | refine And.intro ?_ ?_
      | (intro h; try simp only [Bool.not_true, Bool.not_false, cond_true, cond_false, reduceCtorEq] at h; try (replace h : True := h; clear h))
      | refine fit_bool (H := []) ?_
    all_goals try refine Exists.intro () (And.intro ?_ (Exists.intro [some 0] (And.intro rfl (And.intro (And.intro rfl (And.intro rfl trivial)) (And.intro mCd trivial)))))
    all_goals try exact trivial
    all_goals rw [e] at *
    all_goals first
      | (simp only [begins_eq, endsK, *, Bool.true_or, Bool.or_true, Bool.false_or, Bool.or_false]; done)
  rintro ⟨⟩ he
  refine Tri.of tabOk (by kernel_rfl) ?_
  refine loop_rule (X := Nat) tabOk (by kernel_rfl) (NoJump c.l i) (fun k => ([(1, lt' .i64 i), (2, .ptr 0 0), (6, lt' .i64 k)], [boxCd c])) (fun k => c.l.length - k) 0 (And.intro (Nat.zero_le _) fun j h => absurd h (Nat.not_lt_zero _))
    (Exists.intro [some 0] (And.intro rfl (And.intro (And.intro rfl (And.intro rfl (And.intro rfl trivial))) (And.intro mCd trivial)))) ?_
  intro k hk
  repeat' first
    | refine And.intro ?_ ?_
    | (intro h; try simp only [Bool.not_true, Bool.not_false, cond_true, cond_false, reduceCtorEq] at h; try (replace h : True := h; clear h))
    | refine fit_bool (H := []) ?_
  all_goals try exact trivial
  all_goals try refine Exists.intro (k+1) (And.intro ?_ (And.intro ?_ (Exists.intro [some 0] (And.intro rfl (And.intro (And.intro rfl (And.intro rfl (And.intro (mt_int (wrap_succ ?_)) trivial))) (And.intro mCd trivial))))))
  all_goals simp only [Int.toNat_natCast, decide_eq_true_eq, decide_eq_false_iff_not] at *
  all_goals first
    | omega
    | exact hk.next (by omega) (by simp only [jumpsTo, *, Bool.true_or, Bool.or_true, Bool.false_or, Bool.or_false, Bool.and_true, Bool.true_and, Bool.and_false, Bool.false_and])
    | (rw [begins_eq, he, hi0, any_jump (k := k) (by omega) (by simp only [jumpsTo, *, Bool.true_or, Bool.or_true, Bool.false_or, Bool.or_false, Bool.and_true, Bool.true_and, Bool.and_false, Bool.false_and])]; rfl)
    | (rw [begins_eq, he, hi0, hk.all (by omega)]; rfl)
end Go.Vx

namespace Go.Vx
open Go.Proofs

@[reducible] def aF (x : Fact) : AV := .agg ((encFact x).map .pv)
@[reducible] def boxF (x : Fact) : AObj := .box ((encFact x).map .pv)
theorem mF {r : Ren} {x : Fact} : matchC r ((encFact x).map .pv) ((encFact x).map .pv) := ⟨rfl, rfl, trivial⟩
theorem knownF_next {l : List Ir} {f : List Fact} {reg : Int} {k : Nat} (h0 : 0 < k) (hb : beginsB l k = false) (hw : (writes (l.getD (k - 1) dIr) && (l.getD (k - 1) dIr).d == reg) = false) : knownF l f reg k = knownF l f reg (k - 1) := by
  obtain ⟨j, rfl⟩ : ∃ j, k = j + 1 := ⟨k - 1, by omega⟩
  rw [Nat.add_sub_cancel] at hw ⊢
  rw [knownF, hb, hw]; rfl
theorem knownF_here {l : List Ir} {f : List Fact} {reg : Int} {k : Nat} (h0 : 0 < k) (hb : beginsB l k = false) (hw : (writes (l.getD (k - 1) dIr) && (l.getD (k - 1) dIr).d == reg) = true) : knownF l f reg k = f.getD (k - 1) dFact := by
  obtain ⟨j, rfl⟩ : ∃ j, k = j + 1 := ⟨k - 1, by omega⟩
  rw [Nat.add_sub_cancel] at hw ⊢
  rw [knownF, hb, hw]; rfl
theorem knownF_begin {l : List Ir} {f : List Fact} {reg : Int} {k : Nat} (hb : k = 0 ∨ beginsB l k = true) : knownF l f reg k = noF := by
  cases k with
  | zero => rfl
  | succ j =>
    rcases hb with h | h
    · omega
    · rw [knownF, h]; rfl

set_option maxHeartbeats 1000000 in
set_option maxRecDepth 100000 in
theorem ref_known (c : Cd) (f : List Fact) (i : Nat) (reg : Int) (hi : i ≤ c.l.length) (hf : f.length = i) (hl : c.l.length ≤ 1000000) : PureCall Try.prog 67 [aCd c, .pv (slFact f), lt' .i64 i, lt' .i64 reg] (aF (knownF c.l f reg i)) := by
  refine pure_ruleS tabOk Try.func67 rfl (by kernel_rfl) (Nat.le_of_ble_eq_true rfl) ?_
  show Tri Try.prog 42 (bodyOf Try.f67) _ _ _
  refine Tri.of tabOk (by kernel_rfl) ?_
  refine loop_ruleS (X := Nat) (fun k => k ≤ i ∧ knownF c.l f reg i = knownF c.l f reg k) (fun k => ([(1, .pv (slFact f)), (3, lt' .i64 reg), (4, .ptr 0 0), (8, .ptr 1 0), (9, lt' .i64 k)], [boxCd c, boxF noF])) (fun k => k) i (And.intro (Nat.le_refl _) rfl)
    (Exists.intro [some 0, some 1] (And.intro rfl (And.intro (And.intro rfl (And.intro rfl (And.intro rfl (And.intro rfl (And.intro rfl trivial))))) (And.intro mCd (And.intro mF trivial))))) ?_
  rintro k ⟨hk, hkn⟩
  refine cut_rule tabOk (by kernel_rfl) 1 (X := Unit) (fun _ => 0 < k ∧ beginsB c.l k = false) (fun _ => ([(1, .pv (slFact f)), (3, lt' .i64 reg), (4, .ptr 0 0), (8, .ptr 1 0), (9, lt' .i64 k)], [boxCd c, boxF noF])) ?_ ?_
  · repeat' first
      | refine And.intro ?_ ?_
      | (intro h; try simp only [Bool.not_true, Bool.not_false, cond_true, cond_false, reduceCtorEq] at h; try (replace h : True := h; clear h))
      | refine Or.inl (Exists.intro [aCd c, lt' .i64 k] (Exists.intro _ (And.intro (FitAL.self rfl) (And.intro (ref_begins c k (by omega) hl) ?_))))
    all_goals try refine Exists.intro () (And.intro ?_ (Exists.intro [some 0, some 1] (And.intro rfl (And.intro (And.intro rfl (And.intro rfl (And.intro rfl (And.intro rfl (And.intro rfl trivial))))) (And.intro mCd (And.intro mF trivial))))))
    all_goals simp only [decide_eq_true_eq, decide_eq_false_iff_not, Bool.not_eq_eq_eq_not, Bool.not_true, Bool.not_false] at *
    all_goals first
      | exact And.intro (by omega) ‹_›
      | exact trivial
      | exact congrArg (fun z => PV.lit (Value.bool z)) (congrArg Fact.is (hkn.trans (knownF_begin (.inl (by omega))))).symm
      | exact congrArg (fun z => PV.lit (Value.int .u32 z)) (congrArg Fact.n (hkn.trans (knownF_begin (.inl (by omega))))).symm
      | exact congrArg (fun z => PV.lit (Value.bool z)) (congrArg Fact.is (hkn.trans (knownF_begin (.inr ‹_›)))).symm
      | exact congrArg (fun z => PV.lit (Value.int .u32 z)) (congrArg Fact.n (hkn.trans (knownF_begin (.inr ‹_›)))).symm
  rintro ⟨⟩ ⟨h0, hb⟩
  have hp := wrap_pred h0 (show k < 1000000000000 by omega)
  refine Tri.of tabOk (by kernel_rfl) ?_
  have e : c.l.getD (IntKind.i64.wrap ((k : Int) - 1)).toNat dIr = c.l.getD (k - 1) dIr := by rw [hp, Int.toNat_natCast]
  have ef : f.getD (IntKind.i64.wrap ((k : Int) - 1)).toNat dFact = f.getD (k - 1) dFact := by rw [hp, Int.toNat_natCast]
  refine And.intro (by rw [hp]; exact Int.natCast_nonneg _) (And.intro (by rw [hp]; omega) ?_)
  refine Or.inl (Exists.intro [aIr (c.l.getD (IntKind.i64.wrap ((k : Int) - 1)).toNat dIr)] (Exists.intro _ (And.intro (FitAL.self rfl) (And.intro (ref_writes _) ?_))))
  repeat' first
    | refine And.intro ?_ ?_
    | (intro h; try simp only [Bool.not_true, Bool.not_false, cond_true, cond_false, reduceCtorEq] at h; try (replace h : True := h; clear h))
  all_goals try refine Exists.intro (k - 1) (And.intro ?_ (And.intro (And.intro ?_ ?_) (Exists.intro [some 0, some 1] (And.intro rfl (And.intro (And.intro rfl (And.intro rfl (And.intro rfl (And.intro rfl (And.intro (mt_int hp) trivial))))) (And.intro mCd (And.intro mF trivial)))))))
  all_goals simp only [e, ef] at *
  all_goals first
    | omega
    | exact trivial
    | exact hkn.trans (knownF_next h0 hb (by simp only [*, Bool.true_and, Bool.false_and]))
    | exact congrArg (fun z => PV.lit (Value.bool z)) (congrArg Fact.is (hkn.trans (knownF_here h0 hb (by simp only [*, Bool.true_and, Bool.false_and])))).symm
    | exact congrArg (fun z => PV.lit (Value.int .u32 z)) (congrArg Fact.n (hkn.trans (knownF_here h0 hb (by simp only [*, Bool.true_and, Bool.false_and])))).symm
    | (rw [hp]; exact Int.natCast_nonneg _)
    | (rw [hp]; omega)
end Go.Vx

namespace Go.Vx
open Go.Proofs

def FactOk (f : Fact) : Prop := 0 ≤ f.n ∧ f.n < 4294967296
theorem noF_ok : FactOk noF := ⟨by decide, by decide⟩
theorem u32_range (x : Int) : 0 ≤ IntKind.u32.wrap x ∧ IntKind.u32.wrap x < 4294967296 := by rw [u32_mod]; omega
theorem opv_range {op x y : Int} (hx0 : 0 ≤ x) (hx : x < 4294967296) : 0 ≤ (opv op x y).1 ∧ (opv op x y).1 < 4294967296 := by
  refine ⟨opv_nonneg hx0, ?_⟩
  have h8 : x.fdiv (2 ^ (min (y.tmod 32).toNat 32)) < 4294967296 := by
    have hp : (0 : Int) < 2 ^ (min (y.tmod 32).toNat 32) := Int.pow_pos (by decide)
    rw [Int.fdiv_eq_ediv_of_nonneg _ (Int.le_of_lt hp)]
    have := Int.ediv_le_self (2 ^ (min (y.tmod 32).toNat 32)) hx0
    omega
  have h1 : ∀ b, one b < 4294967296 := fun b => by cases b <;> decide
  unfold opv
  repeat' first
    | (cases (op == _) <;> simp only [cond_true, cond_false])
  all_goals first
    | exact (u32_range _).2
    | exact h1 _
    | exact h8
    | decide
theorem knownF_ok {l : List Ir} {f : List Fact} (hf : ∀ i, FactOk (f.getD i dFact)) (reg : Int) : ∀ k, FactOk (knownF l f reg k)
  | 0 => noF_ok
  | k + 1 => by
    rw [knownF]
    cases beginsB l (k + 1)
    · cases (writes (l.getD k dIr) && (l.getD k dIr).d == reg)
      · exact knownF_ok hf reg k
      · exact hf k
    · exact noF_ok
theorem afterF_ok {l : List Ir} {f : List Fact} {i : Nat} (hf : ∀ i, FactOk (f.getD i dFact)) (hx : 0 ≤ (l.getD i dIr).n ∧ (l.getD i dIr).n < 4294967296) : FactOk (afterF l f i) := by
  have hk := fun r => knownF_ok (l := l) hf r i
  unfold afterF
  cases ((l.getD i dIr).kind == 1)
  case true => exact hx
  cases ((l.getD i dIr).kind == 2)
  case true => exact hk _
  cases ((l.getD i dIr).kind == 3)
  case true =>
    simp only [cond_true, cond_false]
    cases ((knownF l f (l.getD i dIr).a i).is && (knownF l f (l.getD i dIr).b i).is)
    · exact noF_ok
    · exact opv_range (hk _).1 (hk _).2
  cases ((l.getD i dIr).kind == 4)
  case true =>
    simp only [cond_true, cond_false]
    cases ((knownF l f (l.getD i dIr).a i).is && (knownF l f (l.getD i dIr).a i).n != 0)
    · cases (knownF l f (l.getD i dIr).a i).is
      · exact noF_ok
      · exact hk _
    · exact hk _
  exact noF_ok
theorem factsTo_ok {l : List Ir} (hl : ∀ x ∈ l, IrOk x) : ∀ k, k ≤ l.length → ∀ i, FactOk ((factsTo l k).getD i dFact)
  | 0, _, i => by
    rw [factsTo, List.getD_eq_getElem?_getD]
    simp [FactOk, dFact]
  | k + 1, hk, i => by
    have ih := factsTo_ok hl k (by omega)
    rcases Nat.lt_or_ge i (k + 1) with h | h
    · rw [factsTo_get l i (k + 1) h]
      have hi : i < l.length := by omega
      refine afterF_ok (factsTo_ok hl i (by omega)) ?_
      exact hl _ (by rw [List.getD_eq_getElem?_getD, List.getElem?_eq_getElem hi]; exact List.getElem_mem hi)
    · rw [List.getD_eq_getElem?_getD, List.getElem?_eq_none (by rw [factsTo_length]; exact h)]
      simp [FactOk, dFact]
  termination_by k => k

set_option maxHeartbeats 1000000 in
set_option maxRecDepth 100000 in
theorem ref_after (c : Cd) (f : List Fact) (i : Nat) (hi : i < c.l.length) (hf : f.length = i) (hl : c.l.length ≤ 1000000) (hok : ∀ j, FactOk (f.getD j dFact)) : PureCall Try.prog 42 [aCd c, .pv (slFact f), lt' .i64 i] (aF (afterF c.l f i)) := by
  have hK := fun r => knownF_ok (l := c.l) hok r i
  have hcall := fun r => ref_known c f i r (by omega) hf hl
  have hafter : afterF c.l f i = (let x := c.l.getD i dIr; let K := fun r => knownF c.l f r i; bif x.kind == 1 then (⟨true, x.n⟩ : Fact)
      else bif x.kind == 2 then K x.a
      else bif x.kind == 3 then (bif (K x.a).is && (K x.b).is then ⟨true, (opv x.op (K x.a).n (K x.b).n).1⟩ else noF)
      else bif x.kind == 4 then (bif (K x.a).is && (K x.a).n != 0 then K x.b else bif (K x.a).is then K x.c else noF)
      else noF) := rfl
  rw [hafter]
  generalize hxe : c.l.getD i dIr = x
  have e : c.l.getD ((i : Int).toNat) dIr = x := hxe
  clear hafter
  generalize hKe : (fun r => knownF c.l f r i) = K at hK
  have hK' : ∀ r, knownF c.l f r i = K r := fun r => congrFun hKe r
  simp only [hK'] at hcall hK
  simp only
  refine pure_ruleS tabOk Try.func42 rfl (by kernel_rfl) (Nat.le_of_ble_eq_true rfl) ?_
  show Tri Try.prog 78 (bodyOf Try.f42) _ _ _
  refine cut_rule tabOk (by kernel_rfl) 2 (X := Unit) (fun _ => True) (fun _ => ([(1, .pv (slFact f)), (2, lt' .i64 i), (3, .ptr 0 0), (6, .ptr 1 0), (7, .ptr 2 0)], [boxCd c, boxF noF, boxIr x])) ?_ ?_
  · refine And.intro (Int.natCast_nonneg i) (And.intro (by omega) ?_)
    exact Exists.intro () (And.intro trivial (Exists.intro [some 0, some 1, some 2] (And.intro rfl (And.intro (And.intro rfl (And.intro rfl (And.intro rfl (And.intro rfl (And.intro rfl trivial))))) (And.intro mCd (And.intro mF (And.intro (mIr_eq e) trivial)))))))
  rintro ⟨⟩ _
  refine cut_rule tabOk (by kernel_rfl) 2 (X := Unit) (fun _ => True) (fun _ => ([(1, .pv (slFact f)), (2, lt' .i64 i), (3, .ptr 0 0), (6, .ptr 1 0), (7, .ptr 2 0), (8, .ptr 3 0), (9, .ptr 4 0)], [boxCd c, boxF noF, boxIr x, boxF (K x.a), boxF (K x.b)])) ?_ ?_
  · refine Or.inl (Exists.intro [aCd c, .pv (slFact f), lt' .i64 i, lt' .i64 x.a] (Exists.intro _ (And.intro (FitAL.self rfl) (And.intro (hcall x.a) ?_))))
    refine Or.inl (Exists.intro [aCd c, .pv (slFact f), lt' .i64 i, lt' .i64 x.b] (Exists.intro _ (And.intro (FitAL.self rfl) (And.intro (hcall x.b) ?_))))
    exact Exists.intro () (And.intro trivial (Exists.intro [some 0, some 1, some 2, some 3, some 4] (And.intro rfl (And.intro (And.intro rfl (And.intro rfl (And.intro rfl (And.intro rfl (And.intro rfl (And.intro rfl (And.intro rfl trivial))))))) (And.intro mCd (And.intro mF (And.intro mIr (And.intro mF (And.intro mF trivial)))))))))
  rintro ⟨⟩ _
  refine Tri.of tabOk (by kernel_rfl) ?_
  repeat' first
    | refine And.intro ?_ ?_
    | (intro h; try simp only [Bool.not_true, Bool.not_false, cond_true, cond_false, reduceCtorEq] at h; try (replace h : True := h; clear h))
    | refine Or.inl (Exists.intro [.pv (pint x.op), .pv (pu32 (K x.a).n), .pv (pu32 (K x.b).n)] (Exists.intro _ (And.intro (FitAL.self rfl) (And.intro (ref_op x.op (K x.a).n (K x.b).n (hK _).1 (hK _).2 (hK _).1 (hK _).2) ?_))))
    | refine Or.inl (Exists.intro [aCd c, .pv (slFact f), lt' .i64 i, lt' .i64 x.c] (Exists.intro _ (And.intro (FitAL.self rfl) (And.intro (hcall x.c) ?_))))
  all_goals try exact trivial
  all_goals first
    | exact absurd (‹(K x.a).is = true›.symm.trans ‹(K x.a).is = false›) (by decide)
    | exact congrArg (fun z => PV.lit (Value.bool z)) (by simp only [*, cond_true, cond_false, Bool.true_and, Bool.false_and, Bool.and_true, Bool.and_false, noF])
    | exact congrArg (fun z => PV.lit (Value.int .u32 z)) (by simp only [*, cond_true, cond_false, Bool.true_and, Bool.false_and, Bool.and_true, Bool.and_false, noF])
end Go.Vx

namespace Go.Vx
open Go.Proofs

/-- The instructions, those ahead of a place folded. -/
def refTo (l : List Ir) : Nat → List Ir
  | 0 => l
  | k + 1 => (refTo l k).set k (refIr (l.getD k dIr) (afterF l (factsTo l k) k))
theorem refTo_length (l : List Ir) : ∀ k, (refTo l k).length = l.length
  | 0 => rfl
  | k + 1 => by rw [refTo, List.length_set, refTo_length l k]
theorem refTo_get (l : List Ir) (i : Nat) (hi : i < l.length) : ∀ k, (refTo l k).getD i dIr = if i < k then refIr (l.getD i dIr) (afterF l (factsTo l i) i) else l.getD i dIr
  | 0 => rfl
  | k + 1 => by
    have ih := refTo_get l i hi k
    rw [List.getD_eq_getElem?_getD] at ih
    rw [refTo, List.getD_eq_getElem?_getD, List.getElem?_set]
    by_cases h : k = i
    · subst h
      rw [if_pos rfl, refTo_length, if_pos hi, if_pos (by omega)]; rfl
    · rw [if_neg h, ih]
      by_cases h1 : i < k
      · rw [if_pos h1, if_pos (by omega)]
      · rw [if_neg h1, if_neg (by omega)]
theorem refTo_all (l : List Ir) (ho : ∀ i, i < l.length → (l.getD i dIr).kind = 3 → ∀ a b, (opv (l.getD i dIr).op a b).2 = true) : refTo l l.length = foldL l := by
  refine List.ext_getElem (by rw [refTo_length, foldL_length]) fun i h1 h2 => ?_
  have hi : i < l.length := by rw [refTo_length] at h1; exact h1
  have e := (refTo_get l i hi l.length)
  rw [if_pos hi, ref_fold_get l ho i hi, List.getD_eq_getElem?_getD, List.getD_eq_getElem?_getD, List.getElem?_eq_getElem h1, List.getElem?_eq_getElem h2] at e
  exact e
theorem set_same {l : List Ir} {k : Nat} (h : k < l.length) : l.set k (l.getD k dIr) = l := by
  rw [List.getD_eq_getElem?_getD, List.getElem?_eq_getElem h, Option.getD_some, List.set_getElem_self]
theorem refIr_no {x : Ir} {f : Fact} (h : (f.is && (decide (x.kind ≥ 2) && decide (x.kind ≤ 4))) = false) : refIr x f = x := by unfold refIr; rw [h]; rfl
theorem refIr_yes {x : Ir} {f : Fact} (h : (f.is && (decide (x.kind ≥ 2) && decide (x.kind ≤ 4))) = true) : refIr x f = ⟨1, 0, x.d, 0, 0, 0, f.n, ByteArray.empty, []⟩ := by unfold refIr; rw [h]; rfl
theorem refTo_keep {l : List Ir} {k : Nat} (hk : k < l.length) (h : ((afterF l (factsTo l k) k).is && (decide ((l.getD k dIr).kind ≥ 2) && decide ((l.getD k dIr).kind ≤ 4))) = false) : refTo l k = refTo l (k + 1) := by
  rw [refTo, refIr_no h]
  have e := refTo_get l k hk k
  rw [if_neg (Nat.lt_irrefl _)] at e
  rw [← e, set_same (by rw [refTo_length]; exact hk)]
theorem refTo_turn {l : List Ir} {k : Nat} (h : ((afterF l (factsTo l k) k).is && (decide ((l.getD k dIr).kind ≥ 2) && decide ((l.getD k dIr).kind ≤ 4))) = true) : (refTo l k).set k ⟨1, 0, (l.getD k dIr).d, 0, 0, 0, (afterF l (factsTo l k) k).n, ByteArray.empty, []⟩ = refTo l (k + 1) := by
  rw [refTo, refIr_yes h]
@[reducible] def boxOutR (c : Cd) (q : Nat) : AObj := .box [.pv (.lit (.string c.name)), .pv (slTy c.params), .pv (pint c.regs), .pv (pint c.cells), .own q]
@[reducible] def rowF (xs : List Fact) : AObj := .row false 69 2 Fact encFact dFact xs
theorem ops_ok {c : Cd} (h : (rightR c).1 = 0) : ∀ i, i < c.l.length → (c.l.getD i dIr).kind = 3 → ∀ a b, (opv (c.l.getD i dIr).op a b).2 = true := by
  intro i hi hk a b
  have hf : formOk c = true := by
    cases hb : formOk c
    · rw [right_form hb] at h; simp at h
    · rfl
  unfold rightR at h
  rw [hf] at h
  have hw := firstWrong_ok _ _ h i (Nat.zero_le _) (by omega)
  unfold wrongI wrongX at hw
  cases hb : badOp (c.l.getD i dIr)
  case true => rw [hb] at hw; simp at hw
  generalize c.l.getD i dIr = x at hk hb ⊢
  unfold badOp at hb
  rw [hk] at hb
  simp at hb
  exact opv_ok (by omega) (by omega)

set_option maxHeartbeats 1000000 in
set_option maxRecDepth 100000 in
theorem ref_fold (c : Cd) (hs : Small c) (hw : CdOk c) : PureCall Try.prog 25 [aCd c] (.tup [aCd (foldC c).1, lt' .i64 (foldC c).2]) := by
  have hl := hs.l
  refine pure_ruleS tabOk Try.func25 rfl (by kernel_rfl) (Nat.le_of_ble_eq_true rfl) ?_
  show Tri Try.prog 68 (bodyOf Try.f25) _ _ _
  refine cut_rule tabOk (by kernel_rfl) 3 (X := Unit) (fun _ => (rightR c).1 = 0) (fun _ => ([(1, .ptr 0 0), (2, .ptr 1 0)], [boxCd c, boxZ])) ?_ ?_
  · refine Or.inl ⟨_, _, FitAL.self rfl, ref_right c hs, ?_⟩
    refine And.intro ?_ ?_
    · intro h
      have h : ((rightR c).1 == 0) = false := by simpa using h
      unfold foldC
      rw [h]
      repeat' refine And.intro ?_ ?_
      all_goals first | rfl | exact trivial
    · intro h
      exact Exists.intro () (And.intro (by simpa using h) (Exists.intro [some 0, some 1] (And.intro rfl (And.intro (And.intro rfl (And.intro rfl trivial)) (And.intro mCd (And.intro mZ trivial))))))
  rintro ⟨⟩ hr
  have ho := ops_ok hr
  refine cut_rule tabOk (by kernel_rfl) 2 (X := Unit) (fun _ => True) (fun _ => ([(1, .ptr 0 0), (2, .ptr 1 0), (6, .ptr 2 0)], [boxCd c, boxZ, boxOutR c 3, rowIr c.l])) ?_ ?_
  · refine Exists.intro [] (And.intro rfl (And.intro trivial ?_))
    refine Exists.intro _ (And.intro rfl (And.intro ?_ ?_))
    · show (0 + c.l.length) * 96 ≤ 140737488355328
      omega
    exact Exists.intro () (And.intro trivial (Exists.intro [some 0, some 1, some 2, some 4] (And.intro rfl (And.intro (And.intro rfl (And.intro rfl (And.intro rfl trivial))) (And.intro mCd (And.intro mZ (And.intro (And.intro rfl (And.intro rfl (And.intro rfl (And.intro rfl (And.intro rfl trivial))))) (And.intro rfl trivial))))))))
  rintro ⟨⟩ _
  refine Tri.of tabOk (by kernel_rfl) ?_
  refine loop_ruleS (X := Nat) (fun k => k ≤ c.l.length) (fun k => ([(1, .ptr 0 0), (2, .ptr 1 0), (6, .ptr 2 0), (7, .own 4), (8, lt' .i64 k)], [boxCd c, boxZ, boxOutR c 3, rowIr (refTo c.l k), rowF (factsTo c.l k)])) (fun k => c.l.length - k) 0 (Nat.zero_le _)
    (Exists.intro [some 0, some 1, some 2, some 3, none] (And.intro rfl (And.intro (And.intro rfl (And.intro rfl (And.intro rfl (And.intro rfl (And.intro rfl trivial))))) (And.intro mCd (And.intro mZ (And.intro (And.intro rfl (And.intro rfl (And.intro rfl (And.intro rfl (And.intro rfl trivial))))) (And.intro rfl (And.intro (And.intro rfl (And.intro (by decide) rfl)) trivial)))))))) ?_
  intro k hk
  refine cut_rule tabOk (by kernel_rfl) 1 (X := Unit) (fun _ => k < c.l.length) (fun _ => ([(1, .ptr 0 0), (2, .ptr 1 0), (6, .ptr 2 0), (7, .own 4), (8, lt' .i64 k)], [boxCd c, boxZ, boxOutR c 3, rowIr (refTo c.l k), rowF (factsTo c.l k)])) ?_ ?_
  · refine And.intro ?_ ?_
    · intro h
      exact Exists.intro () (And.intro (by have := of_decide_eq_true h; omega) (Exists.intro [some 0, some 1, some 2, some 3, some 4] (And.intro rfl (And.intro (And.intro rfl (And.intro rfl (And.intro rfl (And.intro rfl (And.intro rfl trivial))))) (And.intro mCd (And.intro mZ (And.intro (And.intro rfl (And.intro rfl (And.intro rfl (And.intro rfl (And.intro rfl trivial))))) (And.intro rfl (And.intro rfl trivial)))))))))
    · intro h
      have e : k = c.l.length := by have := of_decide_eq_false h; omega
      subst e
      have hr' : ((rightR c).1 == 0) = true := by rw [hr]; rfl
      unfold foldC
      rw [hr', ← refTo_all c.l ho]
      repeat' refine And.intro ?_ ?_
      all_goals first | rfl | exact trivial
  rintro ⟨⟩ hlt
  have haft := ref_after c (factsTo c.l k) k hlt (factsTo_length c.l k) hl (factsTo_ok hw k hk)
  have e : c.l.getD ((k : Int).toNat) dIr = c.l.getD k dIr := rfl
  have hfl := factsTo_length c.l k
  have hrl := refTo_length c.l k
  refine Tri.seq tabOk (by kernel_rfl) ?_
  refine Tri.block ?_
  refine cut_rule tabOk (by kernel_rfl) 2 (X := Unit) (fun _ => True) (fun _ => ([(1, .ptr 0 0), (2, .ptr 1 0), (6, .ptr 2 0), (7, .own 4), (8, lt' .i64 k), (9, .ptr 5 0)], [boxCd c, boxZ, boxOutR c 3, rowIr (refTo c.l k), rowF (factsTo c.l (k + 1)), boxF (afterF c.l (factsTo c.l k) k)])) ?_ ?_
  · refine Or.inl (Exists.intro [aCd c, .pv (slFact (factsTo c.l k)), lt' .i64 k] (Exists.intro _ (And.intro (And.intro (And.intro rfl (And.intro rfl (And.intro rfl (And.intro rfl (And.intro rfl trivial))))) (And.intro rfl (And.intro rfl trivial))) (And.intro haft ?_))))
    refine Exists.intro [afterF c.l (factsTo c.l k) k] (And.intro rfl (And.intro (And.intro (And.intro rfl (And.intro rfl trivial)) trivial) ?_))
    refine Exists.intro _ (And.intro rfl (And.intro ?_ ?_))
    · show ((factsTo c.l k).length + 1) * 8 ≤ 140737488355328
      omega
    exact Exists.intro () (And.intro trivial (Exists.intro [some 0, some 1, some 2, some 3, some 7, some 5] (And.intro rfl (And.intro (And.intro rfl (And.intro rfl (And.intro rfl (And.intro rfl (And.intro rfl (And.intro rfl trivial)))))) (And.intro mCd (And.intro mZ (And.intro (And.intro rfl (And.intro rfl (And.intro rfl (And.intro rfl (And.intro rfl trivial))))) (And.intro rfl (And.intro rfl (And.intro mF trivial))))))))))
  rintro ⟨⟩ _
  generalize hfe : afterF c.l (factsTo c.l k) k = fa
  have hkeep := fun h => refTo_keep hlt h
  have hturn := fun h => refTo_turn (l := c.l) (k := k) h
  rw [hfe] at hkeep hturn
  refine cut_rule tabOk (by kernel_rfl) 1 (X := Unit) (fun _ => True) (fun _ => ([(1, .ptr 0 0), (2, .ptr 1 0), (6, .ptr 2 0), (7, .own 4), (8, lt' .i64 k), (9, .ptr 5 0), (10, .ptr 6 0)], [boxCd c, boxZ, boxOutR c 3, rowIr (refTo c.l k), rowF (factsTo c.l (k + 1)), boxF fa, boxIr (c.l.getD k dIr)])) ?_ ?_
  · refine And.intro (Int.natCast_nonneg k) (And.intro (by omega) ?_)
    exact Exists.intro () (And.intro trivial (Exists.intro [some 0, some 1, some 2, some 3, some 4, some 5, some 6] (And.intro rfl (And.intro (And.intro rfl (And.intro rfl (And.intro rfl (And.intro rfl (And.intro rfl (And.intro rfl (And.intro rfl trivial))))))) (And.intro mCd (And.intro mZ (And.intro (And.intro rfl (And.intro rfl (And.intro rfl (And.intro rfl (And.intro rfl trivial))))) (And.intro rfl (And.intro rfl (And.intro mF (And.intro mIr trivial)))))))))))
  rintro ⟨⟩ _
  refine Tri.of tabOk (by kernel_rfl) ?_
  clear hw hs
  repeat' first
    | refine And.intro ?_ ?_
    | (intro h; try simp only [Bool.not_true, Bool.not_false, cond_true, cond_false, reduceCtorEq] at h; try (replace h : True := h; clear h))
    | refine @Exists.intro (List AV) _ [.pv (pint 1), .pv (pint 0), .pv (pint (c.l.getD k dIr).d), .pv (pint 0), .pv (pint 0), .pv (pint 0), .pv (pu32 fa.n), .pv (.lit (.string ByteArray.empty)), .pv (slI [])] (And.intro (And.intro (Or.inl rfl) (And.intro (Or.inl rfl) (And.intro (Or.inl rfl) (And.intro (Or.inl rfl) (And.intro (Or.inl rfl) (And.intro (Or.inl rfl) (And.intro (Or.inl rfl) (And.intro (Or.inl rfl) (And.intro (Or.inr (And.intro rfl (Exists.intro 1 (Exists.intro Int (Exists.intro encI (Exists.intro 0 rfl)))))) trivial))))))))) (Exists.intro ⟨1, 0, (c.l.getD k dIr).d, 0, 0, 0, fa.n, ByteArray.empty, []⟩ (And.intro rfl ?_)))
  all_goals try refine Exists.intro (k+1) (And.intro ?_ (And.intro ?_ (Exists.intro [some 0, some 1, some 2, some 3, some 4] (And.intro rfl (And.intro (And.intro rfl (And.intro rfl (And.intro rfl (And.intro rfl (And.intro (mt_int (wrap_succ ?_)) trivial))))) (And.intro mCd (And.intro mZ (And.intro (And.intro rfl (And.intro rfl (And.intro rfl (And.intro rfl (And.intro rfl trivial))))) (And.intro (mt_row ?_) (And.intro rfl trivial))))))))))
  all_goals first
    | omega
    | exact Int.natCast_nonneg k
    | (show (k : Int) < ((refTo c.l k).length : Int); omega)
    | exact hkeep (by simp only [*, Bool.true_and, Bool.false_and, Bool.and_false])
    | exact hturn (by simp only [*, Bool.true_and, Bool.and_true])
end Go.Vx

namespace Go.Vx
open Go.Proofs

theorem Small.foldC {c : Cd} (h : Small c) : Small (foldC c).1 := by
  cases hr : ((rightR c).1 == 0)
  · rw [foldC_no hr]
    show Small dCd
    exact ⟨by decide, by decide, by decide, by decide⟩
  · rw [foldC_ok hr]
    exact h.fold

set_option maxHeartbeats 1000000 in
set_option maxRecDepth 100000 in
theorem fold_tells (c : Cd) (hw : CdOk c) : PureCall Try.prog 3 [aCd c] (lb true) := by
  have hn : ∀ x ∈ c.l, 0 ≤ x.n := fun x hx => (hw x hx).1
  refine pure_ruleS tabOk Try.func3 rfl (by kernel_rfl) (Nat.le_of_ble_eq_true rfl) ?_
  show Tri Try.prog 69 (bodyOf Try.f3) _ _ _
  refine cut_rule tabOk (by kernel_rfl) 4 (X := Unit) (fun _ => lightB [c] = true) (fun _ => ([(1, .ptr 0 0), (3, lb true)], [boxCd c])) ?_ ?_
  · refine Or.inl ⟨_, _, FitAL.self rfl, awake09, ?_⟩
    refine Exists.intro [c] (And.intro rfl (And.intro (And.intro (And.intro rfl (And.intro rfl (And.intro rfl (And.intro rfl (And.intro rfl trivial))))) trivial) ?_))
    refine Or.inl (Exists.intro [.pv (slCd [c])] (Exists.intro _ (And.intro (And.intro rfl trivial) (And.intro (ref_light [c]) ?_))))
    repeat' first
      | refine And.intro ?_ ?_
      | (intro h; try simp only [Bool.not_true, Bool.not_false, cond_true, cond_false, reduceCtorEq] at h; try (replace h : True := h; clear h))
      | refine fit_bool (H := []) ?_
    all_goals try rfl
    all_goals try refine Exists.intro () (And.intro ?_ (Exists.intro [some 0] (And.intro rfl (And.intro (And.intro rfl (And.intro rfl trivial)) (And.intro mCd trivial)))))
    all_goals simp only [Bool.not_eq_eq_eq_not, Bool.not_true, Bool.not_false] at *
    all_goals assumption
  rintro ⟨⟩ hlight
  have hs := Small.of_light hlight
  have hl := hs.l
  have hf := fold_fold c hs hn
  have hg := ref_fold c hs hw
  have hsame := ref_same (foldC c).1 (foldC c).1 hs.foldC.params hs.foldC.l (fun x hx => (hs.foldC.ir x hx).2)
  rw [← same_yes rfl] at hsame
  refine cut_rule tabOk (by kernel_rfl) 3 (X := Unit) (fun _ => True) (fun _ => ([(1, .ptr 0 0), (3, lb true), (6, lt' .i64 (foldC c).2), (8, lt' .i64 (foldC c).2), (9, lb true)], [boxCd c])) ?_ ?_
  · refine Or.inl (Exists.intro [aCd c] (Exists.intro _ (And.intro (FitAL.self rfl) (And.intro hf ?_))))
    refine Or.inl (Exists.intro [aCd c] (Exists.intro _ (And.intro (FitAL.self rfl) (And.intro hg ?_))))
    refine Or.inl (Exists.intro [aCd (foldC c).1, aCd (foldC c).1] (Exists.intro _ (And.intro (FitAL.self rfl) (And.intro hsame ?_))))
    exact Exists.intro () (And.intro trivial (Exists.intro [some 0] (And.intro rfl (And.intro (And.intro rfl (And.intro rfl (And.intro rfl (And.intro rfl (And.intro rfl trivial))))) (And.intro mCd trivial)))))
  rintro ⟨⟩ _
  have hk := fold_known c hl
  generalize (foldC c).2 = e
  clear hf hg hsame
  refine cut_rule tabOk (by kernel_rfl) 2 (X := Unit) (fun _ => True) (fun _ => ([(1, .ptr 0 0), (3, lb true), (6, lt' .i64 e), (8, lt' .i64 e), (9, lb true), (10, lt' .i64 (knownN c.l))], [boxCd c])) ?_ ?_
  · refine loop_rule (X := Nat) tabOk (by kernel_rfl) (fun k => k ≤ c.l.length) (fun k => ([(1, .ptr 0 0), (3, lb true), (6, lt' .i64 e), (8, lt' .i64 e), (9, lb true), (10, lt' .i64 (knownN (c.l.take k))), (11, lt' .i64 k)], [boxCd c])) (fun k => c.l.length - k) 0 (Nat.zero_le _)
      (Exists.intro [some 0] (And.intro rfl (And.intro (And.intro rfl (And.intro rfl (And.intro rfl (And.intro rfl (And.intro rfl (And.intro rfl (And.intro rfl trivial))))))) (And.intro mCd trivial)))) ?_
    intro k hk
    repeat' first
      | refine And.intro ?_ ?_
      | (intro h; try simp only [Bool.not_true, Bool.not_false, cond_true, cond_false, reduceCtorEq] at h; try (replace h : True := h; clear h))
    all_goals try refine Exists.intro (k+1) (And.intro ?_ (And.intro ?_ (Exists.intro [some 0] (And.intro rfl (And.intro (And.intro rfl (And.intro rfl (And.intro rfl (And.intro rfl (And.intro rfl (And.intro (mt_int ?_) (And.intro (mt_int (wrap_succ ?_)) trivial))))))) (And.intro mCd trivial))))))
    all_goals try refine Exists.intro () (And.intro trivial (Exists.intro [some 0] (And.intro rfl (And.intro (And.intro rfl (And.intro rfl (And.intro rfl (And.intro rfl (And.intro rfl (And.intro (mt_int ?_) trivial)))))) (And.intro mCd trivial)))))
    all_goals clear hw hn hs
    all_goals simp only [Int.toNat_natCast, decide_eq_true_eq, decide_eq_false_iff_not] at *
    all_goals first
      | omega
      | exact trivial
      | (rw [knownN_next (l := c.l) (k := k) (by omega), knStep] <;> simp only [*, cond_true, cond_false]; done)
      | rw [List.take_of_length_le (by omega)]
  rintro ⟨⟩ _
  refine Tri.of tabOk (by kernel_rfl) ?_
  repeat' first
    | refine And.intro ?_ ?_
    | (intro h; first | exact absurd h (by decide) | (rw [beq_self_eq_true] at h; exact absurd h (by decide)) | (try simp only [Bool.not_true, Bool.not_false, cond_true, cond_false, reduceCtorEq] at h; try (replace h : True := h; clear h)))
    | refine fit_bool (H := []) ?_
    | refine Or.inl (Exists.intro [aCd c] (Exists.intro _ (And.intro (FitAL.self rfl) (And.intro hk ?_))))
  all_goals simp only [beq_self_eq_true, cond_true]
end Go.Vx

