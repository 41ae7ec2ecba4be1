/- Contracts: which functions are gone through, which are the same; the arguments of rows; what folding keeps. No condition: these are lemmas for the laws. -/
import Derived.Test.YtmmdnljokoojdaaXb
import Derived.Laws.StructEq
import Derived.Laws.Small
import Derived.Test.YtmmdnljokoojdaaXa
import Derived.Carry
import Derived.Test.YtmmdnljokoojdaaXc
set_option linter.unusedVariables false
set_option linter.unusedSimpArgs false
namespace Go.Vx
open Go.Proofs

def irLight (x : Ir) : Bool := decide (x.name.size ≤ 100) && decide (x.args.length ≤ 20)
def cdLight (c : Cd) : Bool := decide (c.name.size ≤ 100) && decide (c.params.length ≤ 20) && decide (c.l.length ≤ 3000) && decide (c.regs ≤ 20000) && decide (c.cells ≤ 20000) && c.l.all irLight
def lightB (l : List Cd) : Bool := decide (l.length ≤ 20) && l.all cdLight

theorem cdLight_iff {c : Cd} : cdLight c = true ↔ c.name.size ≤ 100 ∧ c.params.length ≤ 20 ∧ c.l.length ≤ 3000 ∧ c.regs ≤ 20000 ∧ c.cells ≤ 20000 ∧ ∀ i, i < c.l.length → (c.l.getD i dIr).name.size ≤ 100 ∧ (c.l.getD i dIr).args.length ≤ 20 := by
  unfold cdLight irLight
  simp only [Bool.and_eq_true, decide_eq_true_eq, List.all_eq_true, and_assoc]
  constructor
  · rintro ⟨h1, h2, h3, h4, h5, h6⟩
    refine ⟨h1, h2, h3, h4, h5, fun i hi => ?_⟩
    rw [List.getD_eq_getElem?_getD, List.getElem?_eq_getElem hi]
    exact h6 _ (List.getElem_mem hi)
  · rintro ⟨h1, h2, h3, h4, h5, h6⟩
    refine ⟨h1, h2, h3, h4, h5, fun x hx => ?_⟩
    obtain ⟨i, hi, rfl⟩ := List.getElem_of_mem hx
    have := h6 i hi
    rwa [List.getD_eq_getElem?_getD, List.getElem?_eq_getElem hi] at this
theorem cd_no {c : Cd} (h : 100 < c.name.size ∨ 20 < c.params.length ∨ 3000 < c.l.length ∨ 20000 < c.regs ∨ 20000 < c.cells ∨ ∃ i, i < c.l.length ∧ ¬ ((c.l.getD i dIr).name.size ≤ 100 ∧ (c.l.getD i dIr).args.length ≤ 20)) : cdLight c = false := by
  rw [← Bool.not_eq_true, cdLight_iff]
  rintro ⟨h1, h2, h3, h4, h5, h6⟩
  rcases h with h | h | h | h | h | ⟨i, hi, h⟩
  · omega
  · omega
  · omega
  · omega
  · omega
  · exact h (h6 i hi)
def LightTo (l : List Cd) (k : Nat) : Prop := k ≤ l.length ∧ ∀ i, i < k → cdLight (l.getD i dCd) = true
theorem LightTo.next {l : List Cd} {k : Nat} (h : LightTo l k) (hk : k < l.length) (ha : cdLight (l.getD k dCd) = true) : LightTo l (k + 1) := ⟨hk, fun i hi => by
  rcases Nat.lt_or_ge i k with h1 | h1
  · exact h.2 i h1
  · obtain rfl : i = k := by omega
    exact ha⟩
theorem light_no {l : List Cd} (h : 20 < l.length ∨ ∃ i, i < l.length ∧ cdLight (l.getD i dCd) = false) : false = lightB l := by
  symm
  rw [← Bool.not_eq_true, lightB, Bool.and_eq_true, decide_eq_true_eq, List.all_eq_true]
  rintro ⟨h1, h2⟩
  rcases h with h | ⟨i, hi, h⟩
  · omega
  · rw [List.getD_eq_getElem?_getD, List.getElem?_eq_getElem hi, Option.getD_some, h2 _ (List.getElem_mem hi)] at h
    cases h
theorem LightTo.all {l : List Cd} {k : Nat} (h : LightTo l k) (hk : ¬ k < l.length) (hl : l.length ≤ 20) : true = lightB l := by
  symm
  rw [lightB, Bool.and_eq_true, decide_eq_true_eq, List.all_eq_true]
  refine ⟨hl, fun x hx => ?_⟩
  obtain ⟨i, hi, rfl⟩ := List.getElem_of_mem hx
  have := h.2 i (by omega)
  rwa [List.getD_eq_getElem?_getD, List.getElem?_eq_getElem hi] at this
def IrsTo (c : Cd) (k : Nat) : Prop := k ≤ c.l.length ∧ ∀ i, i < k → (c.l.getD i dIr).name.size ≤ 100 ∧ (c.l.getD i dIr).args.length ≤ 20
theorem IrsTo.next {c : Cd} {k : Nat} (h : IrsTo c k) (hk : k < c.l.length) (ha : (c.l.getD k dIr).name.size ≤ 100 ∧ (c.l.getD k dIr).args.length ≤ 20) : IrsTo c (k + 1) := ⟨hk, fun i hi => by
  rcases Nat.lt_or_ge i k with h1 | h1
  · exact h.2 i h1
  · obtain rfl : i = k := by omega
    exact ha⟩
theorem mCd_eq {r : Ren} {c d : Cd} (h : d = c) : matchC r ((encCd c).map .pv) ((encCd d).map .pv) := by rw [h]; exact mCd

set_option maxRecDepth 100000 in
theorem ref_light (l : List Cd) : PureCall Try.prog 23 [.pv (slCd l)] (lb (lightB l)) := by
  refine pure_rule tabOk Try.func23 rfl (by kernel_rfl) (by kernel_rfl) (Nat.le_of_ble_eq_true rfl) ?_
  show awp Try.prog tab 70 (bodyOf Try.f23) _ _ _
  refine And.intro ?_ ?_
  · intro h
    exact fit_bool (H := []) (light_no (.inl (by have := of_decide_eq_true h; omega)))
  intro hlen
  have hlen : l.length ≤ 20 := by have := of_decide_eq_false hlen; omega
  refine loop_rule (X := Nat) tabOk (by kernel_rfl) (LightTo l) (fun k => ([(0, .pv (slCd l)), (3, lt' .i64 k)], [])) (fun k => l.length - k) 0 (And.intro (Nat.zero_le _) fun i h => absurd h (Nat.not_lt_zero _)) ⟨[], rfl, ⟨rfl, rfl, trivial⟩, trivial⟩ ?_
  intro k hk
  have e : l.getD ((k : Int).toNat) dCd = l.getD k dCd := rfl
  generalize hc : l.getD k dCd = c at e
  have hN : k < l.length → cdLight c = false → false = lightB l := fun h h' => light_no (.inr ⟨k, h, by rw [hc]; exact h'⟩)
  have hP : k < l.length → cdLight c = true → LightTo l (k + 1) := fun h h' => hk.next h (by rw [hc]; exact h')
  have hA : ¬ k < l.length → true = lightB l := fun h => hk.all h hlen
  clear hc hk hlen
  repeat' first
    | refine And.intro ?_ ?_
    | (intro h; try simp only [Bool.not_true, Bool.not_false, cond_true, cond_false, reduceCtorEq] at h; try (replace h : True := h; clear h))
    | refine fit_bool (H := []) ?_
    | refine loop_rule (X := Nat) tabOk (by kernel_rfl) (IrsTo c) (fun j => ([(0, .pv (slCd l)), (3, lt' .i64 k), (4, .ptr 0 0), (5, lt' .i64 j)], [boxCd c])) (fun j => c.l.length - j) 0 (And.intro (Nat.zero_le _) fun i h => absurd h (Nat.not_lt_zero _)) (Exists.intro [some 0] (And.intro rfl (And.intro (And.intro rfl (And.intro rfl (And.intro rfl (And.intro rfl trivial)))) (And.intro (mCd_eq e) trivial)))) (fun j hj => ?_)
  all_goals try (
    repeat' first
      | refine And.intro ?_ ?_
      | (intro h; try simp only [Bool.not_true, Bool.not_false, cond_true, cond_false, reduceCtorEq] at h; try (replace h : True := h; clear h))
      | refine fit_bool (H := []) ?_)
  all_goals try exact trivial
  all_goals try refine Exists.intro (j+1) (And.intro ?_ (And.intro ?_ (Exists.intro [some 0] (And.intro rfl (And.intro (And.intro rfl (And.intro rfl (And.intro rfl (And.intro (mt_int (wrap_succ ?_)) trivial)))) (And.intro mCd trivial))))))
  all_goals try refine Exists.intro (k+1) (And.intro ?_ (And.intro ?_ (Exists.intro [] (And.intro rfl (And.intro (And.intro rfl (And.intro (mt_int (wrap_succ ?_)) trivial)) trivial)))))
  all_goals simp only [Int.toNat_natCast, decide_eq_true_eq, decide_eq_false_iff_not] at *
  all_goals try simp only [e] at *
  all_goals first
    | omega
    | exact hj.next (by omega) (And.intro (by omega) (by omega))
    | exact hN (by omega) (cd_no (.inl (by omega)))
    | exact hN (by omega) (cd_no (.inr (.inl (by omega))))
    | exact hN (by omega) (cd_no (.inr (.inr (.inl (by omega)))))
    | exact hN (by omega) (cd_no (.inr (.inr (.inr (.inl (by omega))))))
    | exact hN (by omega) (cd_no (.inr (.inr (.inr (.inr (.inl (by omega)))))))
    | exact hN (by omega) (cd_no (.inr (.inr (.inr (.inr (.inr (Exists.intro j (And.intro (by omega) (by omega)))))))))
    | exact hP (by omega) (by rw [cdLight_iff]; exact And.intro (by omega) (And.intro (by omega) (And.intro (by omega) (And.intro (by omega) (And.intro (by omega) (fun i hi => hj.2 i (by omega)))))))
    | exact hA (by omega)
end Go.Vx

namespace Go.Vx
open Go.Proofs

theorem ty_equal (x y : Ty) (w : World) : (Op.equalIn 10000 42 (.agg #[.bool x.sec, .int .i64 x.len]) (.agg #[.bool y.sec, .int .i64 y.len])).run Try.prog w = .ok (x.sec == y.sec && x.len == y.len) w := by
  have u3 := Try.underlying3
  have u4 := Try.underlying4
  have hS : Try.prog.underlying 42 = some (.struct (Try.prog.fieldsOf 42)) := by kernel_rfl
  have hp : Try.prog.stoodInHeld 42 = false := by kernel_rfl
  rw [show (10000 : Nat) = 9999 + 1 from rfl, run_equalIn_agg (w := w) (d := 9999) (t := 42) _ _ hS hp]
  simp only [Program.fieldsOf, Try.underlying42]
  go_simp
  by_cases h1 : x.sec = y.sec <;> by_cases h2 : x.len = y.len <;> simp [h1, h2]
theorem ty_neq (x y : Ty) (p q : Operand) (w : World) : (eqGuard .neq 42 p q (.agg #[.bool x.sec, .int .i64 x.len]) (.agg #[.bool y.sec, .int .i64 y.len])).run Try.prog w = .ok () w ∧
    (binOp .neq 42 (.agg #[.bool x.sec, .int .i64 x.len]) (.agg #[.bool y.sec, .int .i64 y.len])).run Try.prog w = .ok (.bool (!(x.sec == y.sec && x.len == y.len))) w :=
  ⟨run_eqGuard_agg (w := w) .neq 42 p q _ _ (by kernel_rfl), by rw [run_neq_struct, ty_equal]; rfl⟩

noncomputable def same (a b : Cd) : Bool := @decide (a = b) (Classical.propDecidable _)
theorem same_no {a b : Cd} (h : a ≠ b) : false = same a b := by
  unfold same
  exact (@decide_eq_false _ (Classical.propDecidable _) h).symm
theorem same_yes {a b : Cd} (h : a = b) : true = same a b := by
  unfold same
  exact (@decide_eq_true _ (Classical.propDecidable _) h).symm
theorem same_iff {a b : Cd} : same a b = true ↔ a = b := by unfold same; exact @decide_eq_true_iff _ (Classical.propDecidable _)

/-- Two rows agree up to a place. -/
def EqTo {α : Type} (d : α) (xs ys : List α) (k : Nat) : Prop := k ≤ xs.length ∧ ∀ i, i < k → xs.getD i d = ys.getD i d
theorem EqTo.zero {α : Type} {d : α} {xs ys : List α} : EqTo d xs ys 0 := ⟨Nat.zero_le _, fun i h => absurd h (Nat.not_lt_zero _)⟩
theorem EqTo.next {α : Type} {d : α} {xs ys : List α} {k : Nat} (h : EqTo d xs ys k) (hk : k < xs.length) (h0 : xs.getD k d = ys.getD k d) : EqTo d xs ys (k + 1) := ⟨hk, fun i hi => by
  rcases Nat.lt_or_ge i k with h1 | h1
  · exact h.2 i h1
  · obtain rfl : i = k := by omega
    exact h0⟩
theorem EqTo.eq {α : Type} {d : α} {xs ys : List α} {k : Nat} (h : EqTo d xs ys k) (hk : ¬ k < xs.length) (hl : xs.length = ys.length) : xs = ys := by
  refine List.ext_getElem hl fun i h1 h2 => ?_
  have := h.2 i (by omega)
  rw [List.getD_eq_getElem?_getD, List.getD_eq_getElem?_getD, List.getElem?_eq_getElem h1, List.getElem?_eq_getElem h2] at this
  exact this

theorem ir_ext {x y : Ir} (h1 : x.kind = y.kind) (h2 : x.op = y.op) (h3 : x.d = y.d) (h4 : x.a = y.a) (h5 : x.b = y.b) (h6 : x.c = y.c) (h7 : x.n = y.n) (h8 : x.name = y.name) (h9 : x.args = y.args) : x = y := by
  cases x; cases y
  simp only at h1 h2 h3 h4 h5 h6 h7 h8 h9
  subst h1 h2 h3 h4 h5 h6 h7 h8 h9; rfl
theorem ty_eq_of {x y : Ty} (h : (!(x.sec == y.sec && x.len == y.len)) = false) : x = y := by
  cases x; cases y
  simp at h
  obtain ⟨rfl, rfl⟩ := h
  rfl
theorem ty_ne_self {x : Ty} (h : (!(x.sec == x.sec && x.len == x.len)) = true) : False := by simp at h

set_option maxRecDepth 100000 in
theorem ref_same (a b : Cd) (ha : a.params.length ≤ 1000000) (hl : a.l.length ≤ 1000000) (hx : ∀ x ∈ a.l, x.args.length ≤ 1000000) : PureCall Try.prog 26 [aCd a, aCd b] (lb (same a b)) := by
  refine pure_ruleS tabOk Try.func26 rfl (by kernel_rfl) (Nat.le_of_ble_eq_true rfl) ?_
  show Tri Try.prog 163 (bodyOf Try.f26) _ _ _
  refine cut_rule tabOk (by kernel_rfl) 2 (X := Unit) (fun _ => a.name = b.name ∧ a.params.length = b.params.length ∧ a.regs = b.regs ∧ a.cells = b.cells ∧ a.l.length = b.l.length) (fun _ => ([(2, .ptr 0 0), (3, .ptr 1 0)], [boxCd a, boxCd b])) ?_ ?_
  · repeat' first
      | refine And.intro ?_ ?_
      | (intro h; try simp only [Bool.not_true, Bool.not_false, cond_true, cond_false, reduceCtorEq] at h; try (replace h : True := h; clear h))
      | refine fit_bool (H := []) ?_
    all_goals try exact trivial
    all_goals try refine Exists.intro () (And.intro ?_ (Exists.intro [some 0, some 1] (And.intro rfl (And.intro (And.intro rfl (And.intro rfl trivial)) (And.intro mCd (And.intro mCd trivial))))))
    all_goals clear hx
    all_goals simp only [Bool.not_eq_eq_eq_not, Bool.not_true, Bool.not_false, strEq_iff, strEq_not, bne_iff_ne, bne_eq_false_iff_eq, ne_eq] at *
    all_goals first
      | exact same_no (fun h => by subst h; exact absurd rfl ‹_›)
      | exact And.intro ‹_› (And.intro (by omega) (And.intro ‹_› (And.intro ‹_› (by omega))))
  rintro ⟨⟩ ⟨h1, h2, h3, h4, h5⟩
  refine cut_rule tabOk (by kernel_rfl) 1 (X := Unit) (fun _ => a.params = b.params) (fun _ => ([(2, .ptr 0 0), (3, .ptr 1 0)], [boxCd a, boxCd b])) ?_ ?_
  · refine loop_rule (X := Nat) tabOk (by kernel_rfl) (EqTo dTy a.params b.params) (fun k => ([(2, .ptr 0 0), (3, .ptr 1 0), (5, lt' .i64 k)], [boxCd a, boxCd b])) (fun k => a.params.length - k) 0 EqTo.zero
      (Exists.intro [some 0, some 1] (And.intro rfl (And.intro (And.intro rfl (And.intro rfl (And.intro rfl trivial))) (And.intro mCd (And.intro mCd trivial))))) ?_
    intro k hk
    repeat' first
      | refine And.intro ?_ ?_
      | (intro h; try simp only [Bool.not_true, Bool.not_false, cond_true, cond_false, reduceCtorEq] at h; try (replace h : True := h; clear h))
      | refine draw_still tabOk mixed (by kernel_rfl) ?_
      | refine Exists.intro _ (And.intro (fun w => ty_neq (a.params.getD (k : Int).toNat dTy) (b.params.getD (k : Int).toNat dTy) _ _ w) ?_)
      | refine fit_bool (H := []) ?_
    all_goals try exact trivial
    all_goals try refine Exists.intro (k+1) (And.intro ?_ (And.intro ?_ (Exists.intro [some 0, some 1] (And.intro rfl (And.intro (And.intro rfl (And.intro rfl (And.intro (mt_int (wrap_succ ?_)) trivial))) (And.intro mCd (And.intro mCd trivial)))))))
    all_goals try refine Exists.intro () (And.intro ?_ (Exists.intro [some 0, some 1] (And.intro rfl (And.intro (And.intro rfl (And.intro rfl trivial)) (And.intro mCd (And.intro mCd trivial))))))
    all_goals clear hx
    all_goals simp only [Int.toNat_natCast, decide_eq_true_eq, decide_eq_false_iff_not] at *
    all_goals first
      | omega
      | exact hk.next (by omega) (ty_eq_of ‹_›)
      | exact hk.eq (by omega) h2
      | exact same_no (fun h => by subst h; exact ty_ne_self ‹_›)
  rintro ⟨⟩ hp
  refine Tri.of tabOk (by kernel_rfl) ?_
  refine loop_rule (X := Nat) tabOk (by kernel_rfl) (EqTo dIr a.l b.l) (fun k => ([(2, .ptr 0 0), (3, .ptr 1 0), (6, lt' .i64 k)], [boxCd a, boxCd b])) (fun k => a.l.length - k) 0 EqTo.zero
    (Exists.intro [some 0, some 1] (And.intro rfl (And.intro (And.intro rfl (And.intro rfl (And.intro rfl trivial))) (And.intro mCd (And.intro mCd trivial))))) ?_
  intro k hk
  have hN : k < a.l.length → a.l.getD k dIr ≠ b.l.getD k dIr → false = same a b := fun h h' => same_no (fun h => by subst h; exact h' rfl)
  have hP : k < a.l.length → a.l.getD k dIr = b.l.getD k dIr → EqTo dIr a.l b.l (k + 1) := fun h h' => hk.next h h'
  have hA : ¬ k < a.l.length → true = same a b := fun h => same_yes (by
    have h6 := hk.eq h h5
    obtain ⟨n1, p1, r1, c1, l1⟩ := a
    obtain ⟨n2, p2, r2, c2, l2⟩ := b
    simp only at h1 h3 h4 hp h6
    subst h1 h3 h4 hp h6; rfl)
  have hx' : k < a.l.length → (a.l.getD k dIr).args.length ≤ 1000000 := fun h => hx _ (by rw [List.getD_eq_getElem?_getD, List.getElem?_eq_getElem h]; exact List.getElem_mem h)
  have hka : k ≤ a.l.length := hk.1
  clear hk hx hp h1 h2 h3 h4
  generalize hxe : a.l.getD k dIr = x at *
  generalize hye : b.l.getD k dIr = y at *
  have ex : a.l.getD ((k : Int).toNat) dIr = x := hxe
  have ey : b.l.getD ((k : Int).toNat) dIr = y := hye
  clear hxe hye
  repeat' first
    | refine And.intro ?_ ?_
    | (intro h; try simp only [Bool.not_true, Bool.not_false, cond_true, cond_false, reduceCtorEq] at h; try (replace h : True := h; clear h))
    | refine fit_bool (H := []) ?_
    | refine loop_rule (X := Nat) tabOk (by kernel_rfl) (EqTo 0 x.args y.args) (fun j => ([(2, .ptr 0 0), (3, .ptr 1 0), (6, lt' .i64 k), (7, .ptr 2 0), (8, .ptr 3 0), (9, lt' .i64 j)], [boxCd a, boxCd b, boxIr x, boxIr y])) (fun j => x.args.length - j) 0 EqTo.zero
        (Exists.intro [some 0, some 1, some 2, some 3] (And.intro rfl (And.intro (And.intro rfl (And.intro rfl (And.intro rfl (And.intro rfl (And.intro rfl (And.intro rfl trivial)))))) (And.intro mCd (And.intro mCd (And.intro (mIr_eq ex) (And.intro (mIr_eq ey) trivial))))))) (fun j hj => ?_)
  all_goals try (
    repeat' first
      | refine And.intro ?_ ?_
      | (intro h; try simp only [Bool.not_true, Bool.not_false, cond_true, cond_false, reduceCtorEq] at h; try (replace h : True := h; clear h))
      | refine draw_still tabOk mixed (by kernel_rfl) ?_
      | refine fit_bool (H := []) ?_)
  all_goals try exact trivial
  all_goals try refine Exists.intro (j+1) (And.intro ?_ (And.intro ?_ (Exists.intro [some 0, some 1, some 2, some 3] (And.intro rfl (And.intro (And.intro rfl (And.intro rfl (And.intro rfl (And.intro rfl (And.intro rfl (And.intro (mt_int (wrap_succ ?_)) trivial)))))) (And.intro mCd (And.intro mCd (And.intro mIr (And.intro mIr trivial)))))))))
  all_goals try refine Exists.intro (k+1) (And.intro ?_ (And.intro ?_ (Exists.intro [some 0, some 1] (And.intro rfl (And.intro (And.intro rfl (And.intro rfl (And.intro (mt_int (wrap_succ ?_)) trivial))) (And.intro mCd (And.intro mCd trivial)))))))
  all_goals simp only [Int.toNat_natCast, decide_eq_true_eq, decide_eq_false_iff_not, Bool.not_eq_eq_eq_not, Bool.not_true, Bool.not_false, strEq_iff, strEq_not, bne_iff_ne, bne_eq_false_iff_eq, ne_eq] at *
  all_goals try simp only [ex, ey] at *
  all_goals first
    | omega
    | exact hj.next (by omega) ‹_›
    | exact hN (by omega) (fun h => by subst h; exact absurd rfl ‹_›)
    | exact hN (by omega) (fun h => by subst h; omega)
    | exact hP (by omega) (ir_ext ‹_› ‹_› ‹_› ‹_› ‹_› ‹_› ‹_› ‹_› (hj.eq (by omega) (by omega)))
    | exact hA (by omega)
end Go.Vx

namespace Go.Vx
open Go.Proofs
open Go.RowKit (Below)

/-! ### What a row tells of an argument -/
def Old (w : World) : Cells := fun b _ => b < w.heap.size
/-- Cells that stand for pure values. -/
def AllP (w : World) (cs : List Value) (ps : List PV) : Prop := cs.length = ps.length ∧ ∀ (j : Nat) (p : PV), ps[j]? = some p → ∃ v, cs[j]? = some v ∧ Rep w (Old w) v p

structure Shape (P : Program) (t : TypeId) (sz : Nat) {α : Type} (enc : α → List PV) (Ok : α → Prop) : Prop where
  len : ∀ x, (enc x).length = sz
  read : ∀ {η : Type} {en : TypeId × Value → η} {w : World} {base : Nat} {spare : Nat → Bool} {held : Bool} {fuel : Nat} {cs : List Value} {d : DataW η} {ps : List MemPlace},
    DataW.trod en P w base spare held fuel t cs = some (d, ps) → ∃ x : α, Ok x ∧ AllP w cs (enc x)

theorem AllP.one {w : World} {v : Value} {p : PV} (h : Rep w (Old w) v p) : AllP w [v] [p] := ⟨rfl, fun j q hq => by
  cases j with
  | zero => cases hq; exact ⟨v, rfl, h⟩
  | succ j => simp at hq⟩
theorem AllP.at_ {w : World} {cs : List Value} {p : PV} {o s : Nat} (h : AllP w ((cs.drop o).take s) [p]) : ∃ v, cs[o]? = some v ∧ Rep w (Old w) v p := by
  obtain ⟨v, hv, hr⟩ := h.2 0 p rfl
  refine ⟨v, ?_, hr⟩
  rw [List.getElem?_take] at hv
  split at hv
  · rw [List.getElem?_drop] at hv; simpa using hv
  · cases hv

section
variable {P : Program} {t e : TypeId}

theorem Shape.int {k : IntKind} (ht : P.underlying t = some (.int k)) : Shape P t 1 (fun n => [.lit (.int k n)]) (fun n => (Lit.int k n).wf = true) where
  len := fun _ => rfl
  read := by
    intro η en w base spare held fuel cs d ps h
    cases fuel with
    | zero => simp [DataW.trod] at h
    | succ fuel =>
      unfold DataW.trod at h
      rw [ht] at h
      split at h <;> try (first | (rename_i h1; cases h1; done) | (rename_i h1 _; cases h1; done) | cases h; done)
      · rename_i k1 k2 n h1
        cases h1
        split at h
        · rename_i hk
          obtain ⟨rfl, hw⟩ := hk
          exact ⟨n, hw, .one (.lit _ rfl)⟩
        · cases h
      all_goals (simp at *; done)
theorem Shape.bool (ht : P.underlying t = some .bool) : Shape P t 1 (fun b => [.lit (.bool b)]) (fun _ => True) where
  len := fun _ => rfl
  read := by
    intro η en w base spare held fuel cs d ps h
    cases fuel with
    | zero => simp [DataW.trod] at h
    | succ fuel =>
      unfold DataW.trod at h
      rw [ht] at h
      split at h <;> try (first | (rename_i h1; cases h1; done) | (rename_i h1 _; cases h1; done) | cases h; done)
      · exact ⟨_, trivial, .one (.lit _ rfl)⟩
      all_goals (simp at *; done)
theorem Shape.string (ht : P.underlying t = some .string) : Shape P t 1 (fun b => [.lit (.string b)]) (fun _ => True) where
  len := fun _ => rfl
  read := by
    intro η en w base spare held fuel cs d ps h
    cases fuel with
    | zero => simp [DataW.trod] at h
    | succ fuel =>
      unfold DataW.trod at h
      rw [ht] at h
      split at h <;> try (first | (rename_i h1; cases h1; done) | (rename_i h1 _; cases h1; done) | cases h; done)
      · exact ⟨_, trivial, .one (.lit _ rfl)⟩
      all_goals (simp at *; done)

theorem exists_list {α : Type} (d : α) {p : Nat → α → Prop} : ∀ n, (∀ i, i < n → ∃ x, p i x) → ∃ xs : List α, xs.length = n ∧ ∀ i, i < n → p i (xs.getD i d)
  | 0, _ => ⟨[], rfl, fun i h => absurd h (Nat.not_lt_zero _)⟩
  | n + 1, h => by
    obtain ⟨xs, hl, hx⟩ := exists_list d (p := p) n (fun i hi => h i (by omega))
    obtain ⟨x, hp⟩ := h n (by omega)
    refine ⟨xs ++ [x], by simp [hl], fun i hi => ?_⟩
    rw [List.getD_eq_getElem?_getD]
    rcases Nat.lt_or_ge i n with h1 | h1
    · rw [List.getElem?_append_left (by omega), ← List.getD_eq_getElem?_getD]; exact hx i h1
    · obtain rfl : i = n := by omega
      rw [List.getElem?_append_right (by omega), hl, Nat.sub_self]; exact hp
theorem mapM_some {α β : Type} {f : α → Option β} : ∀ {l : List α} {r : List β}, l.mapM f = some r → ∀ x ∈ l, ∃ y, f x = some y
  | [], r, _, x, hx => by cases hx
  | a :: l, r, h, x, hx => by
    rw [List.mapM_cons] at h
    simp only [Option.bind_eq_bind, Option.bind_eq_some_iff] at h
    obtain ⟨y, hy, ys, hys, _⟩ := h
    rcases List.mem_cons.1 hx with rfl | hx
    · exact ⟨y, hy⟩
    · exact mapM_some hys x hx
theorem mapM_get {α β : Type} {f : α → Option β} : ∀ {l : List α} {r : List β}, l.mapM f = some r → r.length = l.length ∧ ∀ (j : Nat) (x : α), l[j]? = some x → ∃ y, r[j]? = some y ∧ f x = some y
  | [], r, h => by
    rw [List.mapM_nil] at h
    cases h
    exact ⟨rfl, fun j x hx => by simp at hx⟩
  | a :: l, r, h => by
    rw [List.mapM_cons] at h
    simp only [Option.bind_eq_bind, Option.bind_eq_some_iff] at h
    obtain ⟨y, hy, ys, hys, he⟩ := h
    cases he
    obtain ⟨h1, h2⟩ := mapM_get hys
    refine ⟨by simp [h1], fun j x hx => ?_⟩
    cases j with
    | zero => cases hx; exact ⟨y, rfl, hy⟩
    | succ j => exact h2 j x hx
theorem cells_get {w : World} {base n : Nat} {a : Addr} {cs : List Value} (h : w.cells? base a n = some cs) : cs.length = n ∧ ∀ j, j < n → ∃ v, cs[j]? = some v ∧ w.cell? (a.add j) = some v := by
  unfold World.cells? at h
  split at h
  · obtain ⟨h1, h2⟩ := mapM_get h
    refine ⟨by simpa using h1, fun j hj => ?_⟩
    exact h2 j j (by simp [hj])
  · cases h
theorem cell_spot {w : World} {a : Addr} {v : Value} (h : w.cell? a = some v) : a.spot = none ∧ a.block < w.heap.size := by
  unfold World.cell? at h
  split at h
  · rename_i c x y hb
    split at h
    · cases h
    · rename_i hs
      exact ⟨by cases hsp : a.spot with
        | none => rfl
        | some q => rw [hsp] at hs; simp at hs, (Array.getElem?_eq_some_iff.1 hb).1⟩
  · cases h
theorem Addr.plain {b o n : Nat} : (⟨b, o, none⟩ : Addr).add n = ⟨b, o + n, none⟩ := by
  unfold Addr.add
  split
  · rename_i h; subst h; rfl
  · rfl

theorem Shape.slice {sz : Nat} {α : Type} {enc : α → List PV} {Ok : α → Prop} (d0 : α) (he : Shape P e sz enc Ok) (hsz : P.cellsOf e = sz) (h0 : 0 < sz) (ht : P.underlying t = some (.slice e)) :
    Shape P t 1 (fun xs => [.sl sz α enc d0 xs]) (fun xs => ∀ x ∈ xs, Ok x) where
  len := fun _ => rfl
  read := by
    intro η en w base spare held fuel cs d ps h
    cases fuel with
    | zero => simp [DataW.trod] at h
    | succ fuel =>
      unfold DataW.trod at h
      rw [ht] at h
      split at h <;> try (first | (rename_i h1; cases h1; done) | (rename_i h1 _; cases h1; done) | cases h; done)
      · refine ⟨[], fun x hx => (by cases hx), .one (.sl none 0 0 sz α enc d0 [] (fun _ _ => undef) 0 0 rfl (Nat.le_refl _) (fun i hi => absurd hi (Nat.not_lt_zero _)) (fun hi => absurd hi (Nat.lt_irrefl _)) (fun i j hi => absurd hi (Nat.not_lt_zero _)) (fun i j p hi => absurd hi (Nat.not_lt_zero _)))⟩
      · rename_i e' a len cap h1
        cases h1
        split at h
        case isFalse => cases h
        rename_i hcond
        simp only [Option.bind_eq_some_iff, Option.map_eq_some_iff] at h
        obtain ⟨elems, hel, rest, _, _⟩ := h
        obtain ⟨hlen, hget⟩ := mapM_get hel
        have key : ∀ i, i < len → ∃ x : α, Ok x ∧ ∃ ci, w.cells? base (a.add (i * sz)) sz = some ci ∧ AllP w ci (enc x) := by
          intro i hi
          obtain ⟨y, _, hy⟩ := hget i i (by simp [hi])
          rw [hsz] at hy
          simp only [Option.bind_eq_some_iff] at hy
          obtain ⟨ci, hci, hy⟩ := hy
          obtain ⟨x, hx, hp⟩ := he.read hy
          exact ⟨x, hx, ci, hci, hp⟩
        obtain ⟨xs, hxl, hxs⟩ := exists_list d0 len key
        refine ⟨xs, fun x hx => ?_, .one ?_⟩
        · obtain ⟨i, hi, rfl⟩ := List.getElem_of_mem hx
          have := (hxs i (by omega)).1
          rwa [List.getD_eq_getElem?_getD, List.getElem?_eq_getElem hi] at this
        · have hsp : 0 < len → a = ⟨a.block, a.off, none⟩ := by
            intro hp
            obtain ⟨_, ci, hci, _⟩ := hxs 0 hp
            obtain ⟨_, hg⟩ := cells_get hci
            obtain ⟨v, _, hv⟩ := hg 0 h0
            rw [Nat.zero_mul] at hv
            have e0 : (a.add 0).add 0 = a := rfl
            rw [e0] at hv
            have := (cell_spot hv).1
            cases a
            simp only at this
            rw [this]
          have cell : ∀ i j, i < len → j < sz → ∃ v, w.cell? ⟨a.block, a.off + i * sz + j, none⟩ = some v ∧ ∀ ci, w.cells? base (a.add (i * sz)) sz = some ci → ci[j]? = some v := by
            intro i j hi hj
            obtain ⟨_, ci, hci, _⟩ := hxs i hi
            obtain ⟨_, hg⟩ := cells_get hci
            obtain ⟨v, hv1, hv2⟩ := hg j hj
            refine ⟨v, ?_, fun c2 h2 => ?_⟩
            · rw [hsp (by omega), Addr.plain, Addr.plain] at hv2
              exact hv2
            · rw [hci] at h2; cases h2; exact hv1
          refine .sl (some a) len cap sz α enc d0 xs (fun i j => (w.cell? ⟨a.block, a.off + i * sz + j, none⟩).getD undef) a.block a.off hxl.symm hcond.2.1 (fun i hi => he.len _) (fun hp => congrArg some (hsp hp)) (fun i j hi hj => ?_) (fun i j p hi hp => ?_)
          · obtain ⟨v, hv, _⟩ := cell i j hi hj
            refine ⟨(cell_spot hv).2, ?_⟩
            rw [hv]; rfl
          · have hj : j < sz := by rw [← he.len (xs.getD i d0)]; exact (List.getElem?_eq_some_iff.1 hp).1
            obtain ⟨v, hv, hc⟩ := cell i j hi hj
            obtain ⟨_, ci, hci, hall⟩ := hxs i hi
            obtain ⟨v2, hv2, hr⟩ := hall.2 j p hp
            rw [hc ci hci] at hv2
            cases hv2
            show Rep w (Old w) ((w.cell? ⟨a.block, a.off + i * sz + j, none⟩).getD undef) p
            rw [hv]
            exact hr
      all_goals (simp at *; done)
theorem struct_read {fields : Array Field} {l : List (Nat × TypeId)} (ht : P.underlying t = some (.struct fields)) (hm : fields.toList.map (fun f => (f.offset, f.type)) = l)
    {η : Type} {en : TypeId × Value → η} {w : World} {base : Nat} {spare : Nat → Bool} {held : Bool} {fuel : Nat} {cs : List Value} {d : DataW η} {ps : List MemPlace} (h : DataW.trod en P w base spare held fuel t cs = some (d, ps)) :
    cs.length = P.cellsOf t ∧ ∀ q ∈ l, ∃ fuel' d' ps', DataW.trod en P w base spare held fuel' q.2 ((cs.drop q.1).take (P.cellsOf q.2)) = some (d', ps') := by
  cases fuel with
  | zero => simp [DataW.trod] at h
  | succ fuel =>
    unfold DataW.trod at h
    rw [ht] at h
    split at h <;> try (first | (rename_i h1; cases h1; done) | (rename_i h1 _; cases h1; done) | cases h; done)
    · rename_i fs' cs' h1
      cases h1
      split at h
      case isFalse => cases h
      rename_i hlen
      simp only [Option.map_eq_some_iff] at h
      obtain ⟨xs, hxs, _⟩ := h
      refine ⟨hlen, fun q hq => ?_⟩
      rw [← hm] at hq
      obtain ⟨f, hf, rfl⟩ := List.mem_map.1 hq
      obtain ⟨⟨d', ps'⟩, hy⟩ := mapM_some hxs f hf
      exact ⟨fuel, d', ps', hy⟩
    all_goals (simp at *; done)
theorem AllP.of {w : World} {cs : List Value} {ps : List PV} (hl : cs.length = ps.length) (h : ∀ j, j < ps.length → ∃ v, cs[j]? = some v ∧ ∀ p, ps[j]? = some p → Rep w (Old w) v p) : AllP w cs ps :=
  ⟨hl, fun j p hp => by
    obtain ⟨v, hv, hr⟩ := h j (List.getElem?_eq_some_iff.1 hp).1
    exact ⟨v, hv, hr p hp⟩⟩
end

def IrOk (x : Ir) : Prop := 0 ≤ x.n ∧ x.n < 4294967296
def CdOk (c : Cd) : Prop := ∀ x ∈ c.l, IrOk x

theorem sh_int : Shape Try.prog 3 1 encI (fun n => (Lit.int .i64 n).wf = true) := Shape.int Try.underlying3
theorem sh_u32 : Shape Try.prog 33 1 encU (fun n => (Lit.int .u32 n).wf = true) := Shape.int Try.underlying33
theorem sh_bool : Shape Try.prog 4 1 (fun b => [.lit (.bool b)]) (fun _ => True) := Shape.bool Try.underlying4
theorem sh_string : Shape Try.prog 9 1 (fun b => [.lit (.string b)]) (fun _ => True) := Shape.string Try.underlying9
theorem sh_ints : Shape Try.prog 34 1 (fun xs => [slI xs]) (fun xs => ∀ x ∈ xs, (Lit.int .i64 x).wf = true) := Shape.slice 0 sh_int (by kernel_rfl) (by decide) Try.underlying34
theorem sh_u32s : Shape Try.prog 44 1 (fun xs => [slU xs]) (fun xs => ∀ x ∈ xs, (Lit.int .u32 x).wf = true) := Shape.slice 0 sh_u32 (by kernel_rfl) (by decide) Try.underlying44
theorem sh_ty : Shape Try.prog 42 2 encTy (fun _ => True) where
  len := fun _ => rfl
  read := by
    intro η en w base spare held fuel cs d ps h
    obtain ⟨hl, hf⟩ := struct_read Try.underlying42 rfl h
    obtain ⟨_, _, _, h0⟩ := hf (0, 4) (by decide)
    obtain ⟨_, _, _, h1⟩ := hf (1, 3) (by decide)
    obtain ⟨b, _, a0⟩ := sh_bool.read h0
    obtain ⟨n, _, a1⟩ := sh_int.read h1
    obtain ⟨v0, e0, r0⟩ := a0.at_
    obtain ⟨v1, e1, r1⟩ := a1.at_
    refine ⟨⟨b, n⟩, trivial, hl.trans (by kernel_rfl), fun j p hp => ?_⟩
    match j, hp with
    | 0, hp => cases hp; exact ⟨v0, e0, r0⟩
    | 1, hp => cases hp; exact ⟨v1, e1, r1⟩
theorem sh_ir : Shape Try.prog 36 9 encIr IrOk where
  len := fun _ => rfl
  read := by
    intro η en w base spare held fuel cs d ps h
    obtain ⟨hl, hf⟩ := struct_read Try.underlying36 rfl h
    obtain ⟨_, _, _, h0⟩ := hf (0, 3) (by decide)
    obtain ⟨_, _, _, h1⟩ := hf (1, 3) (by decide)
    obtain ⟨_, _, _, h2⟩ := hf (2, 3) (by decide)
    obtain ⟨_, _, _, h3⟩ := hf (3, 3) (by decide)
    obtain ⟨_, _, _, h4⟩ := hf (4, 3) (by decide)
    obtain ⟨_, _, _, h5⟩ := hf (5, 3) (by decide)
    obtain ⟨_, _, _, h6⟩ := hf (6, 33) (by decide)
    obtain ⟨_, _, _, h7⟩ := hf (7, 9) (by decide)
    obtain ⟨_, _, _, h8⟩ := hf (8, 34) (by decide)
    obtain ⟨n0, _, a0⟩ := sh_int.read h0
    obtain ⟨n1, _, a1⟩ := sh_int.read h1
    obtain ⟨n2, _, a2⟩ := sh_int.read h2
    obtain ⟨n3, _, a3⟩ := sh_int.read h3
    obtain ⟨n4, _, a4⟩ := sh_int.read h4
    obtain ⟨n5, _, a5⟩ := sh_int.read h5
    obtain ⟨n6, w6, a6⟩ := sh_u32.read h6
    obtain ⟨n7, _, a7⟩ := sh_string.read h7
    obtain ⟨n8, _, a8⟩ := sh_ints.read h8
    obtain ⟨v0, e0, r0⟩ := a0.at_
    obtain ⟨v1, e1, r1⟩ := a1.at_
    obtain ⟨v2, e2, r2⟩ := a2.at_
    obtain ⟨v3, e3, r3⟩ := a3.at_
    obtain ⟨v4, e4, r4⟩ := a4.at_
    obtain ⟨v5, e5, r5⟩ := a5.at_
    obtain ⟨v6, e6, r6⟩ := a6.at_
    obtain ⟨v7, e7, r7⟩ := a7.at_
    obtain ⟨v8, e8, r8⟩ := a8.at_
    refine ⟨⟨n0, n1, n2, n3, n4, n5, n6, n7, n8⟩, ?_, hl.trans (by kernel_rfl), fun j p hp => ?_⟩
    · simp [Lit.wf, IntKind.min, IntKind.max, IntKind.signed, IntKind.bits] at w6
      exact ⟨w6.1, by show n6 < 4294967296; omega⟩
    match j, hp with
    | 0, hp => cases hp; exact ⟨v0, e0, r0⟩
    | 1, hp => cases hp; exact ⟨v1, e1, r1⟩
    | 2, hp => cases hp; exact ⟨v2, e2, r2⟩
    | 3, hp => cases hp; exact ⟨v3, e3, r3⟩
    | 4, hp => cases hp; exact ⟨v4, e4, r4⟩
    | 5, hp => cases hp; exact ⟨v5, e5, r5⟩
    | 6, hp => cases hp; exact ⟨v6, e6, r6⟩
    | 7, hp => cases hp; exact ⟨v7, e7, r7⟩
    | 8, hp => cases hp; exact ⟨v8, e8, r8⟩
theorem sh_tys : Shape Try.prog 22 1 (fun xs => [slTy xs]) (fun xs => ∀ x ∈ xs, True) := Shape.slice dTy sh_ty (by kernel_rfl) (by decide) Try.underlying22
theorem sh_irs : Shape Try.prog 23 1 (fun xs => [slIr xs]) (fun xs => ∀ x ∈ xs, IrOk x) := Shape.slice dIr sh_ir (by kernel_rfl) (by decide) Try.underlying23
theorem sh_cd : Shape Try.prog 25 5 encCd CdOk where
  len := fun _ => rfl
  read := by
    intro η en w base spare held fuel cs d ps h
    obtain ⟨hl, hf⟩ := struct_read Try.underlying25 rfl h
    obtain ⟨_, _, _, h0⟩ := hf (0, 9) (by decide)
    obtain ⟨_, _, _, h1⟩ := hf (1, 22) (by decide)
    obtain ⟨_, _, _, h2⟩ := hf (2, 3) (by decide)
    obtain ⟨_, _, _, h3⟩ := hf (3, 3) (by decide)
    obtain ⟨_, _, _, h4⟩ := hf (4, 23) (by decide)
    obtain ⟨n0, _, a0⟩ := sh_string.read h0
    obtain ⟨n1, _, a1⟩ := sh_tys.read h1
    obtain ⟨n2, _, a2⟩ := sh_int.read h2
    obtain ⟨n3, _, a3⟩ := sh_int.read h3
    obtain ⟨n4, w4, a4⟩ := sh_irs.read h4
    obtain ⟨v0, e0, r0⟩ := a0.at_
    obtain ⟨v1, e1, r1⟩ := a1.at_
    obtain ⟨v2, e2, r2⟩ := a2.at_
    obtain ⟨v3, e3, r3⟩ := a3.at_
    obtain ⟨v4, e4, r4⟩ := a4.at_
    refine ⟨⟨n0, n1, n2, n3, n4⟩, w4, hl.trans (by kernel_rfl), fun j p hp => ?_⟩
    match j, hp with
    | 0, hp => cases hp; exact ⟨v0, e0, r0⟩
    | 1, hp => cases hp; exact ⟨v1, e1, r1⟩
    | 2, hp => cases hp; exact ⟨v2, e2, r2⟩
    | 3, hp => cases hp; exact ⟨v3, e3, r3⟩
    | 4, hp => cases hp; exact ⟨v4, e4, r4⟩
theorem sh_cds : Shape Try.prog 28 1 (fun xs => [slCd xs]) (fun xs => ∀ x ∈ xs, CdOk x) := Shape.slice dCd sh_cd (by kernel_rfl) (by decide) Try.underlying28

/-- An argument, as the contracts want it. -/
theorem AllP.agg {w : World} {cs : Array Value} {ps : List PV} (h : AllP w cs.toList ps) : VR noS 0 w (Old w) (.agg (ps.map .pv)) (.agg cs) := by
  have := VR.agg (s := noS) (n := 0) (w := w) (S := Old w) (cs := ps.map .pv) (vs := cs.toList) (by rw [List.length_map]; exact h.1) (fun j c v hc hv => by
    rw [List.getElem?_map] at hc
    obtain ⟨p, hp, rfl⟩ := Option.map_eq_some_iff.1 hc
    obtain ⟨u, hu, hr⟩ := h.2 j p hp
    rw [hv] at hu
    cases hu
    exact .pv hr)
  simpa using this
theorem AllP.pv {w : World} {v : Value} {p : PV} (h : AllP w [v] [p]) : VR noS 0 w (Old w) (.pv p) v := by
  obtain ⟨u, hu, hr⟩ := h.2 0 p rfl
  cases hu
  exact .pv hr
/-- A contract that returns true, as the rows want it: of any arguments. -/
theorem pure_row {P : Program} {f : FuncId} {bs : List AV} (h : PureCall P f bs (lb true)) (W : World) {vs : List Value} (hr : AllR noS 0 W (Old W) bs vs) :
    Calls P f vs.toArray W fun e W' => e = .returned (.bool true) ∧ Below W.heap.size W W' := by
  refine (h.2 W (Old W) vs (fun _ _ h => h) hr).mono ?_
  rintro e W' ⟨v, S', rfl, _, _, _, hv, hb⟩
  exact ⟨by rw [hv.lit_inv], hb⟩
end Go.Vx

namespace Go.Vx
open Go.Proofs

theorem foldL_length (l : List Ir) : (foldL l).length = l.length := foldTo_length _ _ _
theorem foldTo_get (g : BM) (l : List Ir) : ∀ (k i : Nat), i < k → ∃ w, (foldTo g l k).2.getD i dIr = foldIr (l.getD i dIr) w
  | 0, i, h => absurd h (Nat.not_lt_zero _)
  | k + 1, i, h => by
    have hl := foldTo_length g l k
    simp only [foldTo, foldStep]
    rw [List.getD_eq_getElem?_getD]
    rcases Nat.lt_or_ge i k with h1 | h1
    · rw [List.getElem?_append_left (by omega), ← List.getD_eq_getElem?_getD]
      exact foldTo_get g l k i h1
    · obtain rfl : i = k := by omega
      rw [List.getElem?_append_right (by omega), hl, Nat.sub_self]
      exact ⟨_, rfl⟩
/-- What folding leaves of an instruction: itself, or a constant in its place. -/
theorem fold_keeps (l : List Ir) (i : Nat) (h : i < l.length) : (foldL l).getD i dIr = l.getD i dIr ∨
    (((l.getD i dIr).kind = 2 ∨ (l.getD i dIr).kind = 3 ∨ (l.getD i dIr).kind = 4) ∧ ∃ n, (foldL l).getD i dIr = ⟨1, 0, (l.getD i dIr).d, 0, 0, 0, n, ByteArray.empty, []⟩) := by
  obtain ⟨w, hw⟩ := foldTo_get (goalM l) l l.length i h
  unfold foldL
  rw [hw]
  unfold foldIr
  cases hb : (w.2 && ((l.getD i dIr).kind == 2 || ((l.getD i dIr).kind == 3 || (l.getD i dIr).kind == 4)))
  · exact .inl rfl
  · refine .inr ⟨?_, _, rfl⟩
    simp only [Bool.and_eq_true, Bool.or_eq_true, beq_iff_eq] at hb
    exact hb.2
theorem Small.of_light {c : Cd} (h : lightB [c] = true) : Small c := by
  have h1 : cdLight c = true := by
    unfold lightB at h
    simp only [List.all_cons, List.all_nil, Bool.and_true, Bool.and_eq_true] at h
    exact h.2
  rw [cdLight_iff] at h1
  refine ⟨by omega, by omega, by omega, fun x hx => ?_⟩
  obtain ⟨i, hi, rfl⟩ := List.getElem_of_mem hx
  have := h1.2.2.2.2.2 i hi
  rw [List.getD_eq_getElem?_getD, List.getElem?_eq_getElem hi] at this
  simp only [Option.getD_some] at this
  omega
def foldD (c : Cd) : Cd := ⟨c.name, c.params, c.regs, c.cells, foldL c.l⟩
theorem foldC_ok {c : Cd} (h : ((rightR c).1 == 0) = true) : foldC c = (foldD c, 0) := by unfold foldC; rw [h]; rfl
theorem foldC_no {c : Cd} (h : ((rightR c).1 == 0) = false) : foldC c = (dCd, (rightR c).1) := by unfold foldC; rw [h]; rfl
def oneC (x : Ir) : Cd := ⟨ByteArray.empty, [], 0, 0, [x]⟩
theorem oneC_inj {x y : Ir} : oneC x = oneC y ↔ x = y := ⟨fun h => by injection h with _ _ _ _ h; injection h, fun h => by rw [h]⟩

set_option maxHeartbeats 1000000 in
set_option maxRecDepth 100000 in
theorem fold_keep (c : Cd) (hn : ∀ x ∈ c.l, 0 ≤ x.n) : PureCall Try.prog 5 [aCd c] (lb true) := by
  refine pure_ruleS tabOk Try.func5 rfl (by kernel_rfl) (Nat.le_of_ble_eq_true rfl) ?_
  show Tri Try.prog 125 (bodyOf Try.f5) _ _ _
  refine cut_rule tabOk (by kernel_rfl) 4 (X := Unit) (fun _ => lightB [c] = true) (fun _ => ([(1, .ptr 0 0), (3, lb true)], [boxCd c])) ?_ ?_
  · refine Or.inl ⟨_, _, FitAL.self rfl, awake09, ?_⟩
    refine Exists.intro [c] (And.intro rfl (And.intro (And.intro (And.intro rfl (And.intro rfl (And.intro rfl (And.intro rfl (And.intro rfl trivial))))) trivial) ?_))
    refine Or.inl (Exists.intro [.pv (slCd [c])] (Exists.intro _ (And.intro (And.intro rfl trivial) (And.intro (ref_light [c]) ?_))))
    refine And.intro ?_ ?_
    · intro h
      exact fit_bool (H := []) rfl
    · intro h
      exact Exists.intro () (And.intro (by simpa using h) (Exists.intro [some 0] (And.intro rfl (And.intro (And.intro rfl (And.intro rfl trivial)) (And.intro mCd trivial)))))
  rintro ⟨⟩ hlight
  have hs := Small.of_light hlight
  have hf := fold_fold c hs hn
  refine cut_rule tabOk (by kernel_rfl) 2 (X := Unit) (fun _ => True) (fun _ => ([(1, .ptr 0 0), (3, lb true), (5, .ptr 1 0)], [boxCd c, boxCd (foldD c)])) ?_ ?_
  · cases hr : ((rightR c).1 == 0)
    · rw [foldC_no hr] at hf
      refine Or.inl (Exists.intro [aCd c] (Exists.intro _ (And.intro (FitAL.self rfl) (And.intro hf ?_))))
      refine And.intro ?_ ?_
      · intro h
        exact fit_bool (H := []) rfl
      · intro h
        exact absurd h (by simp only [bne, hr]; decide)
    · rw [foldC_ok hr] at hf
      refine Or.inl (Exists.intro [aCd c] (Exists.intro _ (And.intro (FitAL.self rfl) (And.intro hf ?_))))
      refine And.intro ?_ ?_
      · intro h
        exact fit_bool (H := []) rfl
      · intro h
        exact Exists.intro () (And.intro trivial (Exists.intro [some 0, some 1] (And.intro rfl (And.intro (And.intro rfl (And.intro rfl (And.intro rfl trivial))) (And.intro mCd (And.intro mCd trivial))))))
  rintro ⟨⟩ _
  have hl := hs.l
  have hdl : (foldD c).l.length = c.l.length := foldL_length c.l
  refine cut_rule tabOk (by kernel_rfl) 1 (X := Unit) (fun _ => True) (fun _ => ([(1, .ptr 0 0), (3, lb true), (5, .ptr 1 0)], [boxCd c, boxCd (foldD c)])) ?_ ?_
  · repeat' first
      | refine And.intro ?_ ?_
      | (intro h; try simp only [Bool.not_true, Bool.not_false, cond_true, cond_false, reduceCtorEq] at h; try (replace h : True := h; clear h))
      | refine fit_bool (H := []) ?_
    all_goals try exact trivial
    all_goals try refine Exists.intro () (And.intro trivial (Exists.intro [some 0, some 1] (And.intro rfl (And.intro (And.intro rfl (And.intro rfl (And.intro rfl trivial))) (And.intro mCd (And.intro mCd trivial))))))
    all_goals clear hs hn
    all_goals simp only [Bool.not_eq_eq_eq_not, Bool.not_true, Bool.not_false, strEq_iff, strEq_not, bne_iff_ne, bne_eq_false_iff_eq, ne_eq] at *
    all_goals first
      | omega
      | exact absurd rfl ‹_›
  rintro ⟨⟩ _
  refine Tri.of tabOk (by kernel_rfl) ?_
  refine loop_rule (X := Nat) tabOk (by kernel_rfl) (fun k => k ≤ (foldD c).l.length) (fun k => ([(1, .ptr 0 0), (3, lb true), (5, .ptr 1 0), (7, lt' .i64 k)], [boxCd c, boxCd (foldD c)])) (fun k => (foldD c).l.length - k) 0 (Nat.zero_le _)
    (Exists.intro [some 0, some 1] (And.intro rfl (And.intro (And.intro rfl (And.intro rfl (And.intro rfl (And.intro rfl trivial)))) (And.intro mCd (And.intro mCd trivial))))) ?_
  intro k hk
  refine And.intro ?_ ?_
  · intro hlt
    have hlt : k < (foldD c).l.length := by have := of_decide_eq_true hlt; omega
    have hlc : k < c.l.length := by omega
    have hkeep := fold_keeps c.l k hlc
    have hargs : (c.l.getD k dIr).args.length ≤ 1000000 := (hs.ir _ (by rw [List.getD_eq_getElem?_getD, List.getElem?_eq_getElem hlc]; exact List.getElem_mem hlc)).2
    have ex : (foldD c).l.getD ((k : Int).toNat) dIr = (foldL c.l).getD k dIr := rfl
    have ey : c.l.getD ((k : Int).toNat) dIr = c.l.getD k dIr := rfl
    generalize hxe : (foldL c.l).getD k dIr = x at hkeep ex
    generalize hye : c.l.getD k dIr = y at hkeep hargs ey
    have hxa : x.args.length ≤ 1000000 := by
      rcases hkeep with h | ⟨_, n, h⟩
      · rw [h]; exact hargs
      · rw [h]; exact Nat.zero_le _
    clear hs hn hf
    refine And.intro (Int.natCast_nonneg k) (And.intro (by omega) ?_)
    refine And.intro (Int.natCast_nonneg k) (And.intro (by omega) ?_)
    refine Exists.intro [(foldD c).l.getD (k : Int).toNat dIr] (And.intro rfl (And.intro (And.intro (And.intro rfl (And.intro rfl (And.intro rfl (And.intro rfl (And.intro rfl (And.intro rfl (And.intro rfl (And.intro rfl (And.intro rfl trivial))))))))) trivial) ?_))
    refine Exists.intro [c.l.getD (k : Int).toNat dIr] (And.intro rfl (And.intro (And.intro (And.intro rfl (And.intro rfl (And.intro rfl (And.intro rfl (And.intro rfl (And.intro rfl (And.intro rfl (And.intro rfl (And.intro rfl trivial))))))))) trivial) ?_))
    refine Or.inl (Exists.intro [aCd (oneC ((foldD c).l.getD (k : Int).toNat dIr)), aCd (oneC (c.l.getD (k : Int).toNat dIr))] (Exists.intro _ (And.intro (And.intro (And.intro rfl (And.intro rfl (And.intro rfl (And.intro rfl (And.intro rfl trivial))))) (And.intro (And.intro rfl (And.intro rfl (And.intro rfl (And.intro rfl (And.intro rfl trivial))))) trivial)) (And.intro (ref_same _ _ (Nat.zero_le _) (by show 1 ≤ 1000000; decide) (by rw [ex]; intro z hz; simp only [oneC, List.mem_singleton] at hz; rw [hz]; exact hxa)) ?_))))
    refine And.intro ?_ ?_
    · intro h
      exact Exists.intro (k+1) (And.intro (by omega) (And.intro (by omega) (Exists.intro [some 0, some 1] (And.intro rfl (And.intro (And.intro rfl (And.intro rfl (And.intro rfl (And.intro (mt_int (wrap_succ (by omega))) trivial)))) (And.intro mCd (And.intro mCd trivial)))))))
    · intro h
      rw [ex, ey] at h
      have hne : x ≠ y := fun e => by rw [e] at h; exact absurd (same_yes (rfl : oneC y = oneC y)).symm (by rw [h]; decide)
      rcases hkeep with h1 | ⟨hk3, n, h1⟩
      · exact absurd h1 hne
      clear hne h
      repeat' first
        | refine And.intro ?_ ?_
        | (intro h; try simp only [Bool.not_true, Bool.not_false, cond_true, cond_false, reduceCtorEq] at h; try (replace h : True := h; clear h))
        | refine fit_bool (H := []) ?_
      all_goals try exact Exists.intro (k+1) (And.intro (by omega) (And.intro (by omega) (Exists.intro [some 0, some 1] (And.intro rfl (And.intro (And.intro rfl (And.intro rfl (And.intro rfl (And.intro (mt_int (wrap_succ (by omega))) trivial)))) (And.intro mCd (And.intro mCd trivial)))))))
      all_goals simp only [ex, ey] at *
      all_goals subst h1
      all_goals simp only [bne_iff_ne, bne_eq_false_iff_eq, ne_eq] at *
      all_goals first
        | omega
        | exact absurd trivial ‹¬True›
  · intro hlt
    exact fit_bool (H := []) rfl
end Go.Vx

