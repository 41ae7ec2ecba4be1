/- Contracts: what is wrong with a function. No condition: these are lemmas for the laws. -/
import Derived.Test.YtmmdnljokoojdaaXa
import Derived.Test.YtmmdnljokoojdaaVc
set_option linter.unusedVariables false
set_option linter.unusedSimpArgs false
namespace Go.Vx
open Go.Proofs

def badOp (x : Ir) : Bool := decide (x.kind < 1) || decide (x.kind > 10) || (x.kind == 3 && (decide (x.op < 1) || decide (x.op > 10))) || (x.kind == 7 && (decide ((x.args.length : Int) > 6) || !nmd x.name))
def outReg (c : Cd) (r : Int) : Bool := decide (r < 0) || decide (r ≥ c.regs)
def badReg (c : Cd) (x : Ir) : Bool := (reads x).any (outReg c) || (writes x && outReg c x.d)
def badAddr (c : Cd) (x : Ir) : Bool := (x.kind == 5 || x.kind == 6) && decide (IntKind.u64.wrap x.n ≥ IntKind.u64.wrap c.cells)
def badJump (c : Cd) (x : Ir) (i : Nat) : Bool := (x.kind == 8 || x.kind == 9) && (decide (x.c ≤ i) || decide (x.c ≥ c.l.length))
def badEnd (c : Cd) (x : Ir) (i : Nat) : Bool := (i : Int) == IntKind.i64.wrap (c.l.length - 1) && x.kind != 10
def wrongX (c : Cd) (x : Ir) (i : Nat) : Int :=
  bif badOp x then 14 else bif badReg c x then 15 else bif badAddr c x then 16 else bif badJump c x i then 17 else bif badEnd c x i then 18 else 0
def wrongI (c : Cd) (i : Nat) : Int := wrongX c (c.l.getD i dIr) i

@[reducible] def boxIr (x : Ir) : AObj := .box ((encIr x).map .pv)
@[reducible] def rowI (xs : List Int) : AObj := .row false 3 1 Int encI 0 xs
theorem mIr {r : Ren} {x : Ir} : matchC r ((encIr x).map .pv) ((encIr x).map .pv) := ⟨rfl, rfl, rfl, rfl, rfl, rfl, rfl, rfl, rfl, trivial⟩

theorem mIr_eq {r : Ren} {x y : Ir} (h : y = x) : matchC r ((encIr x).map .pv) ((encIr y).map .pv) := by rw [h]; exact mIr
def NoOut (c : Cd) (l : List Int) (k : Nat) : Prop := k ≤ l.length ∧ ∀ j, j < k → outReg c (l.getD j 0) = false
theorem NoOut.zero {c : Cd} {l : List Int} : NoOut c l 0 := ⟨Nat.zero_le _, fun i h => absurd h (Nat.not_lt_zero _)⟩
theorem NoOut.next {c : Cd} {l : List Int} {k : Nat} (h : NoOut c l k) (hk : k < l.length) (h0 : outReg c (l.getD k 0) = false) : NoOut c l (k + 1) := ⟨hk, fun i hi => by
  rcases Nat.lt_or_ge i k with h1 | h1
  · exact h.2 i h1
  · obtain rfl : i = k := by omega
    exact h0⟩
theorem NoOut.all {c : Cd} {l : List Int} {k : Nat} (h : NoOut c l k) (hk : ¬ k < l.length) : l.any (outReg c) = false := by
  rw [← Bool.not_eq_true, List.any_eq_true]
  rintro ⟨x, hx, h1⟩
  obtain ⟨i, hi, rfl⟩ := List.getElem_of_mem hx
  have := h.2 i (by omega)
  rw [List.getD_eq_getElem?_getD, List.getElem?_eq_getElem hi, Option.getD_some, h1] at this
  cases this
theorem any_out {c : Cd} {l : List Int} {k : Nat} (hk : k < l.length) (h : outReg c (l.getD k 0) = true) : l.any (outReg c) = true := by
  rw [List.any_eq_true]
  refine ⟨l[k], List.getElem_mem hk, ?_⟩
  rwa [List.getD_eq_getElem?_getD, List.getElem?_eq_getElem hk] at h
theorem badReg_w {c : Cd} {x : Ir} (hw : writes x = true) : badReg c x = (reads x ++ [x.d]).any (outReg c) := by
  rw [badReg, hw, List.any_append, Bool.true_and]; simp
theorem badReg_n {c : Cd} {x : Ir} (hw : writes x = false) : badReg c x = (reads x).any (outReg c) := by
  rw [badReg, hw, Bool.false_and, Bool.or_false]

theorem reads_le {x : Ir} (h : x.args.length ≤ 1000000) : (reads x).length ≤ 1000000 := by
  unfold reads
  cases (x.kind == 2 || (x.kind == 6 || (x.kind == 9 || x.kind == 10))) <;> cases (x.kind == 3) <;> cases (x.kind == 4) <;> cases (x.kind == 7) <;> simp only [cond_true, cond_false, List.length_cons, List.length_nil] <;> omega

set_option maxHeartbeats 4000000 in
set_option maxRecDepth 100000 in
theorem wrong_draw {c : Cd} {x : Ir} {i : Int} {Q : Exit → Env → Heap → Prop} (hx : x.args.length ≤ 1000000) (hq : Q .normal [(1, lt' .i64 i), (2, .ptr 0 0), (5, .ptr 1 0), (6, .own 2)] [boxCd c, boxIr x, rowI (reads x ++ [x.d])]) :
    DrawSem Try.prog 133 6 (regionOf 6 (bodyOf Try.f44)) [(1, lt' .i64 i), (2, .ptr 0 0), (5, .ptr 1 0), (6, .pv (slI (reads x)))] [boxCd c, boxIr x] Q := by
  have hr := reads_le hx
  have e1 : ([] : List Int).length = 0 := rfl
  have e2 : [x.d].length = 1 := rfl
  refine draw_any tabOk mixed _ _ (by kernel_rfl) ?_ hq
  repeat' first
    | refine And.intro ?_ ?_
    | refine Exists.intro [] (And.intro rfl (And.intro trivial ?_))
    | refine Exists.intro [_] (And.intro rfl (And.intro (And.intro (And.intro rfl trivial) trivial) ?_))
    | refine Exists.intro _ (And.intro rfl (And.intro ?_ ?_))
    | refine Exists.intro [some 0, some 1, some 5] (And.intro rfl (And.intro (And.intro rfl (And.intro rfl (And.intro rfl (And.intro rfl trivial)))) (And.intro mCd (And.intro mIr (And.intro rfl trivial)))))
  all_goals try exact trivial
  all_goals simp only [List.length_append, e1, e2]
  all_goals omega
end Go.Vx

namespace Go.Vx
open Go.Proofs

set_option maxRecDepth 100000 in
theorem irun_wrong (c : Cd) (i : Nat) (hi : i < c.l.length) (hs : ∀ x ∈ c.l, x.name.size ≤ 1000000 ∧ x.args.length ≤ 1000000) : PureCall Try.prog 44 [aCd c, lt' .i64 i] (lt' .i64 (wrongI c i)) := by
  have hx : (c.l.getD i dIr).name.size ≤ 1000000 ∧ (c.l.getD i dIr).args.length ≤ 1000000 := hs _ (by rw [List.getD_eq_getElem?_getD, List.getElem?_eq_getElem hi]; exact List.getElem_mem hi)
  unfold wrongI
  generalize hxe : c.l.getD i dIr = x at hx ⊢
  refine pure_ruleS tabOk Try.func44 rfl (by kernel_rfl) (Nat.le_of_ble_eq_true rfl) ?_
  show Tri Try.prog 133 (bodyOf Try.f44) _ _ _
  have e : c.l.getD ((i : Int).toNat) dIr = x := hxe
  refine cut_rule tabOk (by kernel_rfl) 3 (X := Unit) (fun _ => badOp x = false) (fun _ => ([(1, lt' .i64 i), (2, .ptr 0 0), (5, .ptr 1 0)], [boxCd c, boxIr x])) ?_ ?_
  · repeat' first
      | refine And.intro ?_ ?_
      | (intro h; try simp only [Bool.not_true, Bool.not_false, cond_true, cond_false, reduceCtorEq] at h; try (replace h : True := h; clear h))
      | refine fit_int (H := []) ?_
      | refine Or.inl ⟨_, _, FitAL.self rfl, irun_named _ ?_, ?_⟩
    all_goals try exact trivial
    all_goals try refine Exists.intro () (And.intro ?_ (Exists.intro [some 0, some 1] (And.intro rfl (And.intro (And.intro rfl (And.intro rfl (And.intro rfl trivial))) (And.intro mCd (And.intro (mIr_eq e) trivial))))))
    all_goals clear hs
    all_goals simp only [e] at *
    all_goals first
      | omega
      | exact hx.1
      | (simp only [badOp, *, Bool.true_or, Bool.or_true, Bool.false_or, Bool.or_false, Bool.and_true, Bool.true_and, Bool.and_false, Bool.false_and]; done)
      | (simp only [wrongX, badOp, *, Bool.true_or, Bool.or_true, Bool.false_or, Bool.or_false, Bool.and_true, Bool.true_and, Bool.and_false, Bool.false_and, cond_true]; done)
  rintro ⟨⟩ hb
  show Tri Try.prog 133 (restC 3 (bodyOf Try.f44)) _ _ _
  refine cut_rule tabOk (by kernel_rfl) 2 (X := Bool) (fun b => writes x = b) (fun b => ([(1, lt' .i64 i), (2, .ptr 0 0), (5, .ptr 1 0), (6, bif b then .own 2 else .pv (slI (reads x)))], [boxCd c, boxIr x] ++ bif b then [rowI (reads x ++ [x.d])] else [])) ?_ ?_
  · refine Or.inl ⟨_, _, FitAL.self rfl, irun_reads x, ?_⟩
    refine Or.inl ⟨_, _, FitAL.self rfl, irun_writes x, ?_⟩
    refine And.intro ?_ ?_
    · intro hw
      refine DrawSem.sub (E0 := [(1, lt' .i64 i), (2, .ptr 0 0), (5, .ptr 1 0), (6, .pv (slI (reads x)))]) (H0 := [boxCd c, boxIr x]) (Exists.intro [some 0, some 1] (And.intro rfl (And.intro (And.intro rfl (And.intro rfl (And.intro rfl (And.intro rfl trivial)))) (And.intro mCd (And.intro mIr trivial))))) (wrong_draw hx.2 ?_)
      refine Exists.intro true (And.intro hw (Exists.intro [some 0, some 1, some 2] (And.intro rfl (And.intro (And.intro rfl (And.intro rfl (And.intro rfl (And.intro rfl trivial)))) (And.intro mCd (And.intro mIr (And.intro rfl trivial)))))))
    · intro hw
      refine Exists.intro false (And.intro hw (Exists.intro [some 0, some 1] (And.intro rfl (And.intro (And.intro rfl (And.intro rfl (And.intro rfl (And.intro rfl trivial)))) (And.intro mCd (And.intro mIr trivial))))))
  intro b hw
  show Tri Try.prog 133 (restC 2 (restC 3 (bodyOf Try.f44))) _ _ _
  refine cut_rule tabOk (by kernel_rfl) 1 (X := Unit) (fun _ => badReg c x = false) (fun _ => ([(1, lt' .i64 i), (2, .ptr 0 0), (5, .ptr 1 0)], [boxCd c, boxIr x])) ?_ ?_
  · have hl := reads_le hx.2
    cases b
    · refine loop_rule (X := Nat) tabOk (by kernel_rfl) (NoOut c (reads x)) (fun k => ([(1, lt' .i64 i), (2, .ptr 0 0), (5, .ptr 1 0), (65, .pv (slI (reads x))), (66, lt' .i64 (reads x).length), (67, lt' .i64 k)], [boxCd c, boxIr x])) (fun k => (reads x).length - k) 0 NoOut.zero
        (Exists.intro [some 0, some 1] (And.intro rfl (And.intro (And.intro rfl (And.intro rfl (And.intro rfl (And.intro rfl (And.intro rfl (And.intro rfl trivial)))))) (And.intro mCd (And.intro mIr trivial))))) ?_
      intro k hk
      repeat' first
        | refine And.intro ?_ ?_
        | (intro h; try simp only [Bool.not_true, Bool.not_false, cond_true, cond_false, reduceCtorEq] at h; try (replace h : True := h; clear h))
        | refine fit_int (H := []) ?_
      all_goals try exact trivial
      all_goals try refine Exists.intro (k+1) (And.intro ?_ (And.intro ?_ (Exists.intro [some 0, some 1] (And.intro rfl (And.intro (And.intro rfl (And.intro rfl (And.intro rfl (And.intro rfl (And.intro rfl (And.intro (mt_int (wrap_succ ?_)) trivial)))))) (And.intro mCd (And.intro mIr trivial)))))))
      all_goals try refine Exists.intro () (And.intro ?_ (Exists.intro [some 0, some 1] (And.intro rfl (And.intro (And.intro rfl (And.intro rfl (And.intro rfl trivial))) (And.intro mCd (And.intro mIr trivial))))))
      all_goals clear hs
      all_goals simp only [Int.toNat_natCast, decide_eq_true_eq, decide_eq_false_iff_not] at *
      all_goals first
        | omega
        | (rw [wrongX, hb, badReg_n hw, any_out (k := k) (by omega) (by simp only [outReg, Bool.or_eq_true, decide_eq_true_eq]; omega)] <;> rfl)
        | exact hk.next (by omega) (by simp only [outReg, Bool.or_eq_false_iff, decide_eq_false_iff_not]; omega)
        | exact (badReg_n hw).trans (hk.all (by omega))
    · refine loop_rule (X := Nat) tabOk (by kernel_rfl) (NoOut c (reads x ++ [x.d])) (fun k => ([(1, lt' .i64 i), (2, .ptr 0 0), (5, .ptr 1 0), (65, .own 2), (66, lt' .i64 (reads x ++ [x.d]).length), (67, lt' .i64 k)], [boxCd c, boxIr x, rowI (reads x ++ [x.d])])) (fun k => (reads x ++ [x.d]).length - k) 0 NoOut.zero
        (Exists.intro [some 0, some 1, some 2] (And.intro rfl (And.intro (And.intro rfl (And.intro rfl (And.intro rfl (And.intro rfl (And.intro rfl (And.intro rfl trivial)))))) (And.intro mCd (And.intro mIr (And.intro rfl trivial)))))) ?_
      have hl2 : (reads x ++ [x.d]).length ≤ 1000001 := by rw [List.length_append]; exact Nat.add_le_add hl (Nat.le_refl 1)
      generalize hle : reads x ++ [x.d] = l at hl2 ⊢
      intro k hk
      repeat' first
        | refine And.intro ?_ ?_
        | (intro h; try simp only [Bool.not_true, Bool.not_false, cond_true, cond_false, reduceCtorEq] at h; try (replace h : True := h; clear h))
        | refine fit_int (H := []) ?_
      all_goals try exact trivial
      all_goals try refine Exists.intro (k+1) (And.intro ?_ (And.intro ?_ (Exists.intro [some 0, some 1, some 2] (And.intro rfl (And.intro (And.intro rfl (And.intro rfl (And.intro rfl (And.intro rfl (And.intro rfl (And.intro (mt_int (wrap_succ ?_)) trivial)))))) (And.intro mCd (And.intro mIr (And.intro rfl trivial))))))))
      all_goals try refine Exists.intro () (And.intro ?_ (Exists.intro [some 0, some 1] (And.intro rfl (And.intro (And.intro rfl (And.intro rfl (And.intro rfl trivial))) (And.intro mCd (And.intro mIr trivial))))))
      all_goals clear hs
      all_goals simp only [Int.toNat_natCast, decide_eq_true_eq, decide_eq_false_iff_not] at *
      all_goals first
        | omega
        | (rw [wrongX, hb, badReg_w hw, hle, any_out (k := k) (by omega) (by simp only [outReg, Bool.or_eq_true, decide_eq_true_eq]; omega)] <;> rfl)
        | exact hk.next (by omega) (by simp only [outReg, Bool.or_eq_false_iff, decide_eq_false_iff_not]; omega)
        | (refine (badReg_w hw).trans ?_; rw [hle]; exact hk.all (by omega))
  rintro ⟨⟩ hr
  refine Tri.of tabOk (by kernel_rfl) ?_
  show awp Try.prog tab 133 (restC 1 (restC 2 (restC 3 (bodyOf Try.f44)))) _ _ _
  repeat' first
    | refine And.intro ?_ ?_
    | (intro h; try simp only [Bool.not_true, Bool.not_false, cond_true, cond_false, reduceCtorEq] at h; try (replace h : True := h; clear h))
    | refine fit_int (H := []) ?_
  all_goals try exact trivial
  all_goals clear hs
  all_goals simp only [wrongX, hb, hr, badAddr, badJump, badEnd, *, cond_true, cond_false, Bool.true_or, Bool.or_true, Bool.false_or, Bool.or_false, Bool.and_true, Bool.true_and, Bool.and_false, Bool.false_and]
end Go.Vx

namespace Go.Vx
open Go.Proofs

def firstWrong (c : Cd) : Nat → Nat → Int × Int
  | 0, _ => (0, -1)
  | n + 1, i => bif wrongI c i != 0 then (wrongI c i, i) else firstWrong c n (i + 1)
/-- What is wrong with a function, and with which instruction. -/
def rightR (c : Cd) : Int × Int := bif formOk c then firstWrong c c.l.length 0 else (6, -1)

/-- Sizes that every step may rely on. -/
structure Small (c : Cd) : Prop where
  name : c.name.size ≤ 1000000
  params : c.params.length ≤ 1000000
  l : c.l.length ≤ 1000000
  ir : ∀ x ∈ c.l, x.name.size ≤ 1000000 ∧ x.args.length ≤ 1000000

def RightTo (c : Cd) (k : Nat) : Prop := k ≤ c.l.length ∧ firstWrong c c.l.length 0 = firstWrong c (c.l.length - k) k
theorem RightTo.zero {c : Cd} : RightTo c 0 := ⟨Nat.zero_le _, rfl⟩
theorem RightTo.next {c : Cd} {k : Nat} (h : RightTo c k) (hk : k < c.l.length) (h0 : wrongI c k = 0) : RightTo c (k + 1) := ⟨hk, by
  rw [h.2, show c.l.length - k = (c.l.length - (k + 1)) + 1 from by omega, firstWrong, h0]; rfl⟩
theorem RightTo.bad {c : Cd} {k : Nat} (h : RightTo c k) (hk : k < c.l.length) (h0 : ¬ wrongI c k = 0) (hf : formOk c = true) : rightR c = (wrongI c k, (k : Int)) := by
  rw [rightR, hf, cond_true, h.2, show c.l.length - k = (c.l.length - (k + 1)) + 1 from by omega, firstWrong]
  have : (wrongI c k != 0) = true := by simp [h0]
  rw [this]; rfl
theorem RightTo.good {c : Cd} {k : Nat} (h : RightTo c k) (hk : ¬ k < c.l.length) (hf : formOk c = true) : rightR c = (0, -1) := by
  rw [rightR, hf, cond_true, h.2, show c.l.length - k = 0 from by omega]; rfl
theorem right_form {c : Cd} (hf : formOk c = false) : rightR c = (6, -1) := by rw [rightR, hf]; rfl

theorem irun_right (c : Cd) (hs : Small c) : PureCall Try.prog 28 [aCd c] (.tup [lt' .i64 (rightR c).1, lt' .i64 (rightR c).2]) := by
  refine pure_rule tabOk Try.func28 rfl (by kernel_rfl) (by kernel_rfl) (Nat.le_of_ble_eq_true rfl) ?_
  show awp Try.prog tab 23 (bodyOf Try.f28) _ _ _
  refine Or.inl ⟨_, _, FitAL.self rfl, irun_form c hs.name hs.params hs.l, ?_⟩
  refine And.intro ?_ ?_
  · intro h
    rw [right_form (by simpa using h)]
    exact And.intro rfl (And.intro rfl trivial)
  · intro hf
    have hf : formOk c = true := by simpa using hf
    refine loop_rule (X := Nat) tabOk (by kernel_rfl) (RightTo c) (fun k => ([(1, .ptr 0 0), (11, lt' .i64 c.l.length), (12, lt' .i64 k)], [boxCd c])) (fun k => c.l.length - k) 0 RightTo.zero
      (Exists.intro [some 0] (And.intro rfl (And.intro (And.intro rfl (And.intro rfl (And.intro rfl trivial))) (And.intro mCd trivial)))) ?_
    intro k hk
    refine And.intro ?_ ?_
    · intro hlt
      have hlt : k < c.l.length := by have := of_decide_eq_true hlt; omega
      refine Or.inl ⟨_, _, FitAL.self rfl, irun_wrong c k hlt hs.ir, ?_⟩
      refine And.intro ?_ ?_
      · intro h
        rw [hk.bad hlt (by simpa using h) hf]
        exact And.intro rfl (And.intro rfl trivial)
      · intro h
        exact Exists.intro (k+1) (And.intro (by omega) (And.intro (hk.next hlt (by simpa using h)) (Exists.intro [some 0] (And.intro rfl (And.intro (And.intro rfl (And.intro rfl (And.intro (mt_int (wrap_succ (by have := hs.l; omega))) trivial))) (And.intro mCd trivial))))))
    · intro hlt
      rw [hk.good (by have := of_decide_eq_false hlt; omega) hf]
      exact And.intro rfl (And.intro rfl trivial)
end Go.Vx

namespace Go.Vx
open Go.Proofs

set_option maxRecDepth 100000 in
theorem ref_wrong (c : Cd) (i : Nat) (hi : i < c.l.length) (hs : ∀ x ∈ c.l, x.name.size ≤ 1000000 ∧ x.args.length ≤ 1000000) : PureCall Try.prog 47 [aCd c, lt' .i64 i] (lt' .i64 (wrongI c i)) := by
  have hx : (c.l.getD i dIr).name.size ≤ 1000000 ∧ (c.l.getD i dIr).args.length ≤ 1000000 := hs _ (by rw [List.getD_eq_getElem?_getD, List.getElem?_eq_getElem hi]; exact List.getElem_mem hi)
  unfold wrongI
  generalize hxe : c.l.getD i dIr = x at hx ⊢
  refine pure_ruleS tabOk Try.func47 rfl (by kernel_rfl) (Nat.le_of_ble_eq_true rfl) ?_
  show Tri Try.prog 139 (bodyOf Try.f47) _ _ _
  have e : c.l.getD ((i : Int).toNat) dIr = x := hxe
  refine cut_rule tabOk (by kernel_rfl) 3 (X := Unit) (fun _ => badOp x = false) (fun _ => ([(1, lt' .i64 i), (2, .ptr 0 0), (5, .ptr 1 0)], [boxCd c, boxIr x])) ?_ ?_
  · repeat' first
      | refine And.intro ?_ ?_
      | (intro h; try simp only [Bool.not_true, Bool.not_false, cond_true, cond_false, reduceCtorEq] at h; try (replace h : True := h; clear h))
      | refine fit_int (H := []) ?_
      | refine Or.inl ⟨_, _, FitAL.self rfl, ref_name7 _ ?_, ?_⟩
    all_goals try exact trivial
    all_goals try refine Exists.intro () (And.intro ?_ (Exists.intro [some 0, some 1] (And.intro rfl (And.intro (And.intro rfl (And.intro rfl (And.intro rfl trivial))) (And.intro mCd (And.intro (mIr_eq e) trivial))))))
    all_goals clear hs
    all_goals simp only [e] at *
    all_goals first
      | omega
      | exact hx.1
      | (simp only [badOp, *, Bool.true_or, Bool.or_true, Bool.false_or, Bool.or_false, Bool.and_true, Bool.true_and, Bool.and_false, Bool.false_and]; done)
      | (simp only [wrongX, badOp, *, Bool.true_or, Bool.or_true, Bool.false_or, Bool.or_false, Bool.and_true, Bool.true_and, Bool.and_false, Bool.false_and, cond_true]; done)
  rintro ⟨⟩ hb
  have hl := reads_le hx.2
  show Tri Try.prog 139 (restC 3 (bodyOf Try.f47)) _ _ _
  refine cut_rule tabOk (by kernel_rfl) 2 (X := Unit) (fun _ => (reads x).any (outReg c) = false) (fun _ => ([(1, lt' .i64 i), (2, .ptr 0 0), (5, .ptr 1 0)], [boxCd c, boxIr x])) ?_ ?_
  · refine Or.inl ⟨_, _, FitAL.self rfl, ref_reads x, ?_⟩
    refine loop_rule (X := Nat) tabOk (by kernel_rfl) (NoOut c (reads x)) (fun k => ([(1, lt' .i64 i), (2, .ptr 0 0), (5, .ptr 1 0), (6, .pv (slI (reads x))), (7, lt' .i64 k)], [boxCd c, boxIr x])) (fun k => (reads x).length - k) 0 NoOut.zero
      (Exists.intro [some 0, some 1] (And.intro rfl (And.intro (And.intro rfl (And.intro rfl (And.intro rfl (And.intro rfl (And.intro rfl trivial))))) (And.intro mCd (And.intro mIr trivial))))) ?_
    intro k hk
    repeat' first
      | refine And.intro ?_ ?_
      | (intro h; try simp only [Bool.not_true, Bool.not_false, cond_true, cond_false, reduceCtorEq] at h; try (replace h : True := h; clear h))
      | refine fit_int (H := []) ?_
      | refine draw_still tabOk mixed (by kernel_rfl) ?_
    all_goals try exact trivial
    all_goals try refine Exists.intro (k+1) (And.intro ?_ (And.intro ?_ (Exists.intro [some 0, some 1] (And.intro rfl (And.intro (And.intro rfl (And.intro rfl (And.intro rfl (And.intro rfl (And.intro (mt_int (wrap_succ ?_)) trivial))))) (And.intro mCd (And.intro mIr trivial)))))))
    all_goals try refine Exists.intro () (And.intro ?_ (Exists.intro [some 0, some 1] (And.intro rfl (And.intro (And.intro rfl (And.intro rfl (And.intro rfl trivial))) (And.intro mCd (And.intro mIr trivial))))))
    all_goals clear hs
    all_goals simp only [Int.toNat_natCast, decide_eq_true_eq, decide_eq_false_iff_not] at *
    all_goals first
      | omega
      | (rw [wrongX, hb, badReg, any_out (k := k) (by omega) (by simp only [outReg, Bool.or_eq_true, decide_eq_true_eq]; omega)] <;> rfl)
      | exact hk.next (by omega) (by simp only [outReg, Bool.or_eq_false_iff, decide_eq_false_iff_not]; omega)
      | exact hk.all (by omega)
  rintro ⟨⟩ hr
  show Tri Try.prog 139 (restC 2 (restC 3 (bodyOf Try.f47))) _ _ _
  refine cut_rule tabOk (by kernel_rfl) 1 (X := Unit) (fun _ => badReg c x = false) (fun _ => ([(1, lt' .i64 i), (2, .ptr 0 0), (5, .ptr 1 0)], [boxCd c, boxIr x])) ?_ ?_
  · refine Or.inl ⟨_, _, FitAL.self rfl, ref_writes x, ?_⟩
    repeat' first
      | refine And.intro ?_ ?_
      | (intro h; try simp only [Bool.not_true, Bool.not_false, cond_true, cond_false, reduceCtorEq] at h; try (replace h : True := h; clear h))
      | refine fit_int (H := []) ?_
    all_goals try exact trivial
    all_goals try refine Exists.intro () (And.intro ?_ (Exists.intro [some 0, some 1] (And.intro rfl (And.intro (And.intro rfl (And.intro rfl (And.intro rfl trivial))) (And.intro mCd (And.intro mIr trivial))))))
    all_goals clear hs
    all_goals simp only [wrongX, hb, badReg, hr, outReg, *, cond_true, cond_false, Bool.true_or, Bool.or_true, Bool.false_or, Bool.or_false, Bool.and_true, Bool.true_and, Bool.and_false, Bool.false_and]
  rintro ⟨⟩ hr
  refine Tri.of tabOk (by kernel_rfl) ?_
  show awp Try.prog tab 139 (restC 1 (restC 2 (restC 3 (bodyOf Try.f47)))) _ _ _
  repeat' first
    | refine And.intro ?_ ?_
    | (intro h; try simp only [Bool.not_true, Bool.not_false, cond_true, cond_false, reduceCtorEq] at h; try (replace h : True := h; clear h))
    | refine fit_int (H := []) ?_
  all_goals try exact trivial
  all_goals clear hs
  all_goals simp only [wrongX, hb, hr, badAddr, badJump, badEnd, *, cond_true, cond_false, Bool.true_or, Bool.or_true, Bool.false_or, Bool.or_false, Bool.and_true, Bool.true_and, Bool.and_false, Bool.false_and]
end Go.Vx

namespace Go.Vx
open Go.Proofs

theorem right_form' {c : Cd} (hf : false = formOk c) : rightR c = (6, -1) := right_form hf.symm

set_option maxRecDepth 100000 in
theorem ref_right (c : Cd) (hs : Small c) : PureCall Try.prog 30 [aCd c] (.tup [lt' .i64 (rightR c).1, lt' .i64 (rightR c).2]) := by
  have hp := hs.params
  have hl := hs.l
  refine pure_ruleS tabOk Try.func30 rfl (by kernel_rfl) (Nat.le_of_ble_eq_true rfl) ?_
  show Tri Try.prog 94 (bodyOf Try.f30) _ _ _
  refine cut_rule tabOk (by kernel_rfl) 3 (X := Unit) (fun _ => nmd c.name = true ∧ c.params.length ≤ 6 ∧ TysTo c.params c.params.length) (fun _ => ([(1, .ptr 0 0)], [boxCd c])) ?_ ?_
  · repeat' first
      | refine And.intro ?_ ?_
      | (intro h; try simp only [Bool.not_true, Bool.not_false, cond_true, cond_false, reduceCtorEq] at h; try (replace h : True := h; clear h))
      | refine fit_int (H := []) ?_
      | refine Or.inl ⟨_, _, FitAL.self rfl, ref_name7 _ hs.name, ?_⟩
    all_goals try refine loop_rule (X := Nat) tabOk (by kernel_rfl) (TysTo c.params) (fun k => ([(1, .ptr 0 0), (4, lt' .i64 k)], [boxCd c])) (fun k => c.params.length - k) 0 (And.intro (Nat.zero_le _) fun i h => absurd h (Nat.not_lt_zero _)) (Exists.intro [some 0] (And.intro rfl (And.intro (And.intro rfl (And.intro rfl trivial)) (And.intro mCd trivial)))) ?_
    all_goals try (
      intro k hk
      repeat' first
        | refine And.intro ?_ ?_
        | (intro h; try simp only [Bool.not_true, Bool.not_false, cond_true, cond_false, reduceCtorEq] at h; try (replace h : True := h; clear h))
        | refine fit_int (H := []) ?_)
    all_goals try exact trivial
    all_goals try refine Exists.intro (k+1) (And.intro ?_ (And.intro ?_ (Exists.intro [some 0] (And.intro rfl (And.intro (And.intro rfl (And.intro (mt_int (wrap_succ ?_)) trivial)) (And.intro mCd trivial))))))
    all_goals try refine Exists.intro () (And.intro (And.intro ?_ (And.intro ?_ ?_)) (Exists.intro [some 0] (And.intro rfl (And.intro (And.intro rfl trivial) (And.intro mCd trivial)))))
    all_goals clear hs
    all_goals simp only [cond_true, cond_false, Int.toNat_natCast, Int.toNat_zero, decide_eq_true_eq, decide_eq_false_iff_not, Bool.not_eq_eq_eq_not, Bool.not_true, Bool.not_false, beq_iff_eq, beq_eq_false_iff_ne, ne_eq] at *
    all_goals first
      | omega
      | assumption
      | exact hk.next (by omega) (And.intro (by omega) (by omega))
      | (obtain rfl : k = c.params.length := by have := hk.1; omega
         exact hk)
      | (rw [right_form' (form_no (.inl ‹_›))]; done)
      | (rw [right_form' (form_no (.inr (.inl (by omega))))]; done)
      | (rw [right_form' (form_no (.inr (.inr (.inl (Exists.intro k (And.intro (by omega) (by omega)))))))]; done)
  rintro ⟨⟩ ⟨h1, h2, h3⟩
  show Tri Try.prog 94 (restC 3 (bodyOf Try.f30)) _ _ _
  refine cut_rule tabOk (by kernel_rfl) 2 (X := Unit) (fun _ => formOk c = true) (fun _ => ([(1, .ptr 0 0)], [boxCd c])) ?_ ?_
  · refine Or.inl ⟨_, _, FitAL.self rfl, ref_words _ hp, ?_⟩
    repeat' first
      | refine And.intro ?_ ?_
      | (intro h; try simp only [Bool.not_true, Bool.not_false, cond_true, cond_false, reduceCtorEq] at h; try (replace h : True := h; clear h))
      | refine fit_int (H := []) ?_
    all_goals try exact trivial
    all_goals try refine Exists.intro () (And.intro ?_ (Exists.intro [some 0] (And.intro rfl (And.intro (And.intro rfl trivial) (And.intro mCd trivial)))))
    all_goals clear hs
    all_goals simp only [cond_true, cond_false, Int.toNat_natCast, Int.toNat_zero, decide_eq_true_eq, decide_eq_false_iff_not, Bool.not_eq_eq_eq_not, Bool.not_true, Bool.not_false, beq_iff_eq, beq_eq_false_iff_ne, ne_eq] at *
    all_goals first
      | (rw [right_form' (form_no (.inr (.inr (.inr (by omega)))))]; done)
      | (rw [formOk_iff]; exact And.intro h1 (And.intro h2 (And.intro h3.2 (by omega))))
  rintro ⟨⟩ hf
  refine Tri.of tabOk (by kernel_rfl) ?_
  show awp Try.prog tab 94 (restC 2 (restC 3 (bodyOf Try.f30))) _ _ _
  refine loop_rule (X := Nat) tabOk (by kernel_rfl) (RightTo c) (fun k => ([(1, .ptr 0 0), (7, lt' .i64 k)], [boxCd c])) (fun k => c.l.length - k) 0 RightTo.zero
    (Exists.intro [some 0] (And.intro rfl (And.intro (And.intro rfl (And.intro rfl trivial)) (And.intro mCd trivial)))) ?_
  intro k hk
  refine And.intro ?_ ?_
  · intro hlt
    have hlt : k < c.l.length := by have := of_decide_eq_true hlt; omega
    refine Or.inl ⟨_, _, FitAL.self rfl, ref_wrong c k hlt hs.ir, ?_⟩
    refine And.intro ?_ ?_
    · intro h
      rw [hk.bad hlt (by simpa using h) hf]
      exact And.intro rfl (And.intro rfl trivial)
    · intro h
      exact Exists.intro (k+1) (And.intro (by omega) (And.intro (hk.next hlt (by simpa using h)) (Exists.intro [some 0] (And.intro rfl (And.intro (And.intro rfl (And.intro (mt_int (wrap_succ (by omega))) trivial)) (And.intro mCd trivial))))))
  · intro hlt
    rw [hk.good (by have := of_decide_eq_false hlt; omega) hf]
    exact And.intro rfl (And.intro rfl trivial)
end Go.Vx

