/- Contracts: folding. No condition: these are lemmas for the laws. -/
import Derived.Test.YtmmdnljokoojdaaXb
import Derived.Test.YtmmdnljokoojdaaVc
set_option linter.unusedVariables false
set_option linter.unusedSimpArgs false
namespace Go.Vx
open Go.Proofs

/-! ### fold.Fold -/
abbrev BM := List (Int × Bool)
@[reducible] def encB (b : Bool) : List PV := [.lit (.bool b)]
@[reducible] def bMap (m : BM) : AObj := .map KI Bool encB m
@[reducible] def boxZ : AObj := .box [.pv (.lit (.string ByteArray.empty)), .nil, lt' .i64 0, lt' .i64 0, .nil]
@[reducible] def rowTy (xs : List Ty) : AObj := .row false 42 2 Ty encTy dTy xs
@[reducible] def rowIr (xs : List Ir) : AObj := .row false 36 9 Ir encIr dIr xs
/-- A function as it is being made: its parameters and its instructions lie elsewhere. -/
@[reducible] def boxOut (c : Cd) (p q : Nat) : AObj := .box [.pv (.lit (.string c.name)), .own p, .pv (pint c.regs), .pv (pint c.cells), .own q]
theorem mZ {r : Ren} : matchC r [.pv (.lit (.string ByteArray.empty)), .nil, lt' .i64 0, lt' .i64 0, .nil] [.pv (.lit (.string ByteArray.empty)), .nil, lt' .i64 0, lt' .i64 0, .nil] := ⟨rfl, rfl, rfl, rfl, rfl, trivial⟩

def goalStep (g : BM) (x : Ir) : BM := bif x.kind == 8 || x.kind == 9 then upsert KI g x.c true else g
def goalM (l : List Ir) : BM := l.foldl goalStep []
theorem goalM_next {l : List Ir} {k : Nat} (h : k < l.length) : goalM (l.take (k + 1)) = goalStep (goalM (l.take k)) (l.getD k dIr) := by
  rw [take_getD dIr h, goalM, List.foldl_append]; rfl
def isGoal (g : BM) (i : Int) : Bool := match look KI g i with
  | some b => b
  | none => false
def foldIr (x : Ir) (w : Int × Bool) : Ir := bif w.2 && (x.kind == 2 || (x.kind == 3 || x.kind == 4)) then ⟨1, 0, x.d, 0, 0, 0, w.1, ByteArray.empty, []⟩ else x
def endsK (x : Ir) : Bool := x.kind == 8 || (x.kind == 9 || x.kind == 10)
def foldKn (x : Ir) (w : Int × Bool) (m : IM) : IM := bif w.2 then upsert KI m x.d w.1 else bif endsK x then [] else bif writes x then without KI m x.d else m
def fresh (b : Bool) (m : IM) : IM := bif b then [] else m
def foldStep (g : BM) (i : Nat) (s : IM × List Ir) (x : Ir) : IM × List Ir :=
  (foldKn x (worked x (fresh (isGoal g i) s.1)) (fresh (isGoal g i) s.1), s.2 ++ [foldIr x (worked x (fresh (isGoal g i) s.1))])
def foldTo (g : BM) (l : List Ir) : Nat → IM × List Ir
  | 0 => ([], [])
  | k + 1 => foldStep g k (foldTo g l k) (l.getD k dIr)
def foldL (l : List Ir) : List Ir := (foldTo (goalM l) l l.length).2
def foldC (c : Cd) : Cd × Int := bif (rightR c).1 == 0 then (⟨c.name, c.params, c.regs, c.cells, foldL c.l⟩, 0) else (dCd, (rightR c).1)

theorem mt_row {r : Ren} {ro : Bool} {e : TypeId} {sz : Nat} {α : Type} {enc : α → List PV} {d : α} {xs ys : List α} (h : ys = xs) : matchO r (.row ro e sz α enc d xs) (some (.row ro e sz α enc d ys)) := by rw [h]; rfl
theorem mt_map {r : Ren} {kk : KK} {ν : Type} {ev : ν → List PV} {xs ys : List (kk.T × ν)} (h : ys = xs) : matchO r (.map kk ν ev xs) (some (.map kk ν ev ys)) := by rw [h]; rfl

def KnOk (m : IM) : Prop := ∀ p, p ∈ m → 0 ≤ p.2
theorem KnOk.nil : KnOk [] := fun p h => by cases h
theorem look_mem {m : IM} {k v : Int} (h : look KI m k = some v) : ∃ a : Int, (a, v) ∈ m := by
  induction m with
  | nil => cases h
  | cons p m ih =>
    obtain ⟨a, y⟩ := p
    simp only [look] at h
    split at h
    · cases h; exact ⟨a, List.mem_cons_self⟩
    · obtain ⟨b, hb⟩ := ih h; exact ⟨b, List.mem_cons_of_mem _ hb⟩
theorem KnOk.look {m : IM} (h : KnOk m) (k v : Int) (hv : look KI m k = some v) : 0 ≤ v := by
  obtain ⟨a, ha⟩ := look_mem hv
  exact h _ ha
theorem KnOk.upsert {m : IM} (h : KnOk m) {k v : Int} (hv : 0 ≤ v) : KnOk (upsert KI m k v) := by
  induction m with
  | nil =>
    intro p hp
    obtain rfl : p = (k, v) := by simpa [Vx.upsert] using hp
    exact hv
  | cons p m ih =>
    obtain ⟨a, y⟩ := p
    have h1 : 0 ≤ y := h (a, y) List.mem_cons_self
    have h2 : KnOk m := fun q hq => h q (List.mem_cons_of_mem _ hq)
    simp only [Vx.upsert]
    split
    · intro q hq
      rcases List.mem_cons.1 hq with rfl | hq
      · exact hv
      · exact h2 q hq
    · intro q hq
      rcases List.mem_cons.1 hq with rfl | hq
      · exact h1
      · exact ih h2 q hq
theorem KnOk.without {m : IM} (h : KnOk m) {k : Int} : KnOk (without KI m k) := by
  induction m with
  | nil => exact h
  | cons p m ih =>
    obtain ⟨a, y⟩ := p
    have h1 : 0 ≤ y := h (a, y) List.mem_cons_self
    have h2 : KnOk m := fun q hq => h q (List.mem_cons_of_mem _ hq)
    rw [Vx.without]
    by_cases hk : KI.eq k a = true
    · rw [if_pos hk]; exact h2
    · rw [if_neg hk]; intro q hq
      rcases List.mem_cons.1 hq with rfl | hq
      · exact h1
      · exact ih h2 q hq
theorem KnOk.fresh {m : IM} (h : KnOk m) {b : Bool} : KnOk (fresh b m) := by
  unfold Vx.fresh
  cases b
  · exact h
  · exact KnOk.nil
theorem u32_nonneg (x : Int) : 0 ≤ IntKind.u32.wrap x := by
  simp only [IntKind.wrap, IntKind.signed, IntKind.bits]
  exact Int.emod_nonneg _ (by decide)
theorem one_nonneg (b : Bool) : 0 ≤ one b := by cases b <;> decide
theorem opv_nonneg {op x y : Int} (hx : 0 ≤ x) : 0 ≤ (opv op x y).1 := by
  unfold opv
  repeat' first
    | (cases (op == _) <;> simp only [cond_true, cond_false])
  all_goals first
    | exact u32_nonneg _
    | exact one_nonneg _
    | exact Int.le_refl 0
    | exact Int.fdiv_nonneg hx (Int.le_of_lt (Int.pow_pos (by decide)))
theorem lk_nonneg {m : IM} (h : KnOk m) (k : Int) : 0 ≤ (lk m k).1 := by
  unfold lk
  split
  · rename_i y hy; exact h.look k y hy
  · exact Int.le_refl 0
theorem worked_nonneg {x : Ir} {m : IM} (hx : 0 ≤ x.n) (h : KnOk m) : 0 ≤ (worked x m).1 := by
  unfold worked
  cases (x.kind == 1)
  case true => exact hx
  cases (x.kind == 2)
  case true => exact lk_nonneg h _
  cases (x.kind == 3)
  case true =>
    simp only [cond_true, cond_false]
    cases ((lk m x.a).2 && (lk m x.b).2)
    · exact Int.le_refl 0
    · exact opv_nonneg (lk_nonneg h _)
  cases (x.kind == 4)
  case true =>
    simp only [cond_true, cond_false]
    cases ((lk m x.a).2 && (lk m x.a).1 == 0)
    · exact lk_nonneg h _
    · exact lk_nonneg h _
  exact Int.le_refl 0
theorem KnOk.kn {m : IM} (h : KnOk m) {x : Ir} (hx : 0 ≤ x.n) : KnOk (foldKn x (worked x m) m) := by
  unfold foldKn
  cases (worked x m).2
  · cases endsK x
    · cases writes x
      · exact h
      · exact h.without
    · exact KnOk.nil
  · exact h.upsert (worked_nonneg hx h)
theorem KnOk.to {g : BM} {l : List Ir} (hl : ∀ x ∈ l, 0 ≤ x.n) : ∀ k, k ≤ l.length → KnOk (foldTo g l k).1
  | 0, _ => KnOk.nil
  | k + 1, hk => by
    have h := KnOk.to (g := g) hl k (by omega)
    simp only [foldTo, foldStep]
    refine h.fresh.kn (hl _ ?_)
    rw [List.getD_eq_getElem?_getD, List.getElem?_eq_getElem (by omega)]
    exact List.getElem_mem _

@[reducible] def boxIrO (x : Ir) (q : Nat) : AObj := .box [.pv (pint x.kind), .pv (pint x.op), .pv (pint x.d), .pv (pint x.a), .pv (pint x.b), .pv (pint x.c), .pv (pu32 x.n), .pv (.lit (.string x.name)), .own q]
@[reducible] def rowIF (ro : Bool) (xs : List Int) : AObj := .row ro 3 1 Int encI 0 xs
def yOf (b : Bool) (x : Ir) (w : Int × Bool) : Ir := match b with
  | true => ⟨1, 0, x.d, 0, 0, 0, w.1, ByteArray.empty, []⟩
  | false => x
theorem yOf_d (b : Bool) (x : Ir) (w : Int × Bool) : (yOf b x w).d = x.d := by cases b <;> rfl
theorem yOf_no {b : Bool} {x : Ir} {w : Int × Bool} (h : foldIr x w = yOf b x w) (hw : w.2 = false) : yOf b x w = x := by
  rw [← h, foldIr, hw]; rfl
theorem mAgg {r : Ren} {x : Ir} : matchV r (aIr x) (some (aIr x)) := ⟨fun c hc => by
  obtain ⟨p, _, rfl⟩ := List.mem_map.1 hc
  exact ⟨p, rfl⟩, rfl⟩
theorem soft_worked {x : Ir} {m : IM} (hm : KnOk m) (M : Nat) {H : Heap} {xs : List AV} {K : AV → Heap → Prop} (ha : ArgsM H xs [aIr x, .map M]) (hH : (frzAL H xs)[M]? = some (oMap m))
    (hk : K (.tup [.pv (pu32 (worked x m).1), .pv (.lit (.bool (worked x m).2))]) (merge [some M] (frzAL H xs) [oMap m])) : SoftStep Try.prog 40 xs H K :=
  ⟨[aIr x, .map M], ha, [some M], [aIr x, .map 0], [oMap m], _, _, rfl, ⟨mAgg, rfl, trivial⟩, ⟨hH, trivial⟩, fold_worked x m hm.look, hk⟩

theorem foldTo_length (g : BM) (l : List Ir) : ∀ k, (foldTo g l k).2.length = k
  | 0 => rfl
  | k + 1 => by simp only [foldTo, foldStep, List.length_append, foldTo_length g l k, List.length_cons, List.length_nil]

set_option maxHeartbeats 1000000 in
set_option maxRecDepth 100000 in
theorem fold_fold (c : Cd) (hs : Small c) (hw : ∀ x ∈ c.l, 0 ≤ x.n) : PureCall Try.prog 24 [aCd c] (.tup [aCd (foldC c).1, lt' .i64 (foldC c).2]) := by
  have hl := hs.l
  refine pure_ruleS tabOk Try.func24 rfl (by kernel_rfl) (Nat.le_of_ble_eq_true rfl) ?_
  show Tri Try.prog 127 (bodyOf Try.f24) _ _ _
  refine cut_rule tabOk (by kernel_rfl) 1 (X := Unit) (fun _ => True) (fun _ => ([(1, .ptr 0 0), (2, .ptr 1 0)], [boxCd c, boxZ])) ?_ ?_
  · exact Exists.intro () (And.intro trivial (Exists.intro [some 0, some 1] (And.intro rfl (And.intro (And.intro rfl (And.intro rfl trivial)) (And.intro mCd (And.intro mZ trivial))))))
  rintro ⟨⟩ _
  refine Tri.scope ?_
  refine cut_rule tabOk (by kernel_rfl) 1 (X := Unit) (fun _ => (rightR c).1 = 0) (fun _ => ([(1, .ptr 0 0), (2, .ptr 1 0)], [boxCd c, boxZ])) ?_ ?_
  · refine Or.inl ⟨_, _, FitAL.self rfl, irun_right c hs, ?_⟩
    refine And.intro ?_ ?_
    · intro h
      have h : ((rightR c).1 == 0) = false := by simpa using h
      unfold foldC
      rw [h]
      repeat' refine And.intro ?_ ?_
      all_goals first | rfl | exact trivial
    · intro h
      exact Exists.intro () (And.intro (by simpa using h) (Exists.intro [some 0, some 1] (And.intro rfl (And.intro (And.intro rfl (And.intro rfl trivial)) (And.intro mCd (And.intro mZ trivial))))))
  rintro ⟨⟩ hr
  refine cut_rule tabOk (by kernel_rfl) 2 (X := Unit) (fun _ => True) (fun _ => ([(1, .ptr 0 0), (2, .ptr 1 0), (6, .map 2)], [boxCd c, boxZ, bMap (goalM c.l)])) ?_ ?_
  · refine loop_rule (X := Nat) tabOk (by kernel_rfl) (fun k => k ≤ c.l.length) (fun k => ([(1, .ptr 0 0), (2, .ptr 1 0), (6, .map 2), (26, .pv (slIr c.l)), (27, lt' .i64 c.l.length), (28, lt' .i64 k)], [boxCd c, boxZ, bMap (goalM (c.l.take k))])) (fun k => c.l.length - k) 0 (Nat.zero_le _)
      (Exists.intro [some 0, some 1, some 2] (And.intro rfl (And.intro (And.intro rfl (And.intro rfl (And.intro rfl (And.intro rfl (And.intro rfl (And.intro rfl trivial)))))) (And.intro mCd (And.intro mZ (And.intro rfl trivial)))))) ?_
    intro k hk
    repeat' first
      | refine And.intro ?_ ?_
      | (intro h; try simp only [Bool.not_true, Bool.not_false, cond_true, cond_false, reduceCtorEq] at h; try (replace h : True := h; clear h))
      | refine @Exists.intro Bool _ true (And.intro rfl ?_)
    all_goals try exact trivial
    all_goals try refine Exists.intro (k+1) (And.intro ?_ (And.intro ?_ (Exists.intro [some 0, some 1, some 2] (And.intro rfl (And.intro (And.intro rfl (And.intro rfl (And.intro rfl (And.intro rfl (And.intro rfl (And.intro (mt_int (wrap_succ ?_)) trivial)))))) (And.intro mCd (And.intro mZ (And.intro (mt_map ?_) trivial))))))))
    all_goals try refine Exists.intro () (And.intro trivial (Exists.intro [some 0, some 1, some 2] (And.intro rfl (And.intro (And.intro rfl (And.intro rfl (And.intro rfl trivial))) (And.intro mCd (And.intro mZ (And.intro (mt_map ?_) trivial)))))))
    all_goals clear hs hw
    all_goals simp only [Int.toNat_natCast, decide_eq_true_eq, decide_eq_false_iff_not] at *
    all_goals first
      | omega
      | (rw [goalM_next (l := c.l) (k := k) (by omega), goalStep] <;> simp only [*, cond_true, cond_false, Bool.true_or, Bool.or_true, Bool.false_or, Bool.or_false]; done)
      | rw [List.take_of_length_le (by omega)]
  rintro ⟨⟩ _
  show Tri Try.prog 127 (restC 2 (restC 1 (scopeC (restC 1 (bodyOf Try.f24))))) _ _ _
  refine Tri.of tabOk (by kernel_rfl) ?_
  refine Exists.intro [] (And.intro rfl (And.intro trivial ?_))
  refine Exists.intro _ (And.intro rfl (And.intro ?_ ?_))
  · have := hs.params
    show (0 + c.params.length) * 16 ≤ 140737488355328
    omega
  refine loop_ruleS (X := Nat) (fun k => k ≤ c.l.length ∧ KnOk (foldTo (goalM c.l) c.l k).1) (fun k => ([(1, .ptr 0 0), (2, .ptr 1 0), (6, .map 2), (9, .ptr 3 0), (10, .map 6), (53, .pv (slIr c.l)), (54, lt' .i64 c.l.length), (55, lt' .i64 k)], [boxCd c, boxZ, bMap (goalM c.l), boxOut c 4 5, rowTy c.params, rowIr (foldTo (goalM c.l) c.l k).2, oMap (foldTo (goalM c.l) c.l k).1])) (fun k => c.l.length - k) 0 (And.intro (Nat.zero_le _) KnOk.nil)
    (Exists.intro [some 0, some 1, some 2, some 3, some 5, none, some 6] (And.intro rfl (And.intro (And.intro rfl (And.intro rfl (And.intro rfl (And.intro rfl (And.intro rfl (And.intro rfl (And.intro rfl (And.intro rfl trivial)))))))) (And.intro mCd (And.intro mZ (And.intro rfl (And.intro (And.intro rfl (And.intro rfl (And.intro rfl (And.intro rfl (And.intro rfl trivial))))) (And.intro rfl (And.intro (And.intro rfl (And.intro (by decide) rfl)) (And.intro rfl trivial)))))))))) ?_
  rintro k ⟨hk, hm⟩
  refine cut_rule tabOk (by kernel_rfl) 2 (X := Unit) (fun _ => k < c.l.length) (fun _ => ([(1, .ptr 0 0), (2, .ptr 1 0), (6, .map 2), (9, .ptr 3 0), (10, .map 6), (53, .pv (slIr c.l)), (54, lt' .i64 c.l.length), (55, lt' .i64 k)], [boxCd c, boxZ, bMap (goalM c.l), boxOut c 4 5, rowTy c.params, rowIr (foldTo (goalM c.l) c.l k).2, oMap (foldTo (goalM c.l) c.l k).1])) ?_ ?_
  · refine And.intro ?_ ?_
    · intro hlt
      exact Exists.intro () (And.intro (by have := of_decide_eq_true hlt; omega) (Exists.intro [some 0, some 1, some 2, some 3, some 4, some 5, some 6] (And.intro rfl (And.intro (And.intro rfl (And.intro rfl (And.intro rfl (And.intro rfl (And.intro rfl (And.intro rfl (And.intro rfl (And.intro rfl trivial)))))))) (And.intro mCd (And.intro mZ (And.intro rfl (And.intro (And.intro rfl (And.intro rfl (And.intro rfl (And.intro rfl (And.intro rfl trivial))))) (And.intro rfl (And.intro rfl (And.intro rfl trivial)))))))))))
    · intro hlt
      have hlt : ¬ k < c.l.length := by have := of_decide_eq_false hlt; omega
      obtain rfl : k = c.l.length := by omega
      have hr' : ((rightR c).1 == 0) = true := by rw [hr]; rfl
      unfold foldC
      rw [hr']
      repeat' refine And.intro ?_ ?_
      all_goals first | rfl | exact trivial
  rintro ⟨⟩ hlt
  have hmem : c.l.getD k dIr ∈ c.l := by rw [List.getD_eq_getElem?_getD, List.getElem?_eq_getElem hlt]; exact List.getElem_mem hlt
  have hargs := (hs.ir _ hmem).2
  have hm1 : KnOk (foldTo (goalM c.l) c.l (k + 1)).1 := KnOk.to hw (k + 1) hlt
  have hlen := foldTo_length (goalM c.l) c.l k
  have hst : foldTo (goalM c.l) c.l (k + 1) = foldStep (goalM c.l) k (foldTo (goalM c.l) c.l k) (c.l.getD k dIr) := rfl
  rw [hst] at hm1
  refine Tri.seq tabOk (by kernel_rfl) ?_
  refine Tri.block ?_
  clear hs
  generalize hx : c.l.getD k dIr = x at hm1 hargs hst
  have e : c.l.getD ((k : Int).toNat) dIr = x := hx
  refine cut_rule tabOk (by kernel_rfl) 2 (X := Unit) (fun _ => True) (fun _ => ([(1, .ptr 0 0), (2, .ptr 1 0), (6, .map 2), (9, .ptr 3 0), (10, .map 6), (53, .pv (slIr c.l)), (54, lt' .i64 c.l.length), (55, lt' .i64 k), (12, .ptr 7 0)], [boxCd c, boxZ, bMap (goalM c.l), boxOut c 4 5, rowTy c.params, rowIr (foldTo (goalM c.l) c.l k).2, oMap (fresh (isGoal (goalM c.l) k) (foldTo (goalM c.l) c.l k).1), boxIr x])) ?_ ?_
  · repeat' first
      | refine And.intro ?_ ?_
      | (intro h; try simp only [Bool.not_true, Bool.not_false, cond_true, cond_false, reduceCtorEq] at h; try (replace h : True := h; clear h))
    all_goals try refine Exists.intro () (And.intro trivial (Exists.intro [some 0, some 1, some 2, some 3, some 4, some 5, some 6, some 7] (And.intro rfl (And.intro (And.intro rfl (And.intro rfl (And.intro rfl (And.intro rfl (And.intro rfl (And.intro rfl (And.intro rfl (And.intro rfl (And.intro rfl trivial))))))))) (And.intro mCd (And.intro mZ (And.intro rfl (And.intro (And.intro rfl (And.intro rfl (And.intro rfl (And.intro rfl (And.intro rfl trivial))))) (And.intro rfl (And.intro rfl (And.intro (mt_map ?_) (And.intro (mIr_eq e) trivial))))))))))))
    all_goals try refine Exists.intro () (And.intro trivial (Exists.intro [some 0, some 1, some 2, some 3, some 4, some 5, some 8, some 7] (And.intro rfl (And.intro (And.intro rfl (And.intro rfl (And.intro rfl (And.intro rfl (And.intro rfl (And.intro rfl (And.intro rfl (And.intro rfl (And.intro rfl trivial))))))))) (And.intro mCd (And.intro mZ (And.intro rfl (And.intro (And.intro rfl (And.intro rfl (And.intro rfl (And.intro rfl (And.intro rfl trivial))))) (And.intro rfl (And.intro rfl (And.intro (mt_map ?_) (And.intro (mIr_eq e) trivial))))))))))))
    all_goals first
      | omega
      | (simp only [isGoal, fresh, *, cond_true, cond_false]; done)
      | (simp_all [isGoal, fresh]; done)
  rintro ⟨⟩ _
  have hm0 : KnOk (fresh (isGoal (goalM c.l) k) (foldTo (goalM c.l) c.l k).1) := hm.fresh
  have hm2 := hm1
  simp only [foldStep] at hm2
  generalize hme : fresh (isGoal (goalM c.l) k) (foldTo (goalM c.l) c.l k).1 = m at hm0 hm2
  refine cut_rule tabOk (by kernel_rfl) 2 (X := Unit) (fun _ => True) (fun _ => ([(1, .ptr 0 0), (2, .ptr 1 0), (6, .map 2), (9, .ptr 3 0), (10, .map 6), (53, .pv (slIr c.l)), (54, lt' .i64 c.l.length), (55, lt' .i64 k), (12, .ptr 7 0), (13, .pv (pu32 (worked x m).1)), (14, .pv (.lit (.bool (worked x m).2)))], [boxCd c, boxZ, bMap (goalM c.l), boxOut c 4 5, rowTy c.params, rowIr (foldTo (goalM c.l) c.l k).2, oMap m, boxIrO x 8, rowIF true x.args])) ?_ ?_
  · refine Exists.intro [] (And.intro rfl (And.intro trivial ?_))
    refine Exists.intro _ (And.intro rfl (And.intro ?_ ?_))
    · show (0 + x.args.length) * 8 ≤ 140737488355328
      omega
    refine Or.inr (Or.inr (soft_worked (x := x) hm0 6 (And.intro (Or.inl (And.intro rfl (And.intro rfl (And.intro rfl (And.intro rfl (And.intro rfl (And.intro rfl (And.intro rfl (And.intro rfl (And.intro rfl trivial)))))))))) (And.intro (Or.inr rfl) trivial)) rfl ?_))
    exact Exists.intro () (And.intro trivial (Exists.intro [some 0, some 1, some 2, some 3, some 4, some 5, some 6, some 7, some 9] (And.intro rfl (And.intro (And.intro rfl (And.intro rfl (And.intro rfl (And.intro rfl (And.intro rfl (And.intro rfl (And.intro rfl (And.intro rfl (And.intro rfl (And.intro rfl (And.intro rfl trivial))))))))))) (And.intro mCd (And.intro mZ (And.intro rfl (And.intro (And.intro rfl (And.intro rfl (And.intro rfl (And.intro rfl (And.intro rfl trivial))))) (And.intro rfl (And.intro rfl (And.intro rfl (And.intro (And.intro rfl (And.intro rfl (And.intro rfl (And.intro rfl (And.intro rfl (And.intro rfl (And.intro rfl (And.intro rfl (And.intro rfl trivial))))))))) (And.intro rfl trivial)))))))))))))
  rintro ⟨⟩ _
  generalize hwe : worked x m = w at hm2
  refine cut_rule tabOk (by kernel_rfl) 1 (X := Bool) (fun b => foldIr x w = yOf b x w) (fun b => ([(1, .ptr 0 0), (2, .ptr 1 0), (6, .map 2), (9, .ptr 3 0), (10, .map 6), (53, .pv (slIr c.l)), (54, lt' .i64 c.l.length), (55, lt' .i64 k), (12, .ptr 7 0), (13, .pv (pu32 w.1)), (14, .pv (.lit (.bool w.2)))], [boxCd c, boxZ, bMap (goalM c.l), boxOut c 4 5, rowTy c.params, rowIr (foldTo (goalM c.l) c.l k).2, oMap m, boxIrO (yOf b x w) 8, rowIF (!b) (yOf b x w).args])) ?_ ?_
  · repeat' first
      | refine And.intro ?_ ?_
      | (intro h; try simp only [Bool.not_true, Bool.not_false, cond_true, cond_false, reduceCtorEq] at h; try (replace h : True := h; clear h))
    all_goals try refine Exists.intro false (And.intro ?_ (Exists.intro [some 0, some 1, some 2, some 3, some 4, some 5, some 6, some 7, some 8] (And.intro rfl (And.intro (And.intro rfl (And.intro rfl (And.intro rfl (And.intro rfl (And.intro rfl (And.intro rfl (And.intro rfl (And.intro rfl (And.intro rfl (And.intro rfl (And.intro rfl trivial))))))))))) (And.intro mCd (And.intro mZ (And.intro rfl (And.intro (And.intro rfl (And.intro rfl (And.intro rfl (And.intro rfl (And.intro rfl trivial))))) (And.intro rfl (And.intro rfl (And.intro rfl (And.intro (And.intro rfl (And.intro rfl (And.intro rfl (And.intro rfl (And.intro rfl (And.intro rfl (And.intro rfl (And.intro rfl (And.intro rfl trivial))))))))) (And.intro rfl trivial)))))))))))))
    all_goals try refine Exists.intro true (And.intro ?_ (Exists.intro [some 0, some 1, some 2, some 3, some 4, some 5, some 6, some 7, none] (And.intro rfl (And.intro (And.intro rfl (And.intro rfl (And.intro rfl (And.intro rfl (And.intro rfl (And.intro rfl (And.intro rfl (And.intro rfl (And.intro rfl (And.intro rfl (And.intro rfl trivial))))))))))) (And.intro mCd (And.intro mZ (And.intro rfl (And.intro (And.intro rfl (And.intro rfl (And.intro rfl (And.intro rfl (And.intro rfl trivial))))) (And.intro rfl (And.intro rfl (And.intro rfl (And.intro (And.intro rfl (And.intro rfl (And.intro rfl (And.intro rfl (And.intro rfl (And.intro rfl (And.intro rfl (And.intro rfl (And.intro rfl trivial))))))))) (And.intro (And.intro rfl (And.intro (by decide) rfl)) trivial)))))))))))))
    all_goals simp only [foldIr, yOf, *, cond_true, cond_false, Bool.true_or, Bool.or_true, Bool.false_or, Bool.or_false, Bool.and_true, Bool.true_and, Bool.and_false, Bool.false_and]
  rintro b hy
  refine cut_rule tabOk (by kernel_rfl) 1 (X := Unit) (fun _ => True) (fun _ => ([(1, .ptr 0 0), (2, .ptr 1 0), (6, .map 2), (9, .ptr 3 0), (10, .map 6), (53, .pv (slIr c.l)), (54, lt' .i64 c.l.length), (55, lt' .i64 k), (12, .ptr 7 0), (13, .pv (pu32 w.1)), (14, .pv (.lit (.bool w.2)))], [boxCd c, boxZ, bMap (goalM c.l), boxOut c 4 5, rowTy c.params, rowIr ((foldTo (goalM c.l) c.l k).2 ++ [yOf b x w]), oMap m, boxIrO (yOf b x w) 8, rowIF true (yOf b x w).args])) ?_ ?_
  · refine Exists.intro [yOf b x w] (And.intro rfl (And.intro (And.intro (And.intro rfl (And.intro rfl (And.intro rfl (And.intro rfl (And.intro rfl (And.intro rfl (And.intro rfl (And.intro rfl (And.intro rfl trivial))))))))) trivial) ?_))
    refine Exists.intro _ (And.intro rfl (And.intro ?_ ?_))
    · show ((foldTo (goalM c.l) c.l k).2.length + 1) * 96 ≤ 140737488355328
      omega
    exact Exists.intro () (And.intro trivial (Exists.intro [some 0, some 1, some 2, some 3, some 4, some 10, some 6, some 7, some 8] (And.intro rfl (And.intro (And.intro rfl (And.intro rfl (And.intro rfl (And.intro rfl (And.intro rfl (And.intro rfl (And.intro rfl (And.intro rfl (And.intro rfl (And.intro rfl (And.intro rfl trivial))))))))))) (And.intro mCd (And.intro mZ (And.intro rfl (And.intro (And.intro rfl (And.intro rfl (And.intro rfl (And.intro rfl (And.intro rfl trivial))))) (And.intro rfl (And.intro rfl (And.intro rfl (And.intro (And.intro rfl (And.intro rfl (And.intro rfl (And.intro rfl (And.intro rfl (And.intro rfl (And.intro rfl (And.intro rfl (And.intro rfl trivial))))))))) (And.intro rfl trivial)))))))))))))
  rintro ⟨⟩ _
  refine Tri.of tabOk (by kernel_rfl) ?_
  repeat' first
    | refine And.intro ?_ ?_
    | (intro h; try simp only [Bool.not_true, Bool.not_false, cond_true, cond_false, reduceCtorEq] at h; try (replace h : True := h; clear h))
    | refine @Exists.intro Int _ w.1 (And.intro rfl ?_)
    | refine Or.inl (Exists.intro [aIr (yOf b x w)] (Exists.intro _ (And.intro (And.intro (And.intro rfl (And.intro rfl (And.intro rfl (And.intro rfl (And.intro rfl (And.intro rfl (And.intro rfl (And.intro rfl (And.intro rfl trivial))))))))) trivial) (And.intro (fold_writes (yOf b x w)) ?_))))
  all_goals try refine Exists.intro (k+1) (And.intro ?_ (And.intro (And.intro ?_ ?_) (Exists.intro [some 0, some 1, some 2, some 3, some 4, some 5, some 6] (And.intro rfl (And.intro (And.intro rfl (And.intro rfl (And.intro rfl (And.intro rfl (And.intro rfl (And.intro rfl (And.intro rfl (And.intro (mt_int (wrap_succ ?_)) trivial)))))))) (And.intro mCd (And.intro mZ (And.intro rfl (And.intro (And.intro rfl (And.intro rfl (And.intro rfl (And.intro rfl (And.intro rfl trivial))))) (And.intro rfl (And.intro (mt_row ?_) (And.intro (mt_map ?_) trivial))))))))))))
  all_goals try refine Exists.intro (k+1) (And.intro ?_ (And.intro (And.intro ?_ ?_) (Exists.intro [some 0, some 1, some 2, some 3, some 4, some 5, some 9] (And.intro rfl (And.intro (And.intro rfl (And.intro rfl (And.intro rfl (And.intro rfl (And.intro rfl (And.intro rfl (And.intro rfl (And.intro (mt_int (wrap_succ ?_)) trivial)))))))) (And.intro mCd (And.intro mZ (And.intro rfl (And.intro (And.intro rfl (And.intro rfl (And.intro rfl (And.intro rfl (And.intro rfl trivial))))) (And.intro rfl (And.intro (mt_row ?_) (And.intro (mt_map ?_) trivial))))))))))))
  all_goals clear hw
  all_goals first
    | omega
    | (rw [hst]; exact hm1)
    | (rw [hst]; simp only [foldStep, hme, hwe, hy]; done)
    | (rw [hst]; simp only [foldStep, hme, hwe, foldKn, *, cond_true, yOf_d]; done)
    | (rw [hst, yOf_no hy ‹w.2 = false›] at *; simp only [foldStep, hme, hwe, foldKn, endsK, *, cond_true, cond_false, Bool.true_or, Bool.or_true, Bool.false_or, Bool.or_false]; done)
    | (have hyx := yOf_no hy ‹w.2 = false›
       rw [hst]
       simp only [hyx] at *
       simp only [foldStep, hme, hwe, foldKn, endsK, *, cond_true, cond_false, Bool.true_or, Bool.or_true, Bool.false_or, Bool.or_false]
       done)
end Go.Vx

namespace Go.Vx
open Go.Proofs

def knStep (n : Int) (x : Ir) : Int := bif x.kind == 1 then IntKind.i64.wrap (n + 1) else n
def knownN (l : List Ir) : Int := l.foldl knStep 0
theorem knownN_next {l : List Ir} {k : Nat} (h : k < l.length) : knownN (l.take (k + 1)) = knStep (knownN (l.take k)) (l.getD k dIr) := by
  rw [take_getD dIr h, knownN, List.foldl_append]; rfl

theorem fold_known (c : Cd) (hl : c.l.length ≤ 1000000) : PureCall Try.prog 27 [aCd c] (lt' .i64 (knownN c.l)) := by
  refine pure_rule tabOk Try.func27 rfl (by kernel_rfl) (by kernel_rfl) (Nat.le_of_ble_eq_true rfl) ?_
  show awp Try.prog tab 20 (bodyOf Try.f27) _ _ _
  refine loop_rule (X := Nat) tabOk (by kernel_rfl) (fun k => k ≤ c.l.length) (fun k => ([(1, .ptr 0 0), (3, lt' .i64 (knownN (c.l.take k))), (7, .pv (slIr c.l)), (8, lt' .i64 c.l.length), (9, lt' .i64 k)], [boxCd c])) (fun k => c.l.length - k) 0 (Nat.zero_le _)
    (Exists.intro [some 0] (And.intro rfl (And.intro (And.intro rfl (And.intro rfl (And.intro rfl (And.intro rfl (And.intro rfl trivial))))) (And.intro mCd trivial)))) ?_
  intro k hk
  repeat' first
    | refine And.intro ?_ ?_
    | (intro h; try simp only [Bool.not_true, Bool.not_false, cond_true, cond_false, reduceCtorEq] at h; try (replace h : True := h; clear h))
    | refine fit_int (H := []) ?_
  all_goals try refine Exists.intro (k+1) (And.intro ?_ (And.intro ?_ (Exists.intro [some 0] (And.intro rfl (And.intro (And.intro rfl (And.intro (mt_int ?_) (And.intro rfl (And.intro rfl (And.intro (mt_int (wrap_succ ?_)) trivial))))) (And.intro mCd trivial))))))
  all_goals simp only [Int.toNat_natCast, decide_eq_true_eq, decide_eq_false_iff_not] at *
  all_goals first
    | omega
    | exact trivial
    | (rw [knownN_next (by omega), knStep] <;> simp only [*, cond_true, cond_false]; done)
    | rw [List.take_of_length_le (by omega)]

/-! ### The small function that every law of this layer tries first -/
def nmAF : ByteArray := ⟨#[97, 46, 102]⟩
def irK (d n : Int) : Ir := ⟨1, 0, d, 0, 0, 0, n, ByteArray.empty, []⟩
def irB (op d a b : Int) : Ir := ⟨3, op, d, a, b, 0, 0, ByteArray.empty, []⟩
def irR (a : Int) : Ir := ⟨10, 0, 0, a, 0, 0, 0, ByteArray.empty, []⟩
def awakeC : Cd := ⟨nmAF, [], 3, 0, [irK 0 5, irK 1 6, irB 3 2 0 1, irR 2]⟩
def awakeD : Cd := ⟨nmAF, [], 3, 0, [irK 0 5, irK 1 6, irK 2 30, irR 2]⟩
theorem awake_eq : foldC awakeC = (awakeD, 0) := by kernel_rfl
theorem awake_small : Small awakeC := ⟨by decide, by decide, by decide, by decide⟩
theorem awake_n : ∀ x ∈ awakeC.l, 0 ≤ x.n := by decide
theorem awake_known : knownN awakeD.l = 3 := by kernel_rfl

set_option maxRecDepth 100000 in
theorem awake09 : PureCall Try.prog 22 [] (lb true) := by
  have hf := fold_fold awakeC awake_small awake_n
  rw [awake_eq] at hf
  have hk := fold_known awakeD (by decide)
  rw [awake_known] at hk
  refine pure_rule tabOk Try.func22 rfl (by kernel_rfl) (by kernel_rfl) (Nat.le_of_ble_eq_true rfl) ?_
  show awp Try.prog tab 44 (bodyOf Try.f22) _ _ _
  refine Exists.intro awakeC.l (And.intro rfl (And.intro ?_ ?_))
  · repeat' refine And.intro ?_ ?_
    all_goals first | rfl | exact trivial
  refine Or.inl (Exists.intro [aCd awakeC] (Exists.intro _ (And.intro ?_ (And.intro hf ?_))))
  · repeat' refine And.intro ?_ ?_
    all_goals first | rfl | exact trivial
  repeat' first
    | refine And.intro ?_ ?_
    | (intro h; try simp only [Bool.not_true, Bool.not_false, cond_true, cond_false, reduceCtorEq] at h; try (replace h : True := h; clear h))
    | refine fit_bool (H := []) ?_
    | refine Or.inl (Exists.intro [aCd awakeD] (Exists.intro _ (And.intro (FitAL.self rfl) (And.intro hk ?_))))
  all_goals first
    | trivial
    | decide
    | exact absurd ‹_ = false› (by decide)
end Go.Vx

namespace Go.Vx
open Go.Proofs

def irZ (a c : Int) : Ir := ⟨9, 0, 0, a, 0, c, 0, ByteArray.empty, []⟩
def irC (d a : Int) : Ir := ⟨2, 0, d, a, 0, 0, 0, ByteArray.empty, []⟩
def blkL (a b op : Int) : List Ir := [irK 1 a, irZ 0 3, irK 1 b, irC 2 1, irK 3 b, irB op 3 3 3, irB op 2 2 3, irR 2]
def blkC (a b op : Int) : Cd := ⟨nmAF, [⟨false, 0⟩], 4, 0, blkL a b op⟩
def blkD (a b op v : Int) : Cd := ⟨nmAF, [⟨false, 0⟩], 4, 0, [irK 1 a, irZ 0 3, irK 1 b, irC 2 1, irK 3 b, irK 3 v, irB op 2 2 3, irR 2]⟩

theorem opv_ok {op x y : Int} (h0 : 1 ≤ op) (h1 : op ≤ 10) : (opv op x y).2 = true := by
  unfold opv
  have h : op = 1 ∨ op = 2 ∨ op = 3 ∨ op = 4 ∨ op = 5 ∨ op = 6 ∨ op = 7 ∨ op = 8 ∨ op = 9 ∨ op = 10 := by omega
  rcases h with rfl | rfl | rfl | rfl | rfl | rfl | rfl | rfl | rfl | rfl <;> rfl

theorem blk_bad {a b op : Int} (h0 : 1 ≤ op) (h1 : op ≤ 10) (d p q : Int) : badOp (irB op d p q) = false := by
  have e1 : decide (op < 1) = false := decide_eq_false (by omega)
  have e2 : decide (op > 10) = false := decide_eq_false (by omega)
  show (decide ((3 : Int) < 1) || decide ((3 : Int) > 10) || (((3 : Int) == 3) && (decide (op < 1) || decide (op > 10))) || (((3 : Int) == 7) && _)) = false
  rw [e1, e2]; rfl
theorem blk_right (a b op : Int) (h0 : 1 ≤ op) (h1 : op ≤ 10) : rightR (blkC a b op) = (0, -1) := by
  have f : formOk (blkC a b op) = true := by rfl
  have w0 : wrongI (blkC a b op) 0 = 0 := by rfl
  have w1 : wrongI (blkC a b op) 1 = 0 := by rfl
  have w2 : wrongI (blkC a b op) 2 = 0 := by rfl
  have w3 : wrongI (blkC a b op) 3 = 0 := by rfl
  have w4 : wrongI (blkC a b op) 4 = 0 := by rfl
  have w5 : wrongI (blkC a b op) 5 = 0 := by
    show wrongX (blkC a b op) (irB op 3 3 3) 5 = 0
    unfold wrongX
    rw [blk_bad (a := a) (b := b) h0 h1]; rfl
  have w6 : wrongI (blkC a b op) 6 = 0 := by
    show wrongX (blkC a b op) (irB op 2 2 3) 6 = 0
    unfold wrongX
    rw [blk_bad (a := a) (b := b) h0 h1]; rfl
  have w7 : wrongI (blkC a b op) 7 = 0 := by rfl
  unfold rightR
  rw [f]
  show firstWrong (blkC a b op) 8 0 = (0, -1)
  simp only [firstWrong, w0, w1, w2, w3, w4, w5, w6, w7]
  rfl
theorem blk_fold (a b op : Int) (h0 : 1 ≤ op) (h1 : op ≤ 10) : foldC (blkC a b op) = (blkD a b op (opv op b b).1, 0) := by
  unfold foldC
  rw [blk_right a b op h0 h1]
  have ho := opv_ok (x := b) (y := b) h0 h1
  have e : (opv op b b) = ((opv op b b).1, true) := by rw [← ho]
  generalize (opv op b b).1 = v at e
  have s5 : foldTo (goalM (blkL a b op)) (blkL a b op) 5 = ([(3, b)], [irK 1 a, irZ 0 3, irK 1 b, irC 2 1, irK 3 b]) := by rfl
  have s6 : foldTo (goalM (blkL a b op)) (blkL a b op) 6 = ([(3, v)], [irK 1 a, irZ 0 3, irK 1 b, irC 2 1, irK 3 b, irK 3 v]) := by
    show foldStep (goalM (blkL a b op)) 5 (foldTo (goalM (blkL a b op)) (blkL a b op) 5) (irB op 3 3 3) = _
    rw [s5]
    show (foldKn (irB op 3 3 3) (opv op b b) [(3, b)], [irK 1 a, irZ 0 3, irK 1 b, irC 2 1, irK 3 b] ++ [foldIr (irB op 3 3 3) (opv op b b)]) = _
    rw [e]; rfl
  have s8 : foldTo (goalM (blkL a b op)) (blkL a b op) 8 = ([], [irK 1 a, irZ 0 3, irK 1 b, irC 2 1, irK 3 b, irK 3 v, irB op 2 2 3, irR 2]) := by
    show foldStep (goalM (blkL a b op)) 7 (foldStep (goalM (blkL a b op)) 6 (foldTo (goalM (blkL a b op)) (blkL a b op) 6) (irB op 2 2 3)) (irR 2) = _
    rw [s6]; rfl
  show ((⟨nmAF, [⟨false, 0⟩], 4, 0, (foldTo (goalM (blkL a b op)) (blkL a b op) 8).2⟩ : Cd), (0 : Int)) = _
  rw [s8]; rfl
theorem blk_known (a b op v : Int) : knownN (blkD a b op v).l = 4 := by rfl
theorem blk_small (a b op : Int) : Small (blkC a b op) := ⟨by show nmAF.size ≤ 1000000; decide, by show 1 ≤ 1000000; decide, by show 8 ≤ 1000000; decide, by
  intro x hx
  simp only [blkC, blkL, List.mem_cons, List.not_mem_nil, or_false] at hx
  rcases hx with rfl | rfl | rfl | rfl | rfl | rfl | rfl | rfl <;> exact ⟨by show 0 ≤ 1000000; decide, by show 0 ≤ 1000000; decide⟩⟩
theorem blk_n {a b op : Int} (ha : 0 ≤ a) (hb : 0 ≤ b) : ∀ x ∈ (blkC a b op).l, 0 ≤ x.n := by
  intro x hx
  simp only [blkC, blkL, List.mem_cons, List.not_mem_nil, or_false] at hx
  rcases hx with rfl | rfl | rfl | rfl | rfl | rfl | rfl | rfl <;> first | exact ha | exact hb | exact Int.le_refl 0

set_option maxRecDepth 100000 in
set_option maxHeartbeats 4000000 in
theorem fold_block (a b op : Int) (ha : 0 ≤ a) (hb : 0 ≤ b) : PureCall Try.prog 6 [.pv (pu32 a), .pv (pu32 b), .pv (pint op)] (lb true) := by
  refine pure_rule tabOk Try.func6 rfl (by kernel_rfl) (by kernel_rfl) (Nat.le_of_ble_eq_true rfl) ?_
  show awp Try.prog tab 81 (bodyOf Try.f6) _ _ _
  refine Or.inl ⟨_, _, FitAL.self rfl, awake09, ?_⟩
  have tail : ∀ (h0 : 1 ≤ op) (h1 : op ≤ 10), ∃ v, PureCall Try.prog 24 [aCd (blkC a b op)] (.tup [aCd (blkD a b op v), lt' .i64 0]) ∧ PureCall Try.prog 27 [aCd (blkD a b op v)] (lt' .i64 4) := by
    intro h0 h1
    have hf := fold_fold (blkC a b op) (blk_small a b op) (blk_n ha hb)
    rw [blk_fold a b op h0 h1] at hf
    have hk := fold_known (blkD a b op (opv op b b).1) (by show 8 ≤ 1000000; decide)
    rw [blk_known] at hk
    exact ⟨_, hf, hk⟩
  repeat' first
    | refine And.intro ?_ ?_
    | (intro h; try simp only [Bool.not_true, Bool.not_false, cond_true, cond_false, reduceCtorEq] at h; try (replace h : True := h; clear h))
    | refine fit_bool (H := []) ?_
  all_goals try rfl
  have h0 : 1 ≤ op := by have := of_decide_eq_false ‹decide (op < 1) = false›; omega
  have h1 : op ≤ 10 := by have := of_decide_eq_false ‹decide (op > 10) = false›; omega
  obtain ⟨v, hf, hk⟩ := tail h0 h1
  clear tail
  refine Exists.intro [⟨false, 0⟩] (And.intro rfl (And.intro (And.intro (And.intro rfl (And.intro rfl trivial)) trivial) ?_))
  refine Exists.intro (blkL a b op) (And.intro rfl (And.intro ?_ ?_))
  · repeat' refine And.intro ?_ ?_
    all_goals first | rfl | exact trivial
  refine Or.inl (Exists.intro [aCd (blkC a b op)] (Exists.intro _ (And.intro ?_ (And.intro hf ?_))))
  · repeat' refine And.intro ?_ ?_
    all_goals first | rfl | exact trivial
  repeat' first
    | refine And.intro ?_ ?_
    | (intro h; try simp only [Bool.not_true, Bool.not_false, cond_true, cond_false, reduceCtorEq] at h; try (replace h : True := h; clear h))
    | refine fit_bool (H := []) ?_
    | refine Or.inl (Exists.intro [aCd (blkD a b op v)] (Exists.intro _ (And.intro (FitAL.self rfl) (And.intro hk ?_))))
  all_goals first
    | trivial
    | decide
    | exact absurd ‹_ = false› (by decide)
    | exact (by decide : (3 : Int) < 8)
    | exact (by decide : (5 : Int) < 8)
    | exact (by decide : (6 : Int) < 8)
end Go.Vx

