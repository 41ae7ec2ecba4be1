/- Contracts: a run, at every depth. No condition: these are lemmas for the laws. -/
import Derived.Test.YtmmdnljokoojdaaYa
import Derived.Test.YtmmdnljokoojdaaXc
set_option linter.unusedVariables false
set_option linter.unusedSimpArgs false
namespace Go.Vx
open Go.Proofs

@[reducible] def boxFq (p q1 q2 : Nat) (f : Fr) (deep : Int) : AObj := .box [.ptr p 0, .own q1, .own q2, lt' .i64 f.at_, lt' .i64 deep, lb f.over]
/-- The state of a run: what was handed, pins, the function, the frame. -/
@[reducible] def HQ (m : List (ByteArray × Cd)) (r0 : Rn) (s : Nat → Value) (c : Cd) (f : Fr) (deep : Int) (r : Rn) : Heap :=
  [boxRn 1 12 2 r, oIn m, oDoes, .dead] ++ pins s 0 (HRn m r0) ++ [boxCd c, boxFq 0 10 11 f deep, rowU f.regs, rowU f.cells, rowI r.went]
theorem mt_slU {rn : Ren} {xs ys : List Int} (h : ys = xs) : matchV rn (.pv (slU xs)) (some (.pv (slU ys))) := by rw [h]; rfl
theorem mt_slTy {rn : Ren} {xs ys : List Ty} (h : ys = xs) : matchV rn (.pv (slTy xs)) (some (.pv (slTy ys))) := by rw [h]; rfl

def layTo (c : Cd) (args : List Int) (k : Nat) : Laid := (c.params.take k).foldl layStep (lay0 c args)
theorem layTo_next {c : Cd} {args : List Int} {k : Nat} (h : k < c.params.length) : layTo c args (k + 1) = layStep (layTo c args k) (c.params.getD k dTy) := by
  unfold layTo
  rw [take_getD dTy h, List.foldl_append]; rfl
theorem layTo_at {c : Cd} (hf : Fine c) {args : List Int} (h0 : ∀ v ∈ args, U v) (hl : args.length = wordsN c.params + cellsN c.params) : ∀ (k : Nat), k ≤ c.params.length → LayOk c args (c.params.take k) (layTo c args k)
  | 0, _ => lay0_ok c args
  | k + 1, hk => by
    have hsplit : c.params = c.params.take k ++ c.params.getD k dTy :: c.params.drop (k + 1) := by
      rw [List.getD_eq_getElem?_getD, List.getElem?_eq_getElem (by omega : k < c.params.length), Option.getD_some, ← List.drop_eq_getElem_cons (by omega), List.take_append_drop]
    have := ((layTo_at hf h0 hl k (by omega)).next hf h0 hsplit hl).1
    rw [layTo_next (by omega), take_getD dTy (by omega)]
    exact this
theorem layTo_split {c : Cd} {k : Nat} (h : k < c.params.length) : c.params = c.params.take k ++ c.params.getD k dTy :: c.params.drop (k + 1) := by
  rw [List.getD_eq_getElem?_getD, List.getElem?_eq_getElem h, Option.getD_some, ← List.drop_eq_getElem_cons h, List.take_append_drop]

theorem lay_copy {cells args : List Int} {cell n : Nat} (h1 : n ≤ args.length) (h2 : cell + n ≤ cells.length) : setRange cells cell (((args.take n).drop 0).take (cells.length - cell)) = setRange cells cell (args.take n) := by
  rw [List.drop_zero, List.take_of_length_le (by rw [List.length_take]; omega)]
theorem wrap_add {a : Nat} {b : Int} (ha : a ≤ 1000000) (h0 : 0 ≤ b) (h1 : b ≤ 1000000) : IntKind.i64.wrap ((a : Int) + b) = ((a + b.toNat : Nat) : Int) := by
  rw [wrap_small (by omega) (by omega)]; omega

theorem mAgg_eq {r : Ren} {x y : Ir} (h : y = x) : matchV r (aIr x) (some (aIr y)) := by rw [h]; exact mAgg
set_option maxRecDepth 10000 in
set_option maxHeartbeats 4000000 in
theorem run_runs {m : List (ByteArray × Cd)} (hin : InOk (look KK.str m)) {deep k : Nat} (hk : deep + k = 32) (hd : DeeperC m deep k) : RunsAt m deep k := by
  intro c args r hw hf h0 hl hr0 hwent
  have hnp := hf.np
  have hreg := hf.regs
  have hcel := hf.cells
  have hreg0 : 0 ≤ c.regs := by omega
  have hcel0 : 0 ≤ c.cells := by omega
  refine imp_ruleS tabOk Try.func59 rfl (by kernel_rfl) (Nat.le_of_ble_eq_true rfl) (Nat.le_of_ble_eq_true rfl) rfl ?_
  intro s
  show Tri Try.prog 138 (bodyOf Try.f59) _ _ _
  refine cut_rule tabOk (by kernel_rfl) 3 (X := Unit) (fun _ => True) (fun _ => ([(0, .ptr 0 0), (2, .pv (slU args)), (5, .ptr 8 0), (8, .pv (pu32 0)), (9, .nil), (10, .ptr 9 0), (11, lt' .i64 0), (12, lt' .i64 0)], HQ m r s c ⟨(layTo c args 0).regs, (layTo c args 0).cells, 0, false⟩ deep r)) ?_ ?_
  · refine draw_plan tabOk mixed false false [0, 1, 2, 4, 5, 7] 5 [(0, .ptr 0 0), (2, .pv (slU args)), (5, .ptr 8 0), (8, .pv (pu32 0)), (9, .nil), (10, .ptr 9 0)] (HQ m r s c ⟨(layTo c args 0).regs, (layTo c args 0).cells, 0, false⟩ deep r) (by kernel_rfl) ?_ ?_
    · repeat' refine And.intro ?_ ?_
      all_goals first
        | exact rfl
        | exact hcel0
        | exact hreg0
        | (show c.regs * 4 ≤ 281474976710656; omega)
        | (show c.cells * 4 ≤ 281474976710656; omega)
        | exact trivial
        | (refine @Exists.intro Ren _ [some 0, some 1, some 2, some 3, some 4, some 5, some 6, some 7, some 8, some 11, some 9, some 10, some 3] ?_
           repeat' first | refine And.intro ?_ ?_ | exact rfl | exact trivial
           done)
        | (refine @Exists.intro Ren _ [some 0, some 1, some 2, some 3, some 4, some 5, some 6, some 7, some 8, some 11, some 10, some 9, some 3] ?_
           repeat' first | refine And.intro ?_ ?_ | exact rfl | exact trivial
           done)
    · refine Exists.intro () (And.intro trivial (@Exists.intro Ren _ [some 0, some 1, some 2, some 3, some 4, some 5, some 6, some 7, some 8, some 9, some 10, some 11, some 12] ?_))
      repeat' first | refine And.intro ?_ ?_ | exact rfl | exact trivial
  rintro ⟨⟩ _
  have hlay := lay_ok hf h0 hl
  refine cut_rule tabOk (by kernel_rfl) 1 (X := Unit) (fun _ => True) (fun _ => ([(0, .ptr 0 0), (5, .ptr 8 0), (8, .pv (pu32 0)), (9, .nil), (10, .ptr 9 0), (12, lt' .i64 (layArgs c args).cell)], HQ m r s c ⟨(layArgs c args).regs, (layArgs c args).cells, 0, false⟩ deep r)) ?_ ?_
  · refine loop_rule (X := Nat) tabOk (by kernel_rfl) (fun j => j ≤ c.params.length)
      (fun j => ([(0, .ptr 0 0), (2, .pv (slU (layTo c args j).args)), (5, .ptr 8 0), (8, .pv (pu32 0)), (9, .nil), (10, .ptr 9 0), (11, lt' .i64 (layTo c args j).reg), (12, lt' .i64 (layTo c args j).cell), (27, .pv (slTy c.params)), (28, lt' .i64 c.params.length), (29, lt' .i64 j)],
        HQ m r s c ⟨(layTo c args j).regs, (layTo c args j).cells, 0, false⟩ deep r)) (fun j => c.params.length - j) 0 (Nat.zero_le _) ?_ ?_
    · refine @Exists.intro Ren _ [some 0, some 1, some 2, some 3, some 4, some 5, some 6, some 7, some 8, some 9, some 10, some 11, some 12] ?_
      repeat' first | refine And.intro ?_ ?_ | exact rfl | exact trivial
    intro j hj
    have hlj := layTo_at hf h0 hl j hj
    refine And.intro ?_ ?_
    · intro hb
      have hlt : j < c.params.length := by have := of_decide_eq_true hb; omega
      obtain ⟨hn1, hn2, hn3⟩ := hlj.next hf h0 (layTo_split hlt) hl
      have hnext := layTo_next (c := c) (args := args) hlt
      have ht := hf.par (c.params.getD j dTy) (by rw [List.getD_eq_getElem?_getD, List.getElem?_eq_getElem hlt]; exact List.getElem_mem hlt)
      unfold layStep at hnext
      have e : c.params.getD ((j : Int).toNat) dTy = c.params.getD j dTy := rfl
      generalize hte : c.params.getD j dTy = t at hn1 hn2 hn3 hnext ht e
      have hregj : (layTo c args j).regs.length ≤ 10000 := by rw [hlj.regsL]; omega
      have hcelj : (layTo c args j).cells.length ≤ 4096 := by rw [hlj.cellsL]; omega
      generalize layTo c args j = L at hn1 hn2 hn3 hnext hlj hregj hcelj ⊢
      by_cases hz : t.len = 0
      · rw [if_pos hz] at hnext
        have hn2 := hn2 hz
        repeat' first
          | refine And.intro ?_ ?_
          | (intro hb2; rw [e, hz] at hb2; first | exact Bool.noConfusion hb2 | clear hb2)
          | refine draw_lex tabOk mixed false false (by kernel_rfl) ?_
          | refine @Exists.intro (List AV) _ [.pv (pu32 (L.args.getD 0 0))] (And.intro (And.intro (Or.inl rfl) trivial) (@Exists.intro Int _ (L.args.getD 0 0) (And.intro rfl ?_)))
        all_goals try refine @Exists.intro Nat _ (j + 1) (And.intro ?_ (And.intro ?_ (@Exists.intro Ren _ [some 0, some 1, some 2, some 3, some 4, some 5, some 6, some 7, some 8, some 9, some 10, some 11, some 12] ?_)))
        repeat' first
          | refine And.intro ?_ ?_
          | exact rfl
          | exact trivial
          | (refine mt_slU ?_; rw [hnext]; show (L.args.take L.args.length).drop 1 = L.args.drop 1; rw [List.take_length])
          | exact mt_rowU (by first | (rw [hnext]; done) | (rw [hnext]; rfl))
          | (refine mt_int ?_; first | (rw [hnext]; done) | (rw [hnext]; exact wrap_succ (by omega)))
          | refine mt_int (wrap_succ ?_)
        all_goals first
          | omega
          | (show (L.reg : Int) < (L.regs.length : Int); omega)
          | exact hn2.2
      · rw [if_neg hz] at hnext
        have hn3 := hn3 hz
        repeat' first
          | refine And.intro ?_ ?_
          | (intro hb2; rw [e, beq_eq_false_iff_ne.2 hz] at hb2; first | exact Bool.noConfusion hb2 | clear hb2)
          | refine draw_lex tabOk mixed false false (by kernel_rfl) ?_
          | refine @Exists.intro (List Int) _ ((L.args.take t.len.toNat).drop 0) (And.intro ?_ (And.intro ?_ ?_))
        all_goals try refine @Exists.intro Nat _ (j + 1) (And.intro ?_ (And.intro ?_ (@Exists.intro Ren _ [some 0, some 1, some 2, some 3, some 4, some 5, some 6, some 7, some 8, some 9, some 10, some 11, some 12] ?_)))
        repeat' first
          | refine And.intro ?_ ?_
          | exact rfl
          | exact trivial
          | (refine mt_slU ?_; rw [hnext]; show (L.args.take L.args.length).drop (c.params.getD (j : Int).toNat dTy).len.toNat = L.args.drop t.len.toNat; rw [List.take_length, e])
          | (refine mt_rowU ?_; first | (rw [hnext]; done) | (rw [hnext]; exact lay_copy hn3.1 hn3.2))
          | (refine mt_int ?_; first | (rw [hnext]; done) | (rw [hnext, e]; exact wrap_add (by omega) ht.1 (by omega)))
          | refine mt_int (wrap_succ ?_)
        all_goals first
          | omega
          | (rw [e]; exact ht.1)
          | (rw [e]; omega)
          | (rw [e]; rfl)
          | (rw [e, List.length_take, List.length_drop]; omega)
          | (show (L.cell : Int) ≤ (L.cells.length : Int); omega)
          | (show (L.cells.length : Int) ≤ (L.cells.length : Int); omega)
          | (show L.cell + (L.cells.length - L.cell) ≤ L.cells.length; omega)
    · intro hb
      have hj' : j = c.params.length := by have := of_decide_eq_false hb; omega
      subst hj'
      have e : layTo c args c.params.length = layArgs c args := by unfold layTo; rw [List.take_length]; rfl
      rw [e]
      refine Exists.intro () (And.intro trivial (@Exists.intro Ren _ [some 0, some 1, some 2, some 3, some 4, some 5, some 6, some 7, some 8, some 9, some 10, some 11, some 12] ?_))
      repeat' first | refine And.intro ?_ ?_ | exact rfl | exact trivial
  rintro ⟨⟩ _
  have hgood := lay_good hf h0 hl
  have hcell : (layArgs c args).cell ≤ c.cells.toNat := by rw [hlay.cell]; omega
  have hfin : runR (look KK.str m) k c args r = loopR (callR (look KK.str m) (deeperR (look KK.str m) k)) c (layArgs c args).cell (r.left + 2) ⟨(layArgs c args).regs, (layArgs c args).cells, 0, false⟩ r := by rw [runR_eq]; rfl
  generalize runR (look KK.str m) k c args r = y at hfin ⊢
  have hcall := call_ok hin (deeper_ok hin k)
  have hdo := fun i x (hx : FineI c i x) (hn : 0 ≤ x.n) f h1 h2 h3 r' h4 h5 => @does_any m hin deep k hk hd c i x hx hn f ⟨hreg0, hcel0⟩ h1 h2 h3 r' h4 h5
  generalize hce : callR (look KK.str m) (deeperR (look KK.str m) k) = call at hfin hcall hdo
  generalize (layArgs c args).cell = cell at hfin hcell ⊢
  generalize (⟨(layArgs c args).regs, (layArgs c args).cells, 0, false⟩ : Fr) = f0 at hfin hgood ⊢
  clear hlay hce hd hin
  refine Tri.of tabOk (by kernel_rfl) ?_
  refine loop_rule (X := Nat × Fr × Rn) tabOk (by kernel_rfl) (fun q => q.2.2.left + 2 ≤ q.1 ∧ Good c q.2.1 ∧ q.2.2.went.length + q.2.2.left ≤ 1000000 ∧ y = loopR call c cell q.1 q.2.1 q.2.2)
    (fun q => ([(0, .ptr 0 0), (5, .ptr 8 0), (8, .pv (pu32 0)), (9, .nil), (10, .ptr 9 0), (12, lt' .i64 cell)], HQ m r s c q.2.1 deep q.2.2)) (fun q => q.1) (r.left + 2, f0, r) (And.intro (Nat.le_refl _) (And.intro hgood (And.intro hwent hfin)))
    (@Exists.intro Ren _ [some 0, some 1, some 2, some 3, some 4, some 5, some 6, some 7, some 8, some 9, some 10, some 11, some 12] ?_) ?_
  · repeat' first | refine And.intro ?_ ?_ | exact rfl | exact trivial
  rintro ⟨n, f, r'⟩ ⟨hn, hg, hwl, hy⟩
  dsimp only at hn hg hwl hy ⊢
  obtain ⟨n, rfl⟩ : ∃ n', n = n' + 1 := ⟨n - 1, by omega⟩
  rw [loopR] at hy
  by_cases hwr : r'.wrong = 0
  case neg =>
    rw [if_pos hwr] at hy
    have hwb : (r'.wrong == 0) = false := beq_eq_false_iff_ne.2 hwr
    subst hy
    have hlb : True := trivial
    cases hov : f.over
    all_goals
      repeat' first
        | refine And.intro ?_ ?_
        | (intro hb; first | exact Bool.noConfusion hb | (simp only [hov, hwb, bne, cond_true, cond_false, reduceCtorEq, Bool.not_true, Bool.not_false] at hb; done) | clear hb)
        | refine draw_lex tabOk mixed false false (by kernel_rfl) ?_
    all_goals try refine @Exists.intro Ren _ [some 0, some 1, some 2, some 3, some 12, none] (Exists.intro [4, 5, 6, 7] ?_)
    all_goals repeat' first | refine And.intro ?_ ?_ | exact rfl | exact trivial | decide
  rw [if_neg (by simpa using hwr)] at hy
  have hwb : (r'.wrong == 0) = true := beq_iff_eq.2 hwr
  cases hov : f.over
  case true =>
    rw [if_pos hov] at hy
    subst hy
    repeat' first
      | refine And.intro ?_ ?_
      | (intro hb; first | exact Bool.noConfusion hb | (simp only [hov, hwb, bne, cond_true, cond_false, reduceCtorEq, Bool.not_true, Bool.not_false] at hb; done) | clear hb)
      | refine draw_lex tabOk mixed false false (by kernel_rfl) ?_
    all_goals try refine @Exists.intro Ren _ [some 0, some 1, some 2, some 3, some 12, some 11] (Exists.intro [4, 5, 6, 7] ?_)
    all_goals repeat' first | refine And.intro ?_ ?_ | exact rfl | exact trivial | decide
    all_goals (have h1 := hg.one hov; have h2 := hg.cellsL; first | omega | (show 0 < f.regs.length; omega))
  rw [if_neg (by rw [hov]; decide)] at hy
  by_cases hl0 : r'.left = 0
  · rw [if_pos hl0] at hy
    subst hy
    have hlb : ((r'.left : Int) == 0) = true := by rw [hl0]; rfl
    repeat' first
      | refine And.intro ?_ ?_
      | (intro hb; first | exact Bool.noConfusion hb | (simp only [hov, hwb, hlb, bne, cond_true, cond_false, reduceCtorEq, Bool.not_true, Bool.not_false] at hb; done) | clear hb)
      | refine draw_lex tabOk mixed false false (by kernel_rfl) ?_
    all_goals try refine @Exists.intro Ren _ [some 0, some 1, some 2, some 3, some 12, none] (Exists.intro [4, 5, 6, 7] ?_)
    all_goals repeat' first | refine And.intro ?_ ?_ | exact rfl | exact trivial | decide
  rw [if_neg hl0] at hy
  have hlb : ((r'.left : Int) == 0) = false := by rw [beq_eq_false_iff_ne]; omega
  obtain ⟨p0, p1⟩ := hg.place hov
  have hi : f.at_.toNat < c.l.length := by omega
  have hlen := hf.len
  have hxn := (Fine.x0 hw hi).1
  obtain ⟨q, hq, hst⟩ := hdo _ _ (hf.ir _ hi) hxn { f with at_ := f.at_ + 1 } (hg.regsL hov) hg.cellsL hg.regs0 { r' with left := r'.left - 1 } hwr (by show r'.went.length + (r'.left - 1) ≤ 1000000; omega)
  have hsg := step_good hw hf hcall hg hov (r := { r' with left := r'.left - 1 }) hwr
  generalize stepF call (c.l.getD f.at_.toNat dIr) { f with at_ := f.at_ + 1 } { r' with left := r'.left - 1 } = w at hy hst hsg
  obtain ⟨f2, r2⟩ := w
  dsimp only at hy hst hsg
  have hle1 := hsg.2.left
  have hle2 := hsg.2.went
  dsimp only at hle1 hle2
  have ew : IntKind.i64.wrap (f.at_ + 1) = f.at_ + 1 := wrap_succ' p0 (by omega)
  have el : IntKind.i64.wrap ((r'.left : Int) - 1) = ((r'.left - 1 : Nat) : Int) := by rw [wrap_small (by omega) (by omega)]; omega
  generalize hxe : c.l.getD f.at_.toNat dIr = x at hq hst
  repeat' first
    | refine And.intro ?_ ?_
    | (intro y' hy'; rw [hxe, hq] at hy'; cases hy')
    | (intro hy'; rw [hxe, hq] at hy'; cases hy'; done)
    | (intro hb; first | exact Bool.noConfusion hb | (simp only [hov, hwb, hlb, bne, cond_true, cond_false, reduceCtorEq, Bool.not_true, Bool.not_false] at hb; done) | clear hb)
    | refine draw_lex tabOk mixed false false (by kernel_rfl) ?_
    | refine Or.inr (Or.inl (ImpStep.mk' [some 9, some 0, some 1, some 2, some 10, some 11, some 12] hst rfl ?_ ?_ ?_))
  all_goals try refine @Exists.intro (Nat × Fr × Rn) _ (n, f2, r2) (And.intro (Nat.lt_succ_self n) (And.intro (And.intro (show r2.left + 2 ≤ n by omega) (And.intro hsg.1 (And.intro (show r2.went.length + r2.left ≤ 1000000 by omega) hy))) (@Exists.intro Ren _ [some 0, some 1, some 2, some 3, some 4, some 5, some 6, some 7, some 8, some 9, some 14, some 11, some 15] ?_)))
  all_goals repeat' first
    | refine And.intro ?_ ?_
    | exact p0
    | exact p1
    | exact rfl
    | exact trivial
    | exact mt_int ew
    | exact mt_int el
    | (rw [hxe]; rfl)
    | (intro p hp; obtain ⟨q', _, e'⟩ := List.mem_map.1 hp; exact Exists.intro q' e'.symm)

/-- Every run, at every depth. -/
theorem runs_at {m : List (ByteArray × Cd)} (hin : InOk (look KK.str m)) : ∀ (k deep : Nat), deep + k = 32 → RunsAt m deep k
  | 0, deep, hk => run_runs hin hk (fun k' h => by omega)
  | k + 1, deep, hk => run_runs hin hk (fun k' h => by
      obtain rfl : k = k' := by omega
      exact runs_at hin k (deep + 1) (by omega))
end Go.Vx

