/- Contracts: the run of the document, at every depth. No condition: these are lemmas for the laws. -/
import Derived.Test.YtmmdnljokoojdaaYd
import Derived.Test.YtmmdnljokoojdaaXf
set_option linter.unusedVariables false
set_option linter.unusedSimpArgs false
namespace Go.Vx
open Go.Proofs

def RunsD (l : List Cd) (deep k : Nat) : Prop :=
  ∀ (c : Cd) (args : List Int) (r : Rn), CdOk c → Fine c → (∀ v ∈ args, U v) → args.length = wordsN c.params + cellsN c.params → r.wrong = 0 → r.went.length + r.left ≤ 1000000 → RunD l c args deep r (runR (findC l) k c args r)
def DeeperD (l : List Cd) (deep k : Nat) : Prop := ∀ k', k = k' + 1 → RunsD l (deep + 1) k'

theorem callD_any {l : List Cd} (hin : InOk (findC l)) (hl : l.length ≤ 1000000) {deep k : Nat} (hk : deep + k = 32) (hd : DeeperD l deep k) {x : Ir} {regs : List Int} (ha : ∀ a ∈ x.args, 0 ≤ a ∧ a < regs.length) (hal : x.args.length ≤ 6)
    (h0 : ∀ v ∈ regs, U v) {r : Rn} (hr : r.wrong = 0) (hw : r.went.length + r.left ≤ 1000000) :
    CallD l x regs deep r ((callR (findC l) (deeperR (findC l) k) x regs r).1.getD 0) (callR (findC l) (deeperR (findC l) k) x regs r).2 := by
  unfold callR
  rw [findC_idx]
  cases hi : idxC l x.name with
  | none => exact callD_none hl hi
  | some i =>
    dsimp only [Option.map_some]
    have hfi : findC l x.name = some (l.getD i dCd) := by rw [findC_idx, hi]; rfl
    have hfine := hin.fine _ _ hfi
    have hcw := hin.ok _ _ hfi
    generalize hce : l.getD i dCd = c at hfine hcw
    by_cases hwc : wordsN c.params ≠ x.args.length ∨ 0 < cellsN c.params
    · rw [if_pos hwc]
      by_cases hw1 : wordsN c.params = x.args.length
      · exact callD_type2 hl hi hce hfine hw1 (by omega)
      · exact callD_type1 hl hi hce hfine hw1
    · rw [if_neg hwc]
      cases k with
      | zero => exact callD_fuel hl hi hce hfine (by omega) (by omega) (by omega)
      | succ k =>
        exact callD_run hl hi hce hfine (by omega) (by omega) (by omega) ha hal (hd k rfl c _ r hcw hfine (fun v hv => by
          obtain ⟨a, _, rfl⟩ := List.mem_map.1 hv
          exact getD_nonneg h0 _) (by rw [List.length_map]; omega) hr hw)

/-- The state of the document's run. -/
@[reducible] def HD (l : List Cd) (r0 : Rn) (s : Nat → Value) (c : Cd) (f : Fr) (r : Rn) : Heap :=
  [boxRR 7 l r, .dead] ++ pins s 0 (HRR l r0) ++ [boxCd c, rowU f.regs, rowU f.cells, rowI r.went]

theorem stepF_1 {call : Ir → List Int → Rn → Option Int × Rn} {x : Ir} {f : Fr} {r : Rn} (h : x.kind = 1) : stepF call x f r = ({ f with regs := f.regs.set x.d.toNat x.n }, r) := by simp [stepF, h]
theorem stepF_2 {call : Ir → List Int → Rn → Option Int × Rn} {x : Ir} {f : Fr} {r : Rn} (h : x.kind = 2) : stepF call x f r = ({ f with regs := f.regs.set x.d.toNat (f.regs.getD x.a.toNat 0) }, r) := by simp [stepF, h]
theorem stepF_3 {call : Ir → List Int → Rn → Option Int × Rn} {x : Ir} {f : Fr} {r : Rn} (h : x.kind = 3) : stepF call x f r = ({ f with regs := f.regs.set x.d.toNat (opv x.op (f.regs.getD x.a.toNat 0) (f.regs.getD x.b.toNat 0)).1 }, r) := by simp [stepF, h]
theorem stepF_4 {call : Ir → List Int → Rn → Option Int × Rn} {x : Ir} {f : Fr} {r : Rn} (h : x.kind = 4) : stepF call x f r = ({ f with regs := f.regs.set x.d.toNat (bif (f.regs.getD x.a.toNat 0) == 0 then (f.regs.getD x.c.toNat 0) else (f.regs.getD x.b.toNat 0)) }, r) := by simp [stepF, h]
theorem stepF_5 {call : Ir → List Int → Rn → Option Int × Rn} {x : Ir} {f : Fr} {r : Rn} (h : x.kind = 5) : stepF call x f r = ({ f with regs := f.regs.set x.d.toNat (f.cells.getD x.n.toNat 0) }, r) := by simp [stepF, h]
theorem stepF_6 {call : Ir → List Int → Rn → Option Int × Rn} {x : Ir} {f : Fr} {r : Rn} (h : x.kind = 6) : stepF call x f r = ({ f with cells := f.cells.set x.n.toNat (f.regs.getD x.a.toNat 0) }, r) := by simp [stepF, h]
theorem stepF_8 {call : Ir → List Int → Rn → Option Int × Rn} {x : Ir} {f : Fr} {r : Rn} (h : x.kind = 8) : stepF call x f r = ({ f with at_ := x.c }, r) := by simp [stepF, h]
theorem stepF_9 {call : Ir → List Int → Rn → Option Int × Rn} {x : Ir} {f : Fr} {r : Rn} (h : x.kind = 9) : stepF call x f r = ({ f with at_ := bif (f.regs.getD x.a.toNat 0) == 0 then x.c else f.at_ }, { r with went := r.went ++ [bif (f.regs.getD x.a.toNat 0) == 0 then 0 else 1] }) := by simp [stepF, h]
theorem stepF_10 {call : Ir → List Int → Rn → Option Int × Rn} {x : Ir} {f : Fr} {r : Rn} (h : x.kind = 10) : stepF call x f r = ({ f with regs := [(f.regs.getD x.a.toNat 0)], over := true }, r) := by simp [stepF, h]
theorem stepF_7 {call : Ir → List Int → Rn → Option Int × Rn} {x : Ir} {f : Fr} {r : Rn} (h : x.kind = 7) : stepF call x f r = (match (call x f.regs r).1 with
      | none => f
      | some v => { f with regs := f.regs.set x.d.toNat v }, (call x f.regs r).2) := by
  first
    | (simp [stepF, h]; done)
    | (simp [stepF, h]
       cases (call x f.regs r).1 <;> rfl)

set_option maxRecDepth 10000 in
set_option maxHeartbeats 8000000 in
theorem run_runsD {l : List Cd} (hin : InOk (findC l)) (hl : l.length ≤ 1000000) {deep k : Nat} (hk : deep + k = 32) (hd : DeeperD l deep k) : RunsD l deep k := by
  intro c args r hw hf h0 hal hr0 hwent
  have hnp := hf.np
  have hreg := hf.regs
  have hcel := hf.cells
  have hreg0 : 0 ≤ c.regs := by omega
  have hcel0 : 0 ≤ c.cells := by omega
  have hbegin := ref_begin hf h0 hal
  have hlay := lay_ok hf h0 hal
  have hgood := lay_good hf h0 hal
  have hcell : (layArgs c args).cell ≤ c.cells.toNat := by rw [hlay.cell]; omega
  have hfin : runR (findC l) k c args r = loopR (callR (findC l) (deeperR (findC l) k)) c (layArgs c args).cell (r.left + 2) ⟨(layArgs c args).regs, (layArgs c args).cells, 0, false⟩ r := by rw [runR_eq]; rfl
  generalize runR (findC l) k c args r = y at hfin ⊢
  have hcall := call_ok hin (deeper_ok hin k)
  have hdo := fun x regs h1 h2 h3 r h4 h5 => @callD_any l hin hl deep k hk hd x regs h1 h2 h3 r h4 h5
  generalize hce : callR (findC l) (deeperR (findC l) k) = call at hfin hcall hdo
  refine imp_ruleS tabOk2 Try.func61 rfl (by kernel_rfl) (Nat.le_of_ble_eq_true rfl) (Nat.le_of_ble_eq_true rfl) rfl ?_
  intro s
  show Tri Try.prog 196 (bodyOf Try.f61) _ _ _
  refine cut_rule tabOk2 (by kernel_rfl) 3 (X := Unit) (fun _ => True) (fun _ => ([(0, .ptr 0 0), (3, lt' .i64 deep), (5, .ptr 4 0), (8, .pv (pu32 0)), (9, .nil), (10, .own 5), (11, .own 6), (12, lt' .i64 (layArgs c args).cell), (13, lt' .i64 0)], HD l r s c ⟨(layArgs c args).regs, (layArgs c args).cells, 0, false⟩ r)) ?_ ?_
  · refine Or.inr (Or.inl (ImpStep.mk' [] hbegin rfl ?_ trivial ?_))
    · exact And.intro mAggC (And.intro rfl trivial)
    refine Exists.intro () (And.intro trivial (@Exists.intro Ren _ [some 0, some 1, some 2, some 3, some 4, some 5, some 6, some 1] ?_))
    repeat' first | refine And.intro ?_ ?_ | exact rfl | exact trivial
  rintro ⟨⟩ _
  have hf0 : (⟨(layArgs c args).regs, (layArgs c args).cells, 0, false⟩ : Fr).at_ = 0 ∧ (⟨(layArgs c args).regs, (layArgs c args).cells, 0, false⟩ : Fr).over = false := ⟨rfl, rfl⟩
  generalize (layArgs c args).cell = cell at hfin hcell ⊢
  generalize (⟨(layArgs c args).regs, (layArgs c args).cells, 0, false⟩ : Fr) = f0 at hfin hgood hf0 ⊢
  clear hlay hce hd hin hbegin
  refine Tri.of tabOk2 (by kernel_rfl) ?_
  refine loop_rule (X := Nat × Fr × Rn) tabOk2 (by kernel_rfl) (fun q => q.2.2.left + 2 ≤ q.1 ∧ Good c q.2.1 ∧ q.2.1.over = false ∧ q.2.2.went.length + q.2.2.left ≤ 1000000 ∧ y = loopR call c cell q.1 q.2.1 q.2.2)
    (fun q => ([(0, .ptr 0 0), (3, lt' .i64 deep), (5, .ptr 4 0), (8, .pv (pu32 0)), (9, .nil), (10, .own 5), (11, .own 6), (12, lt' .i64 cell), (13, lt' .i64 q.2.1.at_)], HD l r s c q.2.1 q.2.2)) (fun q => q.1) (r.left + 2, f0, r) (And.intro (Nat.le_refl _) (And.intro hgood (And.intro hf0.2 (And.intro hwent hfin))))
    (@Exists.intro Ren _ [some 0, some 1, some 2, some 3, some 4, some 5, some 6, some 7] ?_) ?_
  · repeat' first | refine And.intro ?_ ?_ | exact rfl | exact trivial | exact mt_int hf0.1.symm
  rintro ⟨n, f, r'⟩ ⟨hn, hg, hov, hwl, hy⟩
  dsimp only at hn hg hov hwl hy ⊢
  clear hf0 hfin hgood
  obtain ⟨n, rfl⟩ : ∃ n', n = n' + 1 := ⟨n - 1, by omega⟩
  rw [loopR] at hy
  by_cases hwr : r'.wrong = 0
  case neg =>
    rw [if_pos hwr] at hy
    have hwb : (r'.wrong == 0) = false := beq_eq_false_iff_ne.2 hwr
    subst hy
    repeat' first
      | refine And.intro ?_ ?_
      | (intro hb; first | exact Bool.noConfusion hb | (rw [hwb] at hb; exact Bool.noConfusion hb) | clear hb)
    all_goals try refine @Exists.intro Ren _ [some 0, some 1, some 7, none] (Exists.intro [2, 3] ?_)
    all_goals repeat' first | refine And.intro ?_ ?_ | exact rfl | exact trivial | decide
  rw [if_neg (by simpa using hwr), if_neg (by rw [hov]; decide)] at hy
  have hwb : (r'.wrong == 0) = true := beq_iff_eq.2 hwr
  by_cases hl0 : r'.left = 0
  · rw [if_pos hl0] at hy
    subst hy
    have hlb : ((r'.left : Int) == 0) = true := by rw [hl0]; rfl
    repeat' first
      | refine And.intro ?_ ?_
      | (intro hb; first | exact Bool.noConfusion hb | (rw [hwb] at hb; exact Bool.noConfusion hb) | (rw [hlb] at hb; exact Bool.noConfusion hb) | clear hb)
    all_goals try refine @Exists.intro Ren _ [some 0, some 1, some 7, none] (Exists.intro [2, 3] ?_)
    all_goals repeat' first | refine And.intro ?_ ?_ | exact rfl | exact trivial | decide
  rw [if_neg hl0] at hy
  have hlb : ((r'.left : Int) == 0) = false := by rw [beq_eq_false_iff_ne]; omega
  obtain ⟨p0, p1⟩ := hg.place hov
  have hi : f.at_.toNat < c.l.length := by omega
  have hlen := hf.len
  have hxn := Fine.x0 hw hi
  have hx := hf.ir _ hi
  have hsg := step_good hw hf hcall hg hov (r := { r' with left := r'.left - 1 }) hwr
  have hrl := hg.regsL hov
  have hcl := hg.cellsL
  have ew : IntKind.i64.wrap (f.at_ + 1) = f.at_ + 1 := wrap_succ' p0 (by omega)
  have el : IntKind.i64.wrap ((r'.left : Int) - 1) = ((r'.left - 1 : Nat) : Int) := by rw [wrap_small (by omega) (by omega)]; omega
  have hA : (c.l.getD f.at_.toNat dIr).kind = 2 ∨ (c.l.getD f.at_.toNat dIr).kind = 6 ∨ (c.l.getD f.at_.toNat dIr).kind = 9 ∨ (c.l.getD f.at_.toNat dIr).kind = 10 → 0 ≤ (c.l.getD f.at_.toNat dIr).a ∧ (c.l.getD f.at_.toNat dIr).a < f.regs.length := fun h => by
    have := hx.reads (c.l.getD f.at_.toNat dIr).a (by unfold reads; rcases h with h | h | h | h <;> rw [h] <;> simp)
    omega
  have hD : Vx.writes (c.l.getD f.at_.toNat dIr) = true → 0 ≤ (c.l.getD f.at_.toNat dIr).d ∧ (c.l.getD f.at_.toNat dIr).d < f.regs.length := fun h => by have := hx.writes h; omega
  have hwr7 : ∀ m, (c.l.getD f.at_.toNat dIr).kind = m → (1 ≤ m ∧ m ≤ 5 ∨ m = 7) → Vx.writes (c.l.getD f.at_.toNat dIr) = true := fun m e h => by
    unfold Vx.writes
    rw [e, Bool.or_eq_true, Bool.and_eq_true, decide_eq_true_eq, decide_eq_true_eq, beq_iff_eq]
    omega
  have hk1 := hx.kind
  by_cases e1 : (c.l.getD f.at_.toNat dIr).kind = 1
  · clear hk1
    have hd1 := hD (hwr7 1 e1 (by omega))
    have es : stepF call (c.l.getD f.at_.toNat dIr) { f with at_ := f.at_ + 1 } { r' with left := r'.left - 1 } = ({ f with regs := f.regs.set (c.l.getD f.at_.toNat dIr).d.toNat (c.l.getD f.at_.toNat dIr).n, at_ := f.at_ + 1 }, { r' with left := r'.left - 1 }) := stepF_1 e1
    rw [es] at hy hsg
    have hle1 := hsg.2.left
    have hle2 := hsg.2.went
    dsimp only at hy hle1 hle2
    repeat' first
      | refine And.intro ?_ ?_
      | (intro hb; first | exact Bool.noConfusion hb | (rw [hwb] at hb; exact Bool.noConfusion hb) | (rw [hlb] at hb; exact Bool.noConfusion hb) | (rw [e1] at hb; exact Bool.noConfusion hb) | clear hb)
      | refine draw_lex tabOk2 mixed false false (by kernel_rfl) ?_
      | refine @Exists.intro (List AV) _ [.pv (pu32 (c.l.getD f.at_.toNat dIr).n)] (And.intro (And.intro (Or.inl rfl) trivial) (@Exists.intro Int _ (c.l.getD f.at_.toNat dIr).n (And.intro rfl ?_)))
    all_goals try refine @Exists.intro (Nat × Fr × Rn) _ (n, { f with regs := f.regs.set (c.l.getD f.at_.toNat dIr).d.toNat (c.l.getD f.at_.toNat dIr).n, at_ := f.at_ + 1 }, { r' with left := r'.left - 1 }) (And.intro (Nat.lt_succ_self n) (And.intro (And.intro (show r'.left - 1 + 2 ≤ n by omega) (And.intro hsg.1 (And.intro hov (And.intro (show r'.went.length + (r'.left - 1) ≤ 1000000 by omega) hy)))) (@Exists.intro Ren _ [some 0, some 1, some 2, some 3, some 4, some 5, some 6, some 7] ?_)))
    all_goals repeat' first
      | refine And.intro ?_ ?_
      | exact p0
      | exact p1
      | exact rfl
      | exact trivial
      | exact mt_int ew
      | exact mt_int el
    all_goals first | omega | (show (c.l.getD f.at_.toNat dIr).d.toNat < f.regs.length; omega) | (show (c.l.getD f.at_.toNat dIr).n.toNat < f.cells.length; omega) | (show (r'.went.length + 1) * 8 ≤ 140737488355328; omega)
  by_cases e2 : (c.l.getD f.at_.toNat dIr).kind = 2
  · clear hk1
    have hd1 := hD (hwr7 2 e2 (by omega))
    have ha1 := hA (by omega)
    have es : stepF call (c.l.getD f.at_.toNat dIr) { f with at_ := f.at_ + 1 } { r' with left := r'.left - 1 } = ({ f with regs := f.regs.set (c.l.getD f.at_.toNat dIr).d.toNat (f.regs.getD (c.l.getD f.at_.toNat dIr).a.toNat 0), at_ := f.at_ + 1 }, { r' with left := r'.left - 1 }) := stepF_2 e2
    rw [es] at hy hsg
    have hle1 := hsg.2.left
    have hle2 := hsg.2.went
    dsimp only at hy hle1 hle2
    repeat' first
      | refine And.intro ?_ ?_
      | (intro hb; first | exact Bool.noConfusion hb | (rw [hwb] at hb; exact Bool.noConfusion hb) | (rw [hlb] at hb; exact Bool.noConfusion hb) | (rw [e2] at hb; exact Bool.noConfusion hb) | clear hb)
      | refine draw_lex tabOk2 mixed false false (by kernel_rfl) ?_
      | refine @Exists.intro (List AV) _ [.pv (pu32 (f.regs.getD (c.l.getD f.at_.toNat dIr).a.toNat 0))] (And.intro (And.intro (Or.inl rfl) trivial) (@Exists.intro Int _ (f.regs.getD (c.l.getD f.at_.toNat dIr).a.toNat 0) (And.intro rfl ?_)))
    all_goals try refine @Exists.intro (Nat × Fr × Rn) _ (n, { f with regs := f.regs.set (c.l.getD f.at_.toNat dIr).d.toNat (f.regs.getD (c.l.getD f.at_.toNat dIr).a.toNat 0), at_ := f.at_ + 1 }, { r' with left := r'.left - 1 }) (And.intro (Nat.lt_succ_self n) (And.intro (And.intro (show r'.left - 1 + 2 ≤ n by omega) (And.intro hsg.1 (And.intro hov (And.intro (show r'.went.length + (r'.left - 1) ≤ 1000000 by omega) hy)))) (@Exists.intro Ren _ [some 0, some 1, some 2, some 3, some 4, some 5, some 6, some 7] ?_)))
    all_goals repeat' first
      | refine And.intro ?_ ?_
      | exact p0
      | exact p1
      | exact rfl
      | exact trivial
      | exact mt_int ew
      | exact mt_int el
    all_goals first | omega | (show (c.l.getD f.at_.toNat dIr).d.toNat < f.regs.length; omega) | (show (c.l.getD f.at_.toNat dIr).n.toNat < f.cells.length; omega) | (show (r'.went.length + 1) * 8 ≤ 140737488355328; omega)
  by_cases e3 : (c.l.getD f.at_.toNat dIr).kind = 3
  · clear hk1
    have hd1 := hD (hwr7 3 e3 (by omega))
    have hrk : reads (c.l.getD f.at_.toNat dIr) = [(c.l.getD f.at_.toNat dIr).a, (c.l.getD f.at_.toNat dIr).b] := by unfold reads; rw [e3]; rfl
    have hra := hx.reads (c.l.getD f.at_.toNat dIr).a (by rw [hrk]; simp)
    have hrb := hx.reads (c.l.getD f.at_.toNat dIr).b (by rw [hrk]; simp)
    have hua : U (f.regs.getD (c.l.getD f.at_.toNat dIr).a.toNat 0) := getD_nonneg hg.regs0 _
    have hub : U (f.regs.getD (c.l.getD f.at_.toNat dIr).b.toNat 0) := getD_nonneg hg.regs0 _
    have es : stepF call (c.l.getD f.at_.toNat dIr) { f with at_ := f.at_ + 1 } { r' with left := r'.left - 1 } = ({ f with regs := f.regs.set (c.l.getD f.at_.toNat dIr).d.toNat (opv (c.l.getD f.at_.toNat dIr).op (f.regs.getD (c.l.getD f.at_.toNat dIr).a.toNat 0) (f.regs.getD (c.l.getD f.at_.toNat dIr).b.toNat 0)).1, at_ := f.at_ + 1 }, { r' with left := r'.left - 1 }) := stepF_3 e3
    rw [es] at hy hsg
    have hle1 := hsg.2.left
    have hle2 := hsg.2.went
    dsimp only at hy hle1 hle2
    repeat' first
      | refine And.intro ?_ ?_
      | (intro hb; first | exact Bool.noConfusion hb | (rw [hwb] at hb; exact Bool.noConfusion hb) | (rw [hlb] at hb; exact Bool.noConfusion hb) | (rw [e3] at hb; exact Bool.noConfusion hb) | clear hb)
      | refine draw_lex tabOk2 mixed false false (by kernel_rfl) ?_
      | refine Or.inl (Exists.intro [.pv (pint (c.l.getD f.at_.toNat dIr).op), .pv (pu32 (f.regs.getD (c.l.getD f.at_.toNat dIr).a.toNat 0)), .pv (pu32 (f.regs.getD (c.l.getD f.at_.toNat dIr).b.toNat 0))] (Exists.intro _ (And.intro (And.intro rfl (And.intro rfl (And.intro rfl trivial))) (And.intro (ref_op _ _ _ hua.1 hua.2 hub.1 hub.2) ?_))))
      | refine @Exists.intro (List AV) _ [.pv (pu32 (opv (c.l.getD f.at_.toNat dIr).op (f.regs.getD (c.l.getD f.at_.toNat dIr).a.toNat 0) (f.regs.getD (c.l.getD f.at_.toNat dIr).b.toNat 0)).1)] (And.intro (And.intro (Or.inl rfl) trivial) (@Exists.intro Int _ (opv (c.l.getD f.at_.toNat dIr).op (f.regs.getD (c.l.getD f.at_.toNat dIr).a.toNat 0) (f.regs.getD (c.l.getD f.at_.toNat dIr).b.toNat 0)).1 (And.intro rfl ?_)))
    all_goals try refine @Exists.intro (Nat × Fr × Rn) _ (n, { f with regs := f.regs.set (c.l.getD f.at_.toNat dIr).d.toNat (opv (c.l.getD f.at_.toNat dIr).op (f.regs.getD (c.l.getD f.at_.toNat dIr).a.toNat 0) (f.regs.getD (c.l.getD f.at_.toNat dIr).b.toNat 0)).1, at_ := f.at_ + 1 }, { r' with left := r'.left - 1 }) (And.intro (Nat.lt_succ_self n) (And.intro (And.intro (show r'.left - 1 + 2 ≤ n by omega) (And.intro hsg.1 (And.intro hov (And.intro (show r'.went.length + (r'.left - 1) ≤ 1000000 by omega) hy)))) (@Exists.intro Ren _ [some 0, some 1, some 2, some 3, some 4, some 5, some 6, some 7] ?_)))
    all_goals repeat' first
      | refine And.intro ?_ ?_
      | exact p0
      | exact p1
      | exact rfl
      | exact trivial
      | exact mt_int ew
      | exact mt_int el
    all_goals first | omega | (show (c.l.getD f.at_.toNat dIr).d.toNat < f.regs.length; omega) | (show (c.l.getD f.at_.toNat dIr).n.toNat < f.cells.length; omega) | (show (r'.went.length + 1) * 8 ≤ 140737488355328; omega)
  by_cases e4 : (c.l.getD f.at_.toNat dIr).kind = 4
  · clear hk1
    have hd1 := hD (hwr7 4 e4 (by omega))
    have hrk : reads (c.l.getD f.at_.toNat dIr) = [(c.l.getD f.at_.toNat dIr).a, (c.l.getD f.at_.toNat dIr).b, (c.l.getD f.at_.toNat dIr).c] := by unfold reads; rw [e4]; rfl
    have hra := hx.reads (c.l.getD f.at_.toNat dIr).a (by rw [hrk]; simp)
    have hrb := hx.reads (c.l.getD f.at_.toNat dIr).b (by rw [hrk]; simp)
    have hrc := hx.reads (c.l.getD f.at_.toNat dIr).c (by rw [hrk]; simp)
    have es : stepF call (c.l.getD f.at_.toNat dIr) { f with at_ := f.at_ + 1 } { r' with left := r'.left - 1 } = ({ f with regs := f.regs.set (c.l.getD f.at_.toNat dIr).d.toNat (bif (f.regs.getD (c.l.getD f.at_.toNat dIr).a.toNat 0) == 0 then (f.regs.getD (c.l.getD f.at_.toNat dIr).c.toNat 0) else (f.regs.getD (c.l.getD f.at_.toNat dIr).b.toNat 0)), at_ := f.at_ + 1 }, { r' with left := r'.left - 1 }) := stepF_4 e4
    rw [es] at hy hsg
    have hle1 := hsg.2.left
    have hle2 := hsg.2.went
    dsimp only at hy hle1 hle2
    cases hz : (f.regs.getD (c.l.getD f.at_.toNat dIr).a.toNat 0) == 0 <;> rw [hz] at hy hsg <;> simp only [cond_true, cond_false] at hy hsg
    · repeat' first
        | refine And.intro ?_ ?_
        | (intro hb; first
            | exact Bool.noConfusion hb | (rw [hwb] at hb; exact Bool.noConfusion hb) | (rw [hlb] at hb; exact Bool.noConfusion hb) | (rw [e4] at hb; exact Bool.noConfusion hb)
            | (have h9 : (!((f.regs.getD (c.l.getD f.at_.toNat dIr).a.toNat 0) == 0)) = true := hb
               rw [hz] at h9; exact Bool.noConfusion h9)
            | (have h9 : (!((f.regs.getD (c.l.getD f.at_.toNat dIr).a.toNat 0) == 0)) = false := hb
               rw [hz] at h9; exact Bool.noConfusion h9)
            | clear hb)
        | refine @Exists.intro (List AV) _ [.pv (pu32 (f.regs.getD (c.l.getD f.at_.toNat dIr).b.toNat 0))] (And.intro (And.intro (Or.inl rfl) trivial) (@Exists.intro Int _ (f.regs.getD (c.l.getD f.at_.toNat dIr).b.toNat 0) (And.intro rfl ?_)))
      all_goals try refine @Exists.intro (Nat × Fr × Rn) _ (n, { f with regs := f.regs.set (c.l.getD f.at_.toNat dIr).d.toNat (f.regs.getD (c.l.getD f.at_.toNat dIr).b.toNat 0), at_ := f.at_ + 1 }, { r' with left := r'.left - 1 }) (And.intro (Nat.lt_succ_self n) (And.intro (And.intro (show r'.left - 1 + 2 ≤ n by omega) (And.intro hsg.1 (And.intro hov (And.intro (show r'.went.length + (r'.left - 1) ≤ 1000000 by omega) hy)))) (@Exists.intro Ren _ [some 0, some 1, some 2, some 3, some 4, some 5, some 6, some 7] ?_)))
      all_goals repeat' first
        | refine And.intro ?_ ?_
        | exact p0
        | exact p1
        | exact rfl
        | exact trivial
        | exact mt_int ew
        | exact mt_int el
      all_goals first | omega | (show (c.l.getD f.at_.toNat dIr).d.toNat < f.regs.length; omega)
    · repeat' first
        | refine And.intro ?_ ?_
        | (intro hb; first
            | exact Bool.noConfusion hb | (rw [hwb] at hb; exact Bool.noConfusion hb) | (rw [hlb] at hb; exact Bool.noConfusion hb) | (rw [e4] at hb; exact Bool.noConfusion hb)
            | (have h9 : (!((f.regs.getD (c.l.getD f.at_.toNat dIr).a.toNat 0) == 0)) = true := hb
               rw [hz] at h9; exact Bool.noConfusion h9)
            | (have h9 : (!((f.regs.getD (c.l.getD f.at_.toNat dIr).a.toNat 0) == 0)) = false := hb
               rw [hz] at h9; exact Bool.noConfusion h9)
            | clear hb)
        | refine @Exists.intro (List AV) _ [.pv (pu32 (f.regs.getD (c.l.getD f.at_.toNat dIr).c.toNat 0))] (And.intro (And.intro (Or.inl rfl) trivial) (@Exists.intro Int _ (f.regs.getD (c.l.getD f.at_.toNat dIr).c.toNat 0) (And.intro rfl ?_)))
      all_goals try refine @Exists.intro (Nat × Fr × Rn) _ (n, { f with regs := f.regs.set (c.l.getD f.at_.toNat dIr).d.toNat (f.regs.getD (c.l.getD f.at_.toNat dIr).c.toNat 0), at_ := f.at_ + 1 }, { r' with left := r'.left - 1 }) (And.intro (Nat.lt_succ_self n) (And.intro (And.intro (show r'.left - 1 + 2 ≤ n by omega) (And.intro hsg.1 (And.intro hov (And.intro (show r'.went.length + (r'.left - 1) ≤ 1000000 by omega) hy)))) (@Exists.intro Ren _ [some 0, some 1, some 2, some 3, some 4, some 5, some 6, some 7] ?_)))
      all_goals repeat' first
        | refine And.intro ?_ ?_
        | exact p0
        | exact p1
        | exact rfl
        | exact trivial
        | exact mt_int ew
        | exact mt_int el
      all_goals first | omega | (show (c.l.getD f.at_.toNat dIr).d.toNat < f.regs.length; omega)
  by_cases e5 : (c.l.getD f.at_.toNat dIr).kind = 5
  · clear hk1
    have hd1 := hD (hwr7 5 e5 (by omega))
    have had := hx.addr (Or.inl e5)
    have hn0 := hxn.1
    have es : stepF call (c.l.getD f.at_.toNat dIr) { f with at_ := f.at_ + 1 } { r' with left := r'.left - 1 } = ({ f with regs := f.regs.set (c.l.getD f.at_.toNat dIr).d.toNat (f.cells.getD (c.l.getD f.at_.toNat dIr).n.toNat 0), at_ := f.at_ + 1 }, { r' with left := r'.left - 1 }) := stepF_5 e5
    rw [es] at hy hsg
    have hle1 := hsg.2.left
    have hle2 := hsg.2.went
    dsimp only at hy hle1 hle2
    repeat' first
      | refine And.intro ?_ ?_
      | (intro hb; first | exact Bool.noConfusion hb | (rw [hwb] at hb; exact Bool.noConfusion hb) | (rw [hlb] at hb; exact Bool.noConfusion hb) | (rw [e5] at hb; exact Bool.noConfusion hb) | clear hb)
      | refine draw_lex tabOk2 mixed false false (by kernel_rfl) ?_
      | refine @Exists.intro (List AV) _ [.pv (pu32 (f.cells.getD (c.l.getD f.at_.toNat dIr).n.toNat 0))] (And.intro (And.intro (Or.inl rfl) trivial) (@Exists.intro Int _ (f.cells.getD (c.l.getD f.at_.toNat dIr).n.toNat 0) (And.intro rfl ?_)))
    all_goals try refine @Exists.intro (Nat × Fr × Rn) _ (n, { f with regs := f.regs.set (c.l.getD f.at_.toNat dIr).d.toNat (f.cells.getD (c.l.getD f.at_.toNat dIr).n.toNat 0), at_ := f.at_ + 1 }, { r' with left := r'.left - 1 }) (And.intro (Nat.lt_succ_self n) (And.intro (And.intro (show r'.left - 1 + 2 ≤ n by omega) (And.intro hsg.1 (And.intro hov (And.intro (show r'.went.length + (r'.left - 1) ≤ 1000000 by omega) hy)))) (@Exists.intro Ren _ [some 0, some 1, some 2, some 3, some 4, some 5, some 6, some 7] ?_)))
    all_goals repeat' first
      | refine And.intro ?_ ?_
      | exact p0
      | exact p1
      | exact rfl
      | exact trivial
      | exact mt_int ew
      | exact mt_int el
    all_goals first | omega | (show (c.l.getD f.at_.toNat dIr).d.toNat < f.regs.length; omega) | (show (c.l.getD f.at_.toNat dIr).n.toNat < f.cells.length; omega) | (show (r'.went.length + 1) * 8 ≤ 140737488355328; omega)
  by_cases e6 : (c.l.getD f.at_.toNat dIr).kind = 6
  · clear hk1
    have had := hx.addr (Or.inr e6)
    have hn0 := hxn.1
    have ha1 := hA (by omega)
    have es : stepF call (c.l.getD f.at_.toNat dIr) { f with at_ := f.at_ + 1 } { r' with left := r'.left - 1 } = ({ f with cells := f.cells.set (c.l.getD f.at_.toNat dIr).n.toNat (f.regs.getD (c.l.getD f.at_.toNat dIr).a.toNat 0), at_ := f.at_ + 1 }, { r' with left := r'.left - 1 }) := stepF_6 e6
    rw [es] at hy hsg
    have hle1 := hsg.2.left
    have hle2 := hsg.2.went
    dsimp only at hy hle1 hle2
    repeat' first
      | refine And.intro ?_ ?_
      | (intro hb; first | exact Bool.noConfusion hb | (rw [hwb] at hb; exact Bool.noConfusion hb) | (rw [hlb] at hb; exact Bool.noConfusion hb) | (rw [e6] at hb; exact Bool.noConfusion hb) | clear hb)
      | refine draw_lex tabOk2 mixed false false (by kernel_rfl) ?_
      | refine @Exists.intro (List AV) _ [.pv (pu32 (f.regs.getD (c.l.getD f.at_.toNat dIr).a.toNat 0))] (And.intro (And.intro (Or.inl rfl) trivial) (@Exists.intro Int _ (f.regs.getD (c.l.getD f.at_.toNat dIr).a.toNat 0) (And.intro rfl ?_)))
    all_goals try refine @Exists.intro (Nat × Fr × Rn) _ (n, { f with cells := f.cells.set (c.l.getD f.at_.toNat dIr).n.toNat (f.regs.getD (c.l.getD f.at_.toNat dIr).a.toNat 0), at_ := f.at_ + 1 }, { r' with left := r'.left - 1 }) (And.intro (Nat.lt_succ_self n) (And.intro (And.intro (show r'.left - 1 + 2 ≤ n by omega) (And.intro hsg.1 (And.intro hov (And.intro (show r'.went.length + (r'.left - 1) ≤ 1000000 by omega) hy)))) (@Exists.intro Ren _ [some 0, some 1, some 2, some 3, some 4, some 5, some 6, some 7] ?_)))
    all_goals repeat' first
      | refine And.intro ?_ ?_
      | exact p0
      | exact p1
      | exact rfl
      | exact trivial
      | exact mt_int ew
      | exact mt_int el
    all_goals first | omega | (show (c.l.getD f.at_.toNat dIr).d.toNat < f.regs.length; omega) | (show (c.l.getD f.at_.toNat dIr).n.toNat < f.cells.length; omega) | (show (r'.went.length + 1) * 8 ≤ 140737488355328; omega)
  by_cases e7 : (c.l.getD f.at_.toNat dIr).kind = 7
  · clear hk1
    have hd1 := hD (hwr7 7 e7 (by omega))
    have hrk : reads (c.l.getD f.at_.toNat dIr) = (c.l.getD f.at_.toNat dIr).args := by unfold reads; rw [e7]; rfl
    have hargs : ∀ a ∈ (c.l.getD f.at_.toNat dIr).args, 0 ≤ a ∧ a < f.regs.length := fun a ha => by have := hx.reads a (by rw [hrk]; exact ha); omega
    have hcd := hdo (c.l.getD f.at_.toNat dIr) f.regs hargs (hx.args e7) hg.regs0 { r' with left := r'.left - 1 } hwr (show r'.went.length + (r'.left - 1) ≤ 1000000 by omega)
    have hco := hcall (c.l.getD f.at_.toNat dIr) f.regs { r' with left := r'.left - 1 } hwr hg.regs0
    have es : stepF call (c.l.getD f.at_.toNat dIr) { f with at_ := f.at_ + 1 } { r' with left := r'.left - 1 } = (match (call (c.l.getD f.at_.toNat dIr) f.regs { r' with left := r'.left - 1 }).1 with
      | none => { f with at_ := f.at_ + 1 }
      | some v => { f with regs := f.regs.set (c.l.getD f.at_.toNat dIr).d.toNat v, at_ := f.at_ + 1 }, (call (c.l.getD f.at_.toNat dIr) f.regs { r' with left := r'.left - 1 }).2) := stepF_7 e7
    rw [es] at hy hsg
    have hle1 := hsg.2.left
    have hle2 := hsg.2.went
    dsimp only at hy hle1 hle2
    have hy7 : y = loopR call c cell n { f with regs := f.regs.set (c.l.getD f.at_.toNat dIr).d.toNat ((call (c.l.getD f.at_.toNat dIr) f.regs { r' with left := r'.left - 1 }).1.getD 0), at_ := f.at_ + 1 } (call (c.l.getD f.at_.toNat dIr) f.regs { r' with left := r'.left - 1 }).2 ∧ Good c { f with regs := f.regs.set (c.l.getD f.at_.toNat dIr).d.toNat ((call (c.l.getD f.at_.toNat dIr) f.regs { r' with left := r'.left - 1 }).1.getD 0), at_ := f.at_ + 1 } := by
      cases ho : (call (c.l.getD f.at_.toNat dIr) f.regs { r' with left := r'.left - 1 }).1 with
      | none =>
        rw [ho] at hy hsg
        have hbad := hco.2.2 ho
        obtain ⟨n, rfl⟩ : ∃ n', n = n' + 1 := ⟨n - 1, by omega⟩
        rw [loopR, if_pos hbad] at hy
        refine ⟨by rw [loopR, if_pos hbad]; exact hy, (Good.reg hsg.1 true hov U.zero)⟩
      | some v =>
        rw [ho] at hy hsg
        exact ⟨hy, hsg.1⟩
    clear hy hsg hco es
    obtain ⟨hy, hgd⟩ := hy7
    generalize (call (c.l.getD f.at_.toNat dIr) f.regs { r' with left := r'.left - 1 }) = w at hcd hy hgd hle1 hle2
    obtain ⟨o, r2⟩ := w
    dsimp only at hcd hy hgd hle1 hle2
    generalize o.getD 0 = v7 at hcd hy hgd
    repeat' first
      | refine And.intro ?_ ?_
      | (intro hb; first | exact Bool.noConfusion hb | (rw [hwb] at hb; exact Bool.noConfusion hb) | (rw [hlb] at hb; exact Bool.noConfusion hb) | (rw [e7] at hb; exact Bool.noConfusion hb) | clear hb)
      | refine Or.inr (Or.inl (ImpStep.mk' [some 0, some 7, some 5] hcd rfl ?_ ?_ ?_))
      | refine @Exists.intro (List AV) _ [.pv (pu32 v7)] (And.intro (And.intro (Or.inl rfl) trivial) (@Exists.intro Int _ v7 (And.intro rfl ?_)))
    all_goals try refine @Exists.intro (Nat × Fr × Rn) _ (n, { f with regs := f.regs.set (c.l.getD f.at_.toNat dIr).d.toNat v7, at_ := f.at_ + 1 }, r2) (And.intro (Nat.lt_succ_self n) (And.intro (And.intro (show r2.left + 2 ≤ n by omega) (And.intro hgd (And.intro hov (And.intro (show r2.went.length + r2.left ≤ 1000000 by omega) hy)))) (@Exists.intro Ren _ [some 0, some 1, some 2, some 3, some 4, some 5, some 6, some 9] ?_)))
    all_goals repeat' first
      | refine And.intro ?_ ?_
      | exact p0
      | exact p1
      | exact rfl
      | exact trivial
      | exact mt_int ew
      | exact mt_int el
      | (intro p hp; obtain ⟨q', _, e'⟩ := List.mem_map.1 hp; exact Exists.intro q' e'.symm)
    all_goals first | omega | (show (c.l.getD f.at_.toNat dIr).d.toNat < f.regs.length; omega)
  by_cases e8 : (c.l.getD f.at_.toNat dIr).kind = 8
  · clear hk1
    have es : stepF call (c.l.getD f.at_.toNat dIr) { f with at_ := f.at_ + 1 } { r' with left := r'.left - 1 } = ({ f with at_ := (c.l.getD f.at_.toNat dIr).c }, { r' with left := r'.left - 1 }) := stepF_8 e8
    rw [es] at hy hsg
    have hle1 := hsg.2.left
    have hle2 := hsg.2.went
    dsimp only at hy hle1 hle2
    repeat' first
      | refine And.intro ?_ ?_
      | (intro hb; first | exact Bool.noConfusion hb | (rw [hwb] at hb; exact Bool.noConfusion hb) | (rw [hlb] at hb; exact Bool.noConfusion hb) | (rw [e8] at hb; exact Bool.noConfusion hb) | clear hb)
      | refine draw_lex tabOk2 mixed false false (by kernel_rfl) ?_
    all_goals try refine @Exists.intro (Nat × Fr × Rn) _ (n, { f with at_ := (c.l.getD f.at_.toNat dIr).c }, { r' with left := r'.left - 1 }) (And.intro (Nat.lt_succ_self n) (And.intro (And.intro (show r'.left - 1 + 2 ≤ n by omega) (And.intro hsg.1 (And.intro hov (And.intro (show r'.went.length + (r'.left - 1) ≤ 1000000 by omega) hy)))) (@Exists.intro Ren _ [some 0, some 1, some 2, some 3, some 4, some 5, some 6, some 7] ?_)))
    all_goals repeat' first
      | refine And.intro ?_ ?_
      | exact p0
      | exact p1
      | exact rfl
      | exact trivial
      | exact mt_int ew
      | exact mt_int el
    all_goals first | omega | (show (c.l.getD f.at_.toNat dIr).d.toNat < f.regs.length; omega) | (show (c.l.getD f.at_.toNat dIr).n.toNat < f.cells.length; omega) | (show (r'.went.length + 1) * 8 ≤ 140737488355328; omega)
  by_cases e9 : (c.l.getD f.at_.toNat dIr).kind = 9
  · clear hk1
    have ha1 := hA (by omega)
    have es : stepF call (c.l.getD f.at_.toNat dIr) { f with at_ := f.at_ + 1 } { r' with left := r'.left - 1 } = ({ f with at_ := bif (f.regs.getD (c.l.getD f.at_.toNat dIr).a.toNat 0) == 0 then (c.l.getD f.at_.toNat dIr).c else f.at_ + 1 }, { { r' with left := r'.left - 1 } with went := r'.went ++ [bif (f.regs.getD (c.l.getD f.at_.toNat dIr).a.toNat 0) == 0 then 0 else 1] }) := stepF_9 e9
    rw [es] at hy hsg
    have hle1 := hsg.2.left
    have hle2 := hsg.2.went
    dsimp only at hy hle1 hle2
    cases hz : (f.regs.getD (c.l.getD f.at_.toNat dIr).a.toNat 0) == 0 <;> rw [hz] at hy hsg <;> simp only [cond_true, cond_false] at hy hsg
    · repeat' first
        | refine And.intro ?_ ?_
        | (intro hb; first
            | exact Bool.noConfusion hb | (rw [hwb] at hb; exact Bool.noConfusion hb) | (rw [hlb] at hb; exact Bool.noConfusion hb) | (rw [e9] at hb; exact Bool.noConfusion hb)
            | (have h9 : ((f.regs.getD (c.l.getD f.at_.toNat dIr).a.toNat 0) == 0) = true := hb
               rw [hz] at h9; exact Bool.noConfusion h9)
            | (have h9 : ((f.regs.getD (c.l.getD f.at_.toNat dIr).a.toNat 0) == 0) = false := hb
               rw [hz] at h9; exact Bool.noConfusion h9)
            | clear hb)
        | refine @Exists.intro (List Int) _ [1] (And.intro rfl (And.intro (And.intro (And.intro rfl trivial) trivial) ?_))
        | refine @Exists.intro (List Int) _ _ (And.intro rfl ?_)
      all_goals try refine @Exists.intro (Nat × Fr × Rn) _ (n, { f with at_ := f.at_ + 1 }, { { r' with left := r'.left - 1 } with went := r'.went ++ [1] }) (And.intro (Nat.lt_succ_self n) (And.intro (And.intro (show r'.left - 1 + 2 ≤ n by omega) (And.intro hsg.1 (And.intro hov (And.intro (show (r'.went ++ [1]).length + (r'.left - 1) ≤ 1000000 by rw [List.length_append, List.length_singleton]; omega) hy)))) (@Exists.intro Ren _ [some 0, some 1, some 2, some 3, some 4, some 5, some 6, some 10] ?_)))
      all_goals repeat' first
        | refine And.intro ?_ ?_
        | exact p0
        | exact p1
        | exact rfl
        | exact trivial
        | exact mt_int ew
        | exact mt_int el
      all_goals first | omega | (show (r'.went.length + 1) * 8 ≤ 140737488355328; omega) | (show (c.l.getD f.at_.toNat dIr).a.toNat < f.regs.length; omega)
    · repeat' first
        | refine And.intro ?_ ?_
        | (intro hb; first
            | exact Bool.noConfusion hb | (rw [hwb] at hb; exact Bool.noConfusion hb) | (rw [hlb] at hb; exact Bool.noConfusion hb) | (rw [e9] at hb; exact Bool.noConfusion hb)
            | (have h9 : ((f.regs.getD (c.l.getD f.at_.toNat dIr).a.toNat 0) == 0) = true := hb
               rw [hz] at h9; exact Bool.noConfusion h9)
            | (have h9 : ((f.regs.getD (c.l.getD f.at_.toNat dIr).a.toNat 0) == 0) = false := hb
               rw [hz] at h9; exact Bool.noConfusion h9)
            | clear hb)
        | refine @Exists.intro (List Int) _ [0] (And.intro rfl (And.intro (And.intro (And.intro rfl trivial) trivial) ?_))
        | refine @Exists.intro (List Int) _ _ (And.intro rfl ?_)
      all_goals try refine @Exists.intro (Nat × Fr × Rn) _ (n, { f with at_ := (c.l.getD f.at_.toNat dIr).c }, { { r' with left := r'.left - 1 } with went := r'.went ++ [0] }) (And.intro (Nat.lt_succ_self n) (And.intro (And.intro (show r'.left - 1 + 2 ≤ n by omega) (And.intro hsg.1 (And.intro hov (And.intro (show (r'.went ++ [0]).length + (r'.left - 1) ≤ 1000000 by rw [List.length_append, List.length_singleton]; omega) hy)))) (@Exists.intro Ren _ [some 0, some 1, some 2, some 3, some 4, some 5, some 6, some 10] ?_)))
      all_goals repeat' first
        | refine And.intro ?_ ?_
        | exact p0
        | exact p1
        | exact rfl
        | exact trivial
        | exact mt_int ew
        | exact mt_int el
      all_goals first | omega | (show (r'.went.length + 1) * 8 ≤ 140737488355328; omega) | (show (c.l.getD f.at_.toNat dIr).a.toNat < f.regs.length; omega)
  have e10 : (c.l.getD f.at_.toNat dIr).kind = 10 := by omega
  have ha1 := hA (by omega)
  have es : stepF call (c.l.getD f.at_.toNat dIr) { f with at_ := f.at_ + 1 } { r' with left := r'.left - 1 } = ({ { f with at_ := f.at_ + 1 } with regs := [(f.regs.getD (c.l.getD f.at_.toNat dIr).a.toNat 0)], over := true }, { r' with left := r'.left - 1 }) := stepF_10 e10
  rw [es] at hy
  obtain ⟨n, rfl⟩ : ∃ n', n = n' + 1 := ⟨n - 1, by omega⟩
  rw [loopR, if_neg (by simpa using hwr), if_pos rfl] at hy
  subst hy
  repeat' first
    | refine And.intro ?_ ?_
    | (intro hb; first | exact Bool.noConfusion hb | (rw [hwb] at hb; exact Bool.noConfusion hb) | (rw [hlb] at hb; exact Bool.noConfusion hb) | (rw [e10] at hb; exact Bool.noConfusion hb) | clear hb)
    | refine draw_lex tabOk2 mixed false false (by kernel_rfl) ?_
  all_goals try refine @Exists.intro Ren _ [some 0, some 1, some 7, some 6] (Exists.intro [2, 3] ?_)
  all_goals repeat' first
    | refine And.intro ?_ ?_
    | exact p0
    | exact p1
    | exact rfl
    | exact trivial
    | exact mt_int el
  all_goals omega

/-- The document's runs, at every depth. -/
theorem runs_atD {l : List Cd} (hin : InOk (findC l)) (hl : l.length ≤ 1000000) : ∀ (k deep : Nat), deep + k = 32 → RunsD l deep k
  | 0, deep, hk => run_runsD hin hl hk (fun k' h => by omega)
  | k + 1, deep, hk => run_runsD hin hl hk (fun k' h => by
      obtain rfl : k = k' := by omega
      exact runs_atD hin hl k (deep + 1) (by omega))
end Go.Vx

