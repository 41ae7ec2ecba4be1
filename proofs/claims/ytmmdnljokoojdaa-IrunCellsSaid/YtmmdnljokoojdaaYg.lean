/- Branches; a run with more; what other functions are worth to a run. No condition: these are lemmas for the laws. -/
import Derived.Test.YtmmdnljokoojdaaYf
set_option linter.unusedVariables false
set_option linter.unusedSimpArgs false
namespace Go.Vx
open Go.Proofs

/-! ### Single steps -/
theorem loop_step {call : Ir → List Int → Rn → Option Int × Rn} {c : Cd} {cell n k : Nat} {f : Fr} {r : Rn} (hw : r.wrong = 0) (ho : f.over = false) (hl : r.left = k + 1) :
    loopR call c cell (n + 1) f r = loopR call c cell n (stepF call (c.l.getD f.at_.toNat dIr) { f with at_ := f.at_ + 1 } { r with left := k }).1 (stepF call (c.l.getD f.at_.toNat dIr) { f with at_ := f.at_ + 1 } { r with left := k }).2 := by
  rw [loopR, if_neg (by simpa using hw), if_neg (by rw [ho]; decide), if_neg (by omega), hl]
  rfl
theorem loop_over {call : Ir → List Int → Rn → Option Int × Rn} {c : Cd} {cell n : Nat} {f : Fr} {r : Rn} (hw : r.wrong = 0) (ho : f.over = true) :
    loopR call c cell (n + 1) f r = ⟨f.regs.getD 0 0, f.cells, cell, r⟩ := by
  rw [loopR, if_neg (by simpa using hw), if_pos ho]
theorem loop_bad {call : Ir → List Int → Rn → Option Int × Rn} {c : Cd} {cell n : Nat} {f : Fr} {r : Rn} (hw : r.wrong ≠ 0) : loopR call c cell n f r = ⟨0, [], 0, r⟩ := by
  cases n with
  | zero => rfl
  | succ n => rw [loopR, if_pos hw]
/-- One function, run alone. -/
theorem runAll_one {c : Cd} {args : List Int} (hr : rightR c = (0, -1)) (hal : args.length = wordsN c.params + cellsN c.params) :
    runAll [c] c.name args = (if (runR (findC [c]) 32 c args rn0).r.wrong ≠ 0 then (dOc, [], (runR (findC [c]) 32 c args rn0).r.wrong)
      else (⟨(runR (findC [c]) 32 c args rn0).result, (runR (findC [c]) 32 c args rn0).cells.take (runR (findC [c]) 32 c args rn0).cell⟩, (runR (findC [c]) 32 c args rn0).r.went, 0)) := by
  have hb : ¬ someBad [c] = true := by
    unfold someBad badAt
    show ¬ (((rightR c).1 != 0) || false) = true
    rw [hr]; decide
  have hd : ¬ someDup [c] = true := by
    unfold someDup dupAt
    show ¬ ((findC [] c.name).isSome || false) = true
    intro h; cases h
  have hf : findC [c] c.name = some c := by
    unfold findC mapOf
    show (if (c.name == c.name) = true then some c else _) = _
    rw [if_pos (bytes_self _)]
  unfold runAll
  rw [if_neg hb, if_neg hd, hf]
  dsimp only
  rw [if_neg (by simpa using hal)]

/-! ### A function that goes one of two ways -/
def brC (a b : Int) : Cd := ⟨nmAF, [⟨false, 0⟩], 2, 0, [⟨9, 0, 0, 0, 0, 3, 0, ByteArray.empty, []⟩, irK 1 a, ⟨8, 0, 0, 0, 0, 4, 0, ByteArray.empty, []⟩, irK 1 b, irR 1]⟩
theorem br_right (a b : Int) : rightR (brC a b) = (0, -1) := by kernel_rfl
theorem br_small (a b : Int) : Small (brC a b) := ⟨Nat.le_of_ble_eq_true rfl, Nat.le_of_ble_eq_true rfl, Nat.le_of_ble_eq_true rfl, fun x hx => by
  simp only [brC, List.mem_cons, List.not_mem_nil, or_false] at hx
  rcases hx with rfl | rfl | rfl | rfl | rfl <;> exact ⟨Nat.le_of_ble_eq_true rfl, Nat.le_of_ble_eq_true rfl⟩⟩
def brV (x a b : Int) : Int := bif x == 0 then b else a
def brW (x : Int) : Int := bif x == 0 then 0 else 1
theorem br_run (a b x : Int) : runAll [brC a b] nmAF [x] = (⟨brV x a b, []⟩, [brW x], 0) := by
  have h := runAll_one (args := [x]) (br_right a b) rfl
  have e : runR (findC [brC a b]) 32 (brC a b) [x] rn0 = ⟨brV x a b, [], 0, ⟨(bif x == 0 then 59997 else 59996), [brW x], 0⟩⟩ := by
    rw [runR_eq]
    show loopR (callR (findC [brC a b]) (deeperR (findC [brC a b]) 32)) (brC a b) 0 (60001 + 1) ⟨[x, 0], [], 0, false⟩ rn0 = _
    rw [loop_step (k := 59999) rfl rfl rfl, stepF_9 rfl]
    show loopR _ _ _ (60000 + 1) ⟨[x, 0], [], (bif x == 0 then 3 else 1), false⟩ ⟨59999, [] ++ [bif x == 0 then 0 else 1], 0⟩ = _
    unfold brV brW
    cases hz : x == 0 <;> simp only [cond_true, cond_false, List.nil_append]
    · rw [loop_step (k := 59998) rfl rfl rfl, stepF_1 rfl]
      show loopR _ _ _ (59999 + 1) ⟨[x, a], [], 2, false⟩ ⟨59998, [1], 0⟩ = _
      rw [loop_step (k := 59997) rfl rfl rfl, stepF_8 rfl]
      show loopR _ _ _ (59998 + 1) ⟨[x, a], [], 4, false⟩ ⟨59997, [1], 0⟩ = _
      rw [loop_step (k := 59996) rfl rfl rfl, stepF_10 rfl]
      show loopR _ _ _ (59997 + 1) ⟨[a], [], 5, true⟩ ⟨59996, [1], 0⟩ = _
      rw [loop_over rfl rfl]; rfl
    · rw [loop_step (k := 59998) rfl rfl rfl, stepF_1 rfl]
      show loopR _ _ _ (59999 + 1) ⟨[x, b], [], 4, false⟩ ⟨59998, [0], 0⟩ = _
      rw [loop_step (k := 59997) rfl rfl rfl, stepF_10 rfl]
      show loopR _ _ _ (59998 + 1) ⟨[b], [], 5, true⟩ ⟨59997, [0], 0⟩ = _
      rw [loop_over rfl rfl]; rfl
  rw [e, if_neg (fun h => h rfl)] at h
  exact h

set_option maxRecDepth 100000 in
set_option maxHeartbeats 2000000 in
theorem irun_branch (x a b : Int) (hx : U x) (ha : U a) (hb : U b) : PureCall Try.prog 11 [.pv (pu32 x), .pv (pu32 a), .pv (pu32 b)] (lb true) := by
  have hr := irun_run (l := [brC a b]) (name := nmAF) (args := [x]) (fun c hc => by rw [List.mem_singleton] at hc; rw [hc]; exact br_small a b) (fun c hc => by
      rw [List.mem_singleton] at hc; rw [hc]
      intro y hy
      simp only [brC, List.mem_cons, List.not_mem_nil, or_false] at hy
      rcases hy with rfl | rfl | rfl | rfl | rfl <;> first | exact ha | exact hb | exact U.zero) (Nat.le_of_ble_eq_true rfl) (fun v hv => by rw [List.mem_singleton] at hv; rw [hv]; exact hx) (Nat.le_of_ble_eq_true rfl)
  rw [br_run] at hr
  unfold brV brW at hr
  refine pure_rule tabOk Try.func11 rfl (by kernel_rfl) (by kernel_rfl) (Nat.le_of_ble_eq_true rfl) ?_
  show awp Try.prog tab 68 (bodyOf Try.f11) _ _ _
  refine Or.inl ⟨_, _, FitAL.self rfl, awake07, ?_⟩
  refine @Exists.intro (List Ty) _ [⟨false, 0⟩] (And.intro rfl (And.intro ?_ ?_))
  · repeat' first | refine And.intro ?_ ?_ | exact rfl | exact trivial
  refine @Exists.intro (List Ir) _ (brC a b).l (And.intro rfl (And.intro ?_ ?_))
  · repeat' first | refine And.intro ?_ ?_ | exact rfl | exact trivial
  refine @Exists.intro (List Cd) _ [brC a b] (And.intro rfl (And.intro ?_ ?_))
  · repeat' first | refine And.intro ?_ ?_ | exact rfl | exact trivial
  refine @Exists.intro (List Int) _ [x] (And.intro rfl (And.intro ?_ ?_))
  · repeat' first | refine And.intro ?_ ?_ | exact rfl | exact trivial
  cases hz : x == 0
  all_goals rw [hz] at hr
  all_goals simp only [cond_true, cond_false] at hr
  all_goals
    refine Or.inl (Exists.intro [.pv (slCd [brC a b]), .pv (.lit (.string nmAF)), .pv (slU [x])] (Exists.intro _ (And.intro ?_ (And.intro hr ?_))))
    · repeat' first | refine And.intro ?_ ?_ | exact rfl | exact trivial
    repeat' first
      | refine And.intro ?_ ?_
      | (intro h; first | exact absurd h Bool.false_ne_true | exact absurd h.symm Bool.false_ne_true | (rw [hz] at h; first | exact absurd h Bool.false_ne_true | exact absurd h.symm Bool.false_ne_true | clear h) | (rw [beq_self_eq_true] at h; exact absurd h.symm Bool.false_ne_true) | clear h)
      | refine fit_bool (H := []) ?_
  all_goals first
    | exact rfl
    | exact Int.le_refl 0
    | (show (0 : Int) < 1; decide)
end Go.Vx

namespace Go.Vx
open Go.Proofs

/-! ### A register more, and a cell more -/
def moreC (c : Cd) : Cd := ⟨c.name, c.params, c.regs + 1, c.cells + 1, c.l⟩
theorem firstWrong_zero {c : Cd} : ∀ (n i : Nat), (firstWrong c n i).1 = 0 → firstWrong c n i = (0, -1)
  | 0, i, _ => rfl
  | n + 1, i, h => by
    rw [firstWrong] at h ⊢
    cases hb : (wrongI c i != 0)
    · rw [hb] at h; exact firstWrong_zero n (i + 1) h
    · rw [hb] at h
      have : wrongI c i = 0 := h
      rw [this] at hb; cases hb
theorem right_zero {c : Cd} (h : (rightR c).1 = 0) : rightR c = (0, -1) := by
  unfold rightR at h ⊢
  cases hf : formOk c
  · rw [hf] at h; cases h
  · rw [hf] at h; exact firstWrong_zero _ _ h
theorem form_of_right {c : Cd} (h : (rightR c).1 = 0) : formOk c = true := by
  cases hb : formOk c
  · rw [right_form hb] at h; simp at h
  · rfl
theorem out_more {c : Cd} {r : Int} (h : outReg c r = false) : outReg (moreC c) r = false := by
  unfold outReg at h ⊢
  rw [Bool.or_eq_false_iff, decide_eq_false_iff_not, decide_eq_false_iff_not] at h ⊢
  exact ⟨h.1, fun g => h.2 (Int.le_trans (show c.regs ≤ c.regs + 1 by omega) g)⟩
theorem more_wrong {c : Cd} (h0 : 0 ≤ c.regs ∧ 0 ≤ c.cells) (h1 : c.regs ≤ 9000 ∧ c.cells ≤ 4000) (hw : CdOk c) {i : Nat} (hi : i < c.l.length) (h : wrongI c i = 0) : wrongI (moreC c) i = 0 := by
  have hxm : c.l.getD i dIr ∈ c.l := by rw [List.getD_eq_getElem?_getD, List.getElem?_eq_getElem hi]; exact List.getElem_mem hi
  have hx := hw _ hxm
  unfold wrongI at h ⊢
  show wrongX (moreC c) (c.l.getD i dIr) i = 0
  generalize c.l.getD i dIr = x at h hx
  unfold wrongX at h ⊢
  cases b1 : badOp x <;> rw [b1] at h <;> simp only [cond_true, cond_false] at h ⊢
  case true => cases h
  cases b2 : badReg c x <;> rw [b2] at h <;> simp only [cond_true, cond_false] at h
  case true => cases h
  cases b3 : badAddr c x <;> rw [b3] at h <;> simp only [cond_true, cond_false] at h
  case true => cases h
  cases b4 : badJump c x i <;> rw [b4] at h <;> simp only [cond_true, cond_false] at h
  case true => cases h
  cases b5 : badEnd c x i <;> rw [b5] at h <;> simp only [cond_true, cond_false] at h
  case true => cases h
  have c2 : badReg (moreC c) x = false := by
    unfold badReg at b2 ⊢
    rw [Bool.or_eq_false_iff] at b2 ⊢
    refine ⟨List.any_eq_false.2 fun a ha => ?_, ?_⟩
    · rw [out_more (by simpa using List.any_eq_false.1 b2.1 a ha)]; decide
    · rw [Bool.and_eq_false_iff] at b2 ⊢
      rcases b2.2 with g | g
      · exact .inl g
      · exact .inr (out_more g)
  have c3 : badAddr (moreC c) x = false := by
    unfold badAddr at b3 ⊢
    rw [Bool.and_eq_false_iff, decide_eq_false_iff_not] at b3 ⊢
    obtain ⟨hn0, hn1⟩ := hx
    rcases b3 with g | g
    · exact .inl g
    · refine .inr ?_
      show ¬ IntKind.u64.wrap x.n ≥ IntKind.u64.wrap (c.cells + 1)
      rw [wrap_u64 hn0 (by omega), wrap_u64 (by omega) (by omega)] at g
      rw [wrap_u64 hn0 (by omega), wrap_u64 (by omega) (by omega)]
      omega
  have c4 : badJump (moreC c) x i = false := b4
  have c5 : badEnd (moreC c) x i = false := b5
  rw [c2, c3, c4, c5]
  rfl
theorem more_right {c : Cd} (hw : CdOk c) (h1 : c.regs ≤ 9000 ∧ c.cells ≤ 4000) (h : (rightR c).1 = 0) : rightR (moreC c) = (0, -1) := by
  have hf := form_of_right h
  have hfine := Fine.of hw h
  have hr := hfine.regs
  have hc := hfine.cells
  obtain ⟨g1, g2, g3, g4, g5, g6, g7, g8, g9⟩ := formOk_iff.1 hf
  have hf' : formOk (moreC c) = true := formOk_iff.2 ⟨g1, g2, g3, Int.le_trans g4 (show c.regs ≤ c.regs + 1 by omega), show c.regs + 1 ≤ 10000 by omega, Int.le_trans g6 (show c.cells ≤ c.cells + 1 by omega), show c.cells + 1 ≤ 4096 by omega, g8, g9⟩
  unfold rightR at h ⊢
  rw [hf] at h
  rw [hf']
  exact firstWrong_none _ _ fun j h2 h3 => more_wrong ⟨by omega, by omega⟩ h1 hw (by simpa [moreC] using h3) (firstWrong_ok _ _ h j h2 (by simpa [moreC] using h3))

structure MoreF (f f' : Fr) : Prop where
  regs : (f.over = false ∧ f'.regs = f.regs ++ [0]) ∨ (f.over = true ∧ f'.regs = f.regs)
  cells : f'.cells = f.cells ++ [0]
  place : f'.at_ = f.at_
  over : f'.over = f.over
theorem getD_snoc {l : List Int} {i : Nat} (h : i < l.length) : (l ++ [0]).getD i 0 = l.getD i 0 := by
  rw [List.getD_eq_getElem?_getD, List.getD_eq_getElem?_getD, List.getElem?_append_left h]
theorem set_snoc {l : List Int} {i : Nat} {v : Int} (h : i < l.length) : (l ++ [0]).set i v = l.set i v ++ [0] := by
  rw [List.set_append, if_pos h]
def MoreCall (c : Cd) (call call' : Ir → List Int → Rn → Option Int × Rn) : Prop := ∀ x regs r, (∀ v ∈ regs, U v) → (∀ a ∈ x.args, 0 ≤ a ∧ a < regs.length) → call' x (regs ++ [0]) r = call x regs r

theorem more_step {c : Cd} {call call' : Ir → List Int → Rn → Option Int × Rn} (hc : MoreCall c call call') {i : Nat} {x : Ir} (hx : FineI c i x) (hn : 0 ≤ x.n) {f f' : Fr} (h : MoreF f f') (h0 : ∀ v ∈ f.regs, U v) (ho : f.over = false) (hrl : f.regs.length = c.regs.toNat) (hcl : f.cells.length = c.cells.toNat) (r : Rn) :
    MoreF (stepF call x f r).1 (stepF call' x f' r).1 ∧ (stepF call' x f' r).2 = (stepF call x f r).2 := by
  obtain ⟨regs, cells, at_, over⟩ := f
  obtain ⟨regs', cells', at', over'⟩ := f'
  obtain ⟨h1, h2, h3, h4⟩ := h
  dsimp only at h1 h2 h3 h4 ho hrl hcl
  subst h2 h3 h4 ho
  rcases h1 with ⟨_, rfl⟩ | ⟨h, _⟩
  case inr => cases h
  have hA : x.kind = 2 ∨ x.kind = 6 ∨ x.kind = 9 ∨ x.kind = 10 → x.a.toNat < regs.length := fun h => by
    have := hx.reads x.a (by unfold reads; rcases h with h | h | h | h <;> rw [h] <;> simp)
    omega
  have hD : Vx.writes x = true → x.d.toNat < regs.length := fun h => by have := hx.writes h; omega
  have hwr : ∀ n, x.kind = n → (1 ≤ n ∧ n ≤ 5 ∨ n = 7) → Vx.writes x = true := fun n e h => by
    unfold Vx.writes
    rw [e, Bool.or_eq_true, Bool.and_eq_true, decide_eq_true_eq, decide_eq_true_eq, beq_iff_eq]
    omega
  have hk1 := hx.kind
  have mk : ∀ (rs : List Int) (p : Int), MoreF ⟨rs, cells, p, false⟩ ⟨rs ++ [0], cells ++ [0], p, false⟩ := fun rs p => ⟨.inl ⟨rfl, rfl⟩, rfl, rfl, rfl⟩
  by_cases e1 : x.kind = 1
  · rw [stepF_1 e1, stepF_1 e1, set_snoc (hD (hwr 1 e1 (by omega)))]; exact ⟨mk _ _, rfl⟩
  by_cases e2 : x.kind = 2
  · rw [stepF_2 e2, stepF_2 e2, getD_snoc (hA (by omega)), set_snoc (hD (hwr 2 e2 (by omega)))]; exact ⟨mk _ _, rfl⟩
  by_cases e3 : x.kind = 3
  · have hrk : reads x = [x.a, x.b] := by unfold reads; rw [e3]; rfl
    have ha := hx.reads x.a (by rw [hrk]; simp)
    have hb := hx.reads x.b (by rw [hrk]; simp)
    rw [stepF_3 e3, stepF_3 e3, getD_snoc (by omega), getD_snoc (by omega), set_snoc (hD (hwr 3 e3 (by omega)))]; exact ⟨mk _ _, rfl⟩
  by_cases e4 : x.kind = 4
  · have hrk : reads x = [x.a, x.b, x.c] := by unfold reads; rw [e4]; rfl
    have ha := hx.reads x.a (by rw [hrk]; simp)
    have hb := hx.reads x.b (by rw [hrk]; simp)
    have hcc := hx.reads x.c (by rw [hrk]; simp)
    rw [stepF_4 e4, stepF_4 e4, getD_snoc (i := x.a.toNat) (by omega), getD_snoc (i := x.b.toNat) (by omega), getD_snoc (i := x.c.toNat) (by omega), set_snoc (hD (hwr 4 e4 (by omega)))]; exact ⟨mk _ _, rfl⟩
  by_cases e5 : x.kind = 5
  · have ha := hx.addr (.inl e5)
    rw [stepF_5 e5, stepF_5 e5, getD_snoc (by omega), set_snoc (hD (hwr 5 e5 (by omega)))]; exact ⟨mk _ _, rfl⟩
  by_cases e6 : x.kind = 6
  · have ha := hx.addr (.inr e6)
    rw [stepF_6 e6, stepF_6 e6, getD_snoc (hA (by omega)), set_snoc (l := cells) (by omega)]; exact ⟨⟨.inl ⟨rfl, rfl⟩, rfl, rfl, rfl⟩, rfl⟩
  by_cases e7 : x.kind = 7
  · have hrk : reads x = x.args := by unfold reads; rw [e7]; rfl
    have hcc := hc x regs r h0 (fun a ha => by have := hx.reads a (by rw [hrk]; exact ha); omega)
    rw [stepF_7 e7, stepF_7 e7]
    dsimp only
    rw [hcc]
    refine ⟨?_, rfl⟩
    cases (call x regs r).1 with
    | none => exact mk _ _
    | some v =>
      dsimp only
      rw [set_snoc (hD (hwr 7 e7 (by omega)))]; exact mk _ _
  by_cases e8 : x.kind = 8
  · rw [stepF_8 e8, stepF_8 e8]; exact ⟨mk _ _, rfl⟩
  by_cases e9 : x.kind = 9
  · rw [stepF_9 e9, stepF_9 e9, getD_snoc (hA (by omega))]; exact ⟨mk _ _, rfl⟩
  have e10 : x.kind = 10 := by omega
  rw [stepF_10 e10, stepF_10 e10, getD_snoc (hA (by omega))]
  exact ⟨⟨.inr ⟨rfl, rfl⟩, rfl, rfl, rfl⟩, rfl⟩

structure MoreY (y y' : Res) : Prop where
  result : y'.result = y.result
  cells : y'.cells.take y'.cell = y.cells.take y.cell
  r : y'.r = y.r
theorem more_loop {c : Cd} (hw : CdOk c) (hf : Fine c) {call call' : Ir → List Int → Rn → Option Int × Rn} (hcall : CallOk call) (hc : MoreCall c call call') {cell : Nat} (hcl : cell ≤ c.cells.toNat) : ∀ (n : Nat) {f f' : Fr} {r : Rn}, Good c f → MoreF f f' →
    MoreY (loopR call c cell n f r) (loopR call' (moreC c) cell n f' r)
  | 0, f, f', r, g, h => ⟨rfl, rfl, rfl⟩
  | n + 1, f, f', r, g, h => by
    rw [loopR, loopR]
    by_cases hwr : r.wrong ≠ 0
    · rw [if_pos hwr, if_pos hwr]; exact ⟨rfl, rfl, rfl⟩
    rw [if_neg hwr, if_neg hwr, h.over]
    cases ho : f.over
    case true =>
      rw [if_pos rfl, if_pos rfl]
      rcases h.regs with ⟨h1, _⟩ | ⟨_, h1⟩
      · rw [ho] at h1; cases h1
      refine ⟨by show f'.regs.getD 0 0 = f.regs.getD 0 0; rw [h1], ?_, rfl⟩
      show f'.cells.take cell = f.cells.take cell
      rw [h.cells, List.take_append_of_le_length (by rw [g.cellsL]; exact hcl)]
    rw [if_neg Bool.false_ne_true, if_neg Bool.false_ne_true]
    by_cases hl : r.left = 0
    · rw [if_pos hl, if_pos hl]; exact ⟨rfl, rfl, rfl⟩
    rw [if_neg hl, if_neg hl]
    obtain ⟨regs, cells, at0, over⟩ := f
    obtain ⟨regs', cells', at_, over'⟩ := f'
    dsimp only at ho
    subst ho
    have hp := h.place
    have hov := h.over
    dsimp only at hp hov
    subst hp hov
    obtain ⟨p0, p1⟩ := g.place rfl
    have hi : at_.toNat < c.l.length := by have : at_ < c.l.length := p1; omega
    have hf1 : MoreF ⟨regs, cells, at_ + 1, false⟩ ⟨regs', cells', at_ + 1, false⟩ := ⟨h.regs, h.cells, rfl, rfl⟩
    have hs := more_step hc (hf.ir _ hi) (Fine.x0 hw hi).1 hf1 g.regs0 rfl (g.regsL rfl) g.cellsL { r with left := r.left - 1 }
    have hg := step_good hw hf hcall g rfl (r := { r with left := r.left - 1 }) (Classical.not_not.1 hwr)
    have ih := more_loop hw hf hcall hc hcl n (r := (stepF call (c.l.getD at_.toNat dIr) ⟨regs, cells, at_ + 1, false⟩ { r with left := r.left - 1 }).2) hg.1 hs.1
    show MoreY _ (loopR call' (moreC c) cell n (stepF call' (c.l.getD at_.toNat dIr) ⟨regs', cells', at_ + 1, false⟩ { r with left := r.left - 1 }).1 (stepF call' (c.l.getD at_.toNat dIr) ⟨regs', cells', at_ + 1, false⟩ { r with left := r.left - 1 }).2)
    rw [hs.2]
    exact ih

theorem more_lay {c : Cd} {args : List Int} (h0 : 0 ≤ c.regs ∧ 0 ≤ c.cells) (hf : Fine c) (ha : ∀ v ∈ args, U v) (hl : args.length = wordsN c.params + cellsN c.params) :
    (layArgs (moreC c) args).regs = (layArgs c args).regs ++ [0] ∧ (layArgs (moreC c) args).cells = (layArgs c args).cells ++ [0] ∧ (layArgs (moreC c) args).cell = (layArgs c args).cell := by
  have key : ∀ (q p : List Ty) (s s' : Laid), c.params = p ++ q → LayOk c args p s → s'.regs = s.regs ++ [0] ∧ s'.cells = s.cells ++ [0] ∧ s'.reg = s.reg ∧ s'.cell = s.cell ∧ s'.args = s.args →
      (q.foldl layStep s').regs = (q.foldl layStep s).regs ++ [0] ∧ (q.foldl layStep s').cells = (q.foldl layStep s).cells ++ [0] ∧ (q.foldl layStep s').cell = (q.foldl layStep s).cell := by
    intro q
    induction q with
    | nil => exact fun p s s' hp h ⟨h1, h2, h3, h4, h5⟩ => ⟨h1, h2, h4⟩
    | cons t q ih =>
      intro p s s' hp h ⟨h1, h2, h3, h4, h5⟩
      obtain ⟨n1, n2, n3⟩ := h.next hf ha hp hl
      refine ih (p ++ [t]) (layStep s t) (layStep s' t) (by rw [hp, List.append_assoc]; rfl) n1 ?_
      unfold layStep
      by_cases hz : t.len = 0
      · rw [if_pos hz, if_pos hz]
        dsimp only
        have := n2 hz
        rw [h1, h2, h3, h4, h5, set_snoc this.2]
        exact ⟨rfl, rfl, rfl, rfl, rfl⟩
      · rw [if_neg hz, if_neg hz]
        dsimp only
        obtain ⟨m1, m2⟩ := n3 hz
        rw [h1, h2, h3, h4, h5]
        refine ⟨rfl, ?_, rfl, rfl, rfl⟩
        unfold setRange
        rw [List.take_append_of_le_length (by omega), List.drop_append_of_le_length (by rw [List.length_take, Nat.min_eq_left m1]; exact m2)]
        simp only [List.append_assoc]
  refine key c.params [] (lay0 c args) (lay0 (moreC c) args) rfl (lay0_ok c args) ⟨?_, ?_, rfl, rfl, rfl⟩
  · show List.replicate (c.regs + 1).toNat 0 = List.replicate c.regs.toNat 0 ++ [0]
    rw [show (c.regs + 1).toNat = c.regs.toNat + 1 by omega, List.replicate_succ']
  · show List.replicate (c.cells + 1).toNat 0 = List.replicate c.cells.toNat 0 ++ [0]
    rw [show (c.cells + 1).toNat = c.cells.toNat + 1 by omega, List.replicate_succ']

theorem findC_one {c : Cd} {s : ByteArray} : findC [c] s = if (s == c.name) = true then some c else none := rfl
theorem more_run {c : Cd} (hw : CdOk c) (hf : Fine c) : ∀ (k : Nat) {args : List Int} (r : Rn), (∀ v ∈ args, U v) → args.length = wordsN c.params + cellsN c.params → MoreY (runR (findC [c]) k c args r) (runR (findC [moreC c]) k (moreC c) args r) := by
  have hin : InOk (findC [c]) := ⟨fun s d h => by rw [findC_one] at h; split at h <;> cases h; exact hw, fun s d h => by rw [findC_one] at h; split at h <;> cases h; exact hf⟩
  have hr := hf.regs
  have hc := hf.cells
  intro k
  induction k with
  | zero =>
    intro args r h0 hl
    obtain ⟨l1, l2, l3⟩ := more_lay ⟨by omega, by omega⟩ hf h0 hl
    have hlay := lay_ok hf h0 hl
    rw [runR_eq, runR_eq]
    unfold runW
    rw [l1, l2, l3]
    refine more_loop hw hf (call_ok hin (deeper_ok hin 0)) (fun x regs r hu hx => ?_) (by rw [hlay.cell]; omega) _ (lay_good hf h0 hl) ⟨.inl ⟨rfl, rfl⟩, rfl, rfl, rfl⟩
    unfold callR deeperR
    rw [findC_one, findC_one]
    by_cases hn : (x.name == c.name) = true
    · rw [if_pos hn, if_pos (show (x.name == (moreC c).name) = true from hn)]; rfl
    · rw [if_neg hn, if_neg (show ¬ (x.name == (moreC c).name) = true from hn)]
  | succ k ih =>
    intro args r h0 hl
    obtain ⟨l1, l2, l3⟩ := more_lay ⟨by omega, by omega⟩ hf h0 hl
    have hlay := lay_ok hf h0 hl
    rw [runR_eq, runR_eq]
    unfold runW
    rw [l1, l2, l3]
    refine more_loop hw hf (call_ok hin (deeper_ok hin (k + 1))) (fun x regs r hu hx => ?_) (by rw [hlay.cell]; omega) _ (lay_good hf h0 hl) ⟨.inl ⟨rfl, rfl⟩, rfl, rfl, rfl⟩
    have hmap : (x.args.map fun a => (regs ++ [0]).getD a.toNat 0) = x.args.map fun a => regs.getD a.toNat 0 := List.map_congr_left fun a ha => by
      have := hx a ha
      exact getD_snoc (by omega)
    unfold callR deeperR
    rw [findC_one, findC_one]
    by_cases hn : (x.name == c.name) = true
    · rw [if_pos hn, if_pos (show (x.name == (moreC c).name) = true from hn)]
      dsimp only
      by_cases hwc : wordsN c.params ≠ x.args.length ∨ 0 < cellsN c.params
      · rw [if_pos hwc, if_pos (show wordsN (moreC c).params ≠ x.args.length ∨ 0 < cellsN (moreC c).params from hwc)]
      · rw [if_neg hwc, if_neg (show ¬ (wordsN (moreC c).params ≠ x.args.length ∨ 0 < cellsN (moreC c).params) from hwc), hmap]
        have hy := ih (args := x.args.map fun a => regs.getD a.toNat 0) r (fun v hv => by
          obtain ⟨a, _, rfl⟩ := List.mem_map.1 hv
          exact getD_nonneg hu _) (by rw [List.length_map]; omega)
        rw [hy.result, hy.r]
    · rw [if_neg hn, if_neg (show ¬ (x.name == (moreC c).name) = true from hn)]

/-- The same comes of it. -/
theorem more_all {c : Cd} (hw : CdOk c) (h1 : c.regs ≤ 9000 ∧ c.cells ≤ 4000) (h : (rightR c).1 = 0) {args : List Int} (h0 : ∀ v ∈ args, U v) : runAll [moreC c] c.name args = runAll [c] c.name args := by
  have hf := Fine.of hw h
  have hr1 := right_zero h
  have hr2 := more_right hw h1 h
  by_cases hal : args.length = wordsN c.params + cellsN c.params
  · have e1 := runAll_one hr1 hal
    have e2 := runAll_one (c := moreC c) hr2 hal
    have hy := more_run hw hf 32 rn0 h0 hal
    rw [hy.result, hy.cells, hy.r] at e2
    exact e2.trans e1.symm
  · have key : ∀ d : Cd, rightR d = (0, -1) → ¬ args.length = wordsN d.params + cellsN d.params → runAll [d] d.name args = (dOc, [], 1) := fun d hr hal => by
      have hb : ¬ someBad [d] = true := by
        unfold someBad badAt
        show ¬ (((rightR d).1 != 0) || false) = true
        rw [hr]; decide
      have hd : ¬ someDup [d] = true := by
        unfold someDup dupAt
        show ¬ ((findC [] d.name).isSome || false) = true
        intro h; cases h
      have hfd : findC [d] d.name = some d := by rw [findC_one, if_pos (bytes_self _)]
      unfold runAll
      rw [if_neg hb, if_neg hd, hfd]
      dsimp only
      rw [if_pos hal]
    rw [key c hr1 hal]
    exact key (moreC c) hr2 hal
end Go.Vx

namespace Go.Vx
open Go.Proofs

theorem Small.more {c : Cd} (h : Small c) : Small (moreC c) := ⟨h.name, h.params, h.l, h.ir⟩
theorem mem_one {P : Cd → Prop} {c : Cd} (h : P c) : ∀ d ∈ [c], P d := fun d hd => by rw [List.mem_singleton] at hd; rw [hd]; exact h

set_option maxRecDepth 100000 in
set_option maxHeartbeats 2000000 in
theorem irun_more (c : Cd) (args : List Int) (hw : CdOk c) (h0 : ∀ v ∈ args, U v) : PureCall Try.prog 9 [aCd c, .pv (slU args)] (lb true) := by
  refine pure_ruleS tabOk Try.func9 rfl (by kernel_rfl) (Nat.le_of_ble_eq_true rfl) ?_
  show Tri Try.prog 110 (bodyOf Try.f9) _ _ _
  refine cut_rule tabOk (by kernel_rfl) 4 (X := Unit) (fun _ => lightB [c] = true ∧ args.length ≤ 200 ∧ c.regs ≤ 9000 ∧ c.cells ≤ 4000) (fun _ => ([(1, .pv (slU args)), (2, .ptr 0 0), (5, lb true)], [boxCd c])) ?_ ?_
  · refine Or.inl ⟨_, _, FitAL.self rfl, awake07, ?_⟩
    refine Exists.intro [c] (And.intro rfl (And.intro (And.intro (And.intro rfl (And.intro rfl (And.intro rfl (And.intro rfl (And.intro rfl trivial))))) trivial) ?_))
    refine Or.inl (Exists.intro [.pv (slCd [c])] (Exists.intro _ (And.intro (And.intro rfl trivial) (And.intro (ref_light [c]) ?_))))
    cases hlt : lightB [c]
    all_goals cases ha : decide ((args.length : Int) > 200)
    all_goals cases hr : decide (c.regs > 9000)
    all_goals cases hc : decide (c.cells > 4000)
    all_goals
      repeat' first
        | refine And.intro ?_ ?_
        | (intro h; first | exact absurd h Bool.false_ne_true | exact absurd h.symm Bool.false_ne_true | (simp only [ha, hr, hc, Bool.not_true, Bool.not_false, cond_true, cond_false, reduceCtorEq] at h; done) | clear h)
        | refine fit_bool (H := []) ?_
    all_goals first
      | exact rfl
      | (refine Exists.intro () (And.intro (And.intro rfl (And.intro (by have := of_decide_eq_false ha; omega) (And.intro (by have := of_decide_eq_false hr; omega) (by have := of_decide_eq_false hc; omega)))) (@Exists.intro Ren _ [some 0] ?_))
         repeat' first | refine And.intro ?_ ?_ | exact rfl | exact trivial)
  rintro ⟨⟩ ⟨hlight, hal, hcr, hcc⟩
  have hs := Small.of_light hlight
  have hk := irun_right c hs
  refine cut_rule tabOk (by kernel_rfl) 2 (X := Unit) (fun _ => (rightR c).1 = 0) (fun _ => ([(1, .pv (slU args)), (2, .ptr 0 0), (5, lb true)], [boxCd c])) ?_ ?_
  · refine Or.inl (Exists.intro [aCd c] (Exists.intro _ (And.intro (FitAL.self rfl) (And.intro hk ?_))))
    refine And.intro ?_ ?_
    · intro _
      exact rfl
    · intro h
      refine Exists.intro () (And.intro (by simpa using h) (@Exists.intro Ren _ [some 0] ?_))
      repeat' first | refine And.intro ?_ ?_ | exact rfl | exact trivial
  rintro ⟨⟩ hright
  have hfine := Fine.of hw hright
  have hreg := hfine.regs
  have hcel := hfine.cells
  have er : IntKind.i64.wrap (c.regs + 1) = c.regs + 1 := wrap_succ' (by omega) (by omega)
  have ec : IntKind.i64.wrap (c.cells + 1) = c.cells + 1 := wrap_succ' (by omega) (by omega)
  refine cut_rule tabOk (by kernel_rfl) 3 (X := Unit) (fun _ => True) (fun _ => ([(1, .pv (slU args)), (2, .ptr 0 0), (5, lb true), (9, .ptr 1 0)], [boxCd c, boxCd (moreC c)])) ?_ ?_
  · refine Exists.intro () (And.intro trivial (@Exists.intro Ren _ [some 0, some 1] ?_))
    repeat' first | refine And.intro ?_ ?_ | exact rfl | exact trivial | exact mt_int er | exact mt_int ec
  rintro ⟨⟩ _
  have hkm := irun_right (moreC c) hs.more
  rw [more_right hw ⟨hcr, hcc⟩ hright] at hkm
  have h1 := irun_run (name := c.name) (args := args) (mem_one hs) (mem_one hw) (Nat.le_of_ble_eq_true rfl) h0 (by omega)
  have h2 := irun_run (l := [moreC c]) (name := c.name) (args := args) (mem_one hs.more) (mem_one hw) (Nat.le_of_ble_eq_true rfl) h0 (by omega)
  rw [more_all hw ⟨hcr, hcc⟩ hright h0] at h2
  obtain ⟨hb1, hb2⟩ := runAll_small (name := c.name) (mem_one hw) h0
  generalize runAll [c] c.name args = y at h1 h2 hb1 hb2
  obtain ⟨o, w, e⟩ := y
  refine Tri.of tabOk (by kernel_rfl) ?_
  refine Or.inl (Exists.intro [aCd (moreC c)] (Exists.intro _ (And.intro (FitAL.self rfl) (And.intro hkm ?_))))
  refine Exists.intro [c] (And.intro rfl (And.intro (And.intro (And.intro rfl (And.intro rfl (And.intro rfl (And.intro rfl (And.intro rfl trivial))))) trivial) ?_))
  refine Or.inl (Exists.intro [.pv (slCd [c]), .pv (.lit (.string c.name)), .pv (slU args)] (Exists.intro _ (And.intro (And.intro rfl (And.intro rfl (And.intro rfl trivial))) (And.intro h1 ?_))))
  refine Exists.intro [moreC c] (And.intro rfl (And.intro (And.intro (And.intro rfl (And.intro rfl (And.intro rfl (And.intro rfl (And.intro rfl trivial))))) trivial) ?_))
  refine Or.inl (Exists.intro [.pv (slCd [moreC c]), .pv (.lit (.string c.name)), .pv (slU args)] (Exists.intro _ (And.intro (And.intro rfl (And.intro rfl (And.intro rfl trivial))) (And.intro h2 ?_))))
  refine Or.inl (Exists.intro [aOc o, aOc o] (Exists.intro _ (And.intro (FitAL.self rfl) (And.intro (self_oc hb1) ?_))))
  refine Or.inl (Exists.intro [.pv (slI w), .pv (slI w)] (Exists.intro _ (And.intro (FitAL.self rfl) (And.intro (self_ints hb2) ?_))))
  repeat' first
    | refine And.intro ?_ ?_
    | (intro h; first | exact absurd h Bool.false_ne_true | exact absurd h.symm Bool.false_ne_true | clear h)
    | refine fit_bool (H := []) ?_
  all_goals simp only [beq_self_eq_true, cond_true]
end Go.Vx

namespace Go.Vx
open Go.Proofs

/-! ### What is not called does not matter -/
theorem stepF_congr {call call' : Ir → List Int → Rn → Option Int × Rn} {x : Ir} (h : x.kind = 7 → ∀ regs r, call x regs r = call' x regs r) (f : Fr) (r : Rn) : stepF call x f r = stepF call' x f r := by
  by_cases e : x.kind = 7
  · rw [stepF_7 e, stepF_7 e, h e]
  · unfold stepF
    repeat' split
    all_goals first | rfl | exact absurd ‹x.kind = 7› e
theorem getD_or {l : List Ir} (i : Nat) : l.getD i dIr ∈ l ∨ l.getD i dIr = dIr := by
  rcases Nat.lt_or_ge i l.length with h | h
  · exact .inl (by rw [List.getD_eq_getElem?_getD, List.getElem?_eq_getElem h]; exact List.getElem_mem h)
  · exact .inr (by rw [List.getD_eq_getElem?_getD, List.getElem?_eq_none h]; rfl)
theorem loopR_congr {call call' : Ir → List Int → Rn → Option Int × Rn} {c : Cd} (h : ∀ x ∈ c.l, x.kind = 7 → ∀ regs r, call x regs r = call' x regs r) (cell : Nat) : ∀ (n : Nat) (f : Fr) (r : Rn), loopR call c cell n f r = loopR call' c cell n f r
  | 0, f, r => rfl
  | n + 1, f, r => by
    have hs : ∀ (f : Fr) (r : Rn), stepF call (c.l.getD f.at_.toNat dIr) { f with at_ := f.at_ + 1 } r = stepF call' (c.l.getD f.at_.toNat dIr) { f with at_ := f.at_ + 1 } r := fun f r => stepF_congr (fun e regs r => by
      rcases getD_or (l := c.l) f.at_.toNat with hm | hm
      · exact h _ hm e regs r
      · rw [hm] at e; cases e) _ r
    rw [loopR, loopR, hs, loopR_congr h cell n]
theorem run_agree {find find' : ByteArray → Option Cd} {Pc : Cd → Prop} (h1 : ∀ c, Pc c → ∀ x ∈ c.l, find x.name = find' x.name) (h2 : ∀ s c, find s = some c → Pc c) : ∀ (k : Nat) {c : Cd}, Pc c → ∀ args r, runR find k c args r = runR find' k c args r
  | 0, c, hc, args, r => loopR_congr (fun x hx e regs r => by
      unfold callR
      rw [← h1 c hc x hx]) _ _ _ _
  | k + 1, c, hc, args, r => loopR_congr (fun x hx e regs r => by
      unfold callR
      rw [← h1 c hc x hx]
      cases hf : find x.name with
      | none => rfl
      | some d =>
        dsimp only
        rw [run_agree h1 h2 k (h2 _ _ hf)]) _ _ _ _

theorem any_range {α : Type} {d : α} (p : α → Bool) : ∀ (l : List α), ((List.range l.length).any fun k => p (l.getD k d)) = l.any p
  | [] => rfl
  | x :: l => by
    rw [List.length_cons, List.range_succ_eq_map, List.any_cons, List.any_map, List.any_cons]
    exact congrArg (p x || ·) (any_range p l)
theorem someBad_eq (l : List Cd) : someBad l = l.any fun c => (rightR c).1 != 0 := any_range (d := dCd) (fun c => (rightR c).1 != 0) l
def nmZZ : ByteArray := ⟨#[122, 122, 46, 113]⟩
def zzC : Cd := ⟨nmZZ, [], 1, 0, [⟨10, 0, 0, 0, 0, 0, 0, ByteArray.empty, []⟩]⟩
theorem zz_right : rightR zzC = (0, -1) := by kernel_rfl
theorem findC_cons (c : Cd) (l : List Cd) (s : ByteArray) : findC (c :: l) s = if (s == c.name) = true then some c else findC l s := rfl
theorem not_beq {a b : ByteArray} (h : a ≠ b) : ¬ (a == b) = true := fun h2 => h (bytes_eq h2)
theorem others_dup {l : List Cd} (h : ∀ c ∈ l, c.name ≠ nmZZ) : someDup (zzC :: l) = someDup l := by
  unfold someDup
  rw [List.length_cons, List.range_succ_eq_map, List.any_cons, List.any_map]
  show (false || (List.range l.length).any _) = _
  rw [Bool.false_or]
  have key : ∀ (ks : List Nat), (∀ k ∈ ks, k < l.length) → (ks.any (dupAt (zzC :: l) ∘ Nat.succ)) = ks.any (dupAt l) := by
    intro ks
    induction ks with
    | nil => intro _; rfl
    | cons k ks ih =>
      intro hk
      rw [List.any_cons, List.any_cons, ih fun j hj => hk j (by simp [hj])]
      congr 1
      have hlt := hk k (by simp)
      unfold dupAt
      show (findC (zzC :: l.take k) (l.getD k dCd).name).isSome = _
      rw [findC_cons, if_neg (show ¬ (_ == zzC.name) = true from not_beq (h _ (by rw [List.getD_eq_getElem?_getD, List.getElem?_eq_getElem hlt]; exact List.getElem_mem hlt)))]
  exact key _ fun k hk => List.mem_range.1 hk
theorem others_all {l : List Cd} (h : ∀ c ∈ l, c.name ≠ nmZZ ∧ ∀ x ∈ c.l, x.name ≠ nmZZ) {name : ByteArray} (hn : name ≠ nmZZ) (args : List Int) : runAll (zzC :: l) name args = runAll l name args := by
  have hbad : someBad (zzC :: l) = someBad l := by
    rw [someBad_eq, someBad_eq, List.any_cons, zz_right]; rfl
  have hfind : ∀ s, s ≠ nmZZ → findC (zzC :: l) s = findC l s := fun s hs => by rw [findC_cons, if_neg (show ¬ (_ == zzC.name) = true from not_beq hs)]
  unfold runAll
  rw [hbad, others_dup fun c hc => (h c hc).1, hfind name hn]
  split
  · rfl
  split
  · rfl
  split
  · rfl
  rename_i c hc
  have hr := run_agree (find := findC l) (find' := findC (zzC :: l)) (Pc := fun c => c ∈ l) (fun c hc x hx => (hfind _ ((h c hc).2 x hx)).symm) (fun s c hf => findC_mem hf) 32 (findC_mem hc) args rn0
  rw [← hr]

def noZZ (c : Cd) : Prop := c.name ≠ nmZZ ∧ ∀ x ∈ c.l, x.name ≠ nmZZ
theorem strEq_ne {a b : ByteArray} (h : strEq a b = false) : a ≠ b := strEq_not.1 h

set_option maxRecDepth 100000 in
set_option maxHeartbeats 2000000 in
theorem irun_others (l : List Cd) (args : List Int) (hw : ∀ c ∈ l, CdOk c) (h0 : ∀ v ∈ args, U v) : PureCall Try.prog 10 [.pv (slCd l), .pv (slU args)] (lb true) := by
  refine pure_ruleS tabOk Try.func10 rfl (by kernel_rfl) (Nat.le_of_ble_eq_true rfl) ?_
  show Tri Try.prog 119 (bodyOf Try.f10) _ _ _
  refine cut_rule tabOk (by kernel_rfl) 4 (X := Unit) (fun _ => lightB l = true ∧ args.length ≤ 200 ∧ 1 ≤ l.length ∧ l.length ≤ 15) (fun _ => ([(0, .pv (slCd l)), (1, .pv (slU args)), (5, lb true)], [])) ?_ ?_
  · refine Or.inl ⟨_, _, FitAL.self rfl, awake07, ?_⟩
    refine Or.inl (Exists.intro [.pv (slCd l)] (Exists.intro _ (And.intro (FitAL.self rfl) (And.intro (ref_light l) ?_))))
    cases hlt : lightB l
    all_goals cases ha : decide ((args.length : Int) > 200)
    all_goals cases hr : ((l.length : Int) == 0)
    all_goals cases hc : decide ((l.length : Int) > 15)
    all_goals
      repeat' first
        | refine And.intro ?_ ?_
        | (intro h; first | exact absurd h Bool.false_ne_true | exact absurd h.symm Bool.false_ne_true | (simp only [ha, hr, hc, Bool.not_true, Bool.not_false, cond_true, cond_false, reduceCtorEq] at h; done) | clear h)
        | refine fit_bool (H := []) ?_
    all_goals first
      | exact rfl
      | (refine Exists.intro () (And.intro (And.intro rfl (And.intro (by have := of_decide_eq_false ha; omega) (And.intro (by have := beq_eq_false_iff_ne.1 hr; omega) (by have := of_decide_eq_false hc; omega)))) (@Exists.intro Ren _ [] ?_))
         repeat' first | refine And.intro ?_ ?_ | exact rfl | exact trivial)
  rintro ⟨⟩ ⟨hlight, hal, hl1, hl2⟩
  have hsm := light_small hlight
  refine cut_rule tabOk (by kernel_rfl) 1 (X := Unit) (fun _ => ∀ c ∈ l, noZZ c) (fun _ => ([(0, .pv (slCd l)), (1, .pv (slU args)), (5, lb true)], [])) ?_ ?_
  · refine loop_rule (X := Nat) tabOk (by kernel_rfl) (fun k => k ≤ l.length ∧ ∀ i, i < k → noZZ (l.getD i dCd)) (fun k => ([(0, .pv (slCd l)), (1, .pv (slU args)), (5, lb true), (7, lt' .i64 k)], [])) (fun k => l.length - k) 0 (And.intro (Nat.zero_le _) (fun i h => absurd h (Nat.not_lt_zero _))) ?_ ?_
    · refine @Exists.intro Ren _ [] ?_
      repeat' first | refine And.intro ?_ ?_ | exact rfl | exact trivial
    rintro k ⟨hk, hz⟩
    refine And.intro ?_ ?_
    case refine_2 =>
      intro h
      have hk' : k = l.length := by have := of_decide_eq_false h; omega
      refine Exists.intro () (And.intro (fun c hc => by
        obtain ⟨i, hi, e⟩ := mem_getD (d := dCd) hc
        rw [← e]; exact hz i (by omega)) (@Exists.intro Ren _ [] ?_))
      repeat' first | refine And.intro ?_ ?_ | exact rfl | exact trivial
    intro h
    have hlt : k < l.length := by have := of_decide_eq_true h; omega
    have hcm : l.getD k dCd ∈ l := by rw [List.getD_eq_getElem?_getD, List.getElem?_eq_getElem hlt]; exact List.getElem_mem hlt
    have hsc := hsm _ hcm
    have hll := hsc.l
    refine And.intro (Int.natCast_nonneg k) (And.intro (by omega) ?_)
    refine And.intro ?_ ?_
    · intro _; exact rfl
    intro hn
    have hn : (l.getD k dCd).name ≠ nmZZ := strEq_ne hn
    refine loop_rule (X := Nat) tabOk (by kernel_rfl) (fun j => j ≤ (l.getD k dCd).l.length ∧ ∀ i, i < j → ((l.getD k dCd).l.getD i dIr).name ≠ nmZZ) (fun j => ([(0, .pv (slCd l)), (1, .pv (slU args)), (5, lb true), (7, lt' .i64 k), (8, lt' .i64 j)], [])) (fun j => (l.getD k dCd).l.length - j) 0 (And.intro (Nat.zero_le _) (fun i h => absurd h (Nat.not_lt_zero _))) ?_ ?_
    · refine @Exists.intro Ren _ [] ?_
      repeat' first | refine And.intro ?_ ?_ | exact rfl | exact trivial
    rintro j ⟨hj, hzj⟩
    refine And.intro (Int.natCast_nonneg k) (And.intro (by omega) ?_)
    refine And.intro ?_ ?_
    case refine_2 =>
      intro h2
      have hj' : j = (l.getD k dCd).l.length := by have : ¬ ((j : Int) < ((l.getD k dCd).l.length : Int)) := of_decide_eq_false h2; omega
      refine @Exists.intro Nat _ (k + 1) (And.intro (by omega) (And.intro (And.intro hlt (fun i hi => ?_)) (@Exists.intro Ren _ [] ?_)))
      · rcases Nat.lt_or_ge i k with h3 | h3
        · exact hz i h3
        · obtain rfl : i = k := by omega
          refine ⟨hn, fun x hx => ?_⟩
          obtain ⟨q, hq, e⟩ := mem_getD (d := dIr) hx
          rw [← e]; exact hzj q (by omega)
      repeat' first | refine And.intro ?_ ?_ | exact rfl | exact trivial | exact mt_int (wrap_succ (by omega))
    intro h2
    have hjt : j < (l.getD k dCd).l.length := by have : ((j : Int) < ((l.getD k dCd).l.length : Int)) := of_decide_eq_true h2; omega
    refine And.intro (Int.natCast_nonneg k) (And.intro (by omega) ?_)
    refine And.intro (Int.natCast_nonneg j) (And.intro (show (j : Int) < ((l.getD k dCd).l.length : Int) by omega) ?_)
    refine And.intro ?_ ?_
    · intro _; exact rfl
    intro hn2
    have hn2 : ((l.getD k dCd).l.getD j dIr).name ≠ nmZZ := strEq_ne hn2
    refine @Exists.intro Nat _ (j + 1) (And.intro (by omega) (And.intro (And.intro hjt (fun i hi => ?_)) (@Exists.intro Ren _ [] ?_)))
    · rcases Nat.lt_or_ge i j with h3 | h3
      · exact hzj i h3
      · obtain rfl : i = j := by omega
        exact hn2
    repeat' first | refine And.intro ?_ ?_ | exact rfl | exact trivial | exact mt_int (wrap_succ (by omega))
  rintro ⟨⟩ hzz
  have hz0 : (l.getD 0 dCd).name ≠ nmZZ := (hzz _ (by rw [List.getD_eq_getElem?_getD, List.getElem?_eq_getElem (by omega : 0 < l.length)]; exact List.getElem_mem _)).1
  have hzs : Small zzC := ⟨Nat.le_of_ble_eq_true rfl, Nat.le_of_ble_eq_true rfl, Nat.le_of_ble_eq_true rfl, by decide⟩
  have hzw : CdOk zzC := by unfold CdOk IrOk; decide
  have h1 := irun_run (name := (l.getD 0 dCd).name) (args := args) hsm hw (by omega) h0 (by omega)
  have h2 := irun_run (l := zzC :: l) (name := (l.getD 0 dCd).name) (args := args) (fun c hc => by rcases List.mem_cons.1 hc with rfl | hc; exact hzs; exact hsm c hc) (fun c hc => by rcases List.mem_cons.1 hc with rfl | hc; exact hzw; exact hw c hc) (by rw [List.length_cons]; omega) h0 (by omega)
  rw [others_all (fun c hc => hzz c hc) hz0] at h2
  obtain ⟨hb1, hb2⟩ := runAll_small (name := (l.getD 0 dCd).name) hw h0
  generalize runAll l (l.getD 0 dCd).name args = y at h1 h2 hb1 hb2
  obtain ⟨o, w, e⟩ := y
  refine Tri.of tabOk (by kernel_rfl) ?_
  refine @Exists.intro (List Ir) _ zzC.l (And.intro rfl (And.intro ?_ ?_))
  · repeat' first | refine And.intro ?_ ?_ | exact rfl | exact trivial
  refine @Exists.intro (List Cd) _ [zzC] (And.intro rfl (And.intro ?_ ?_))
  · repeat' first | refine And.intro ?_ ?_ | exact rfl | exact trivial
  refine @Exists.intro (List Cd) _ l (And.intro rfl (And.intro (show (1 + l.length) * 80 ≤ 140737488355328 by omega) ?_))
  refine And.intro (Int.le_refl 0) (And.intro (show (0 : Int) < (l.length : Int) by omega) ?_)
  refine Or.inl (Exists.intro [.pv (slCd l), .pv (.lit (.string (l.getD 0 dCd).name)), .pv (slU args)] (Exists.intro _ (And.intro (And.intro rfl (And.intro rfl (And.intro rfl trivial))) (And.intro h1 ?_))))
  refine And.intro (Int.le_refl 0) (And.intro (show (0 : Int) < (l.length : Int) by omega) ?_)
  refine Or.inl (Exists.intro [.pv (slCd (zzC :: l)), .pv (.lit (.string (l.getD 0 dCd).name)), .pv (slU args)] (Exists.intro _ (And.intro (And.intro rfl (And.intro rfl (And.intro rfl trivial))) (And.intro h2 ?_))))
  refine Or.inl (Exists.intro [aOc o, aOc o] (Exists.intro _ (And.intro (FitAL.self rfl) (And.intro (self_oc hb1) ?_))))
  refine Or.inl (Exists.intro [.pv (slI w), .pv (slI w)] (Exists.intro _ (And.intro (FitAL.self rfl) (And.intro (self_ints hb2) ?_))))
  repeat' first
    | refine And.intro ?_ ?_
    | (intro h; first | exact absurd h Bool.false_ne_true | exact absurd h.symm Bool.false_ne_true | clear h)
    | refine fit_bool (H := []) ?_
  all_goals simp only [beq_self_eq_true, cond_true]
end Go.Vx

