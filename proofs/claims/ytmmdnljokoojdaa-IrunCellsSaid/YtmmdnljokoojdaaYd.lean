/- Contracts: outcomes compared; the document for a run: names, beginnings, calls. No condition: these are lemmas for the laws. -/
import Derived.Test.YtmmdnljokoojdaaYc
set_option linter.unusedVariables false
set_option linter.unusedSimpArgs false
namespace Go.Vx
open Go.Proofs

/-! ### Are two outcomes, two rows of numbers the same? -/
theorem same_ints {xs ys : List Int} (hx : xs.length ≤ 1000000) (h : xs = ys) : PureCall Try.prog 34 [.pv (slI xs), .pv (slI ys)] (lb true) := by
  subst h
  refine pure_rule tabOk Try.func34 rfl (by kernel_rfl) (by kernel_rfl) (Nat.le_of_ble_eq_true rfl) ?_
  show awp Try.prog tab 26 (bodyOf Try.f34) _ _ _
  have e0 : ((xs.length : Int) != (xs.length : Int)) = false := by rw [bne_self_eq_false]
  refine And.intro ?_ ?_
  · intro h; rw [e0] at h; exact Bool.noConfusion h
  intro _
  refine loop_rule (X := Nat) tabOk (by kernel_rfl) (fun k => k ≤ xs.length) (fun k => ([(0, .pv (slI xs)), (1, .pv (slI xs)), (5, lt' .i64 k)], [])) (fun k => xs.length - k) 0 (Nat.zero_le _) ?_ ?_
  · refine @Exists.intro Ren _ [] ?_
    repeat' first | refine And.intro ?_ ?_ | exact rfl | exact trivial
  intro k hk
  refine And.intro ?_ ?_
  · intro h
    have hlt : k < xs.length := by have := of_decide_eq_true h; omega
    refine draw_lex tabOk mixed false false (by kernel_rfl) ?_
    repeat' first
      | refine And.intro ?_ ?_
      | (intro h2; first | (rw [bne_self_eq_false] at h2; cases h2; done) | clear h2)
    all_goals try refine @Exists.intro Nat _ (k + 1) (And.intro ?_ (And.intro ?_ (@Exists.intro Ren _ [] ?_)))
    all_goals repeat' first | refine And.intro ?_ ?_ | exact rfl | exact trivial | exact mt_int (wrap_succ (by omega))
    all_goals omega
  · intro h
    repeat' first | refine And.intro ?_ ?_ | exact rfl | exact trivial

theorem same_oc {x y : Oc} (hx : x.arrays.length ≤ 1000000) (h : x = y) : PureCall Try.prog 33 [aOc x, aOc y] (lb true) := by
  subst h
  refine pure_rule tabOk Try.func33 rfl (by kernel_rfl) (by kernel_rfl) (Nat.le_of_ble_eq_true rfl) ?_
  show awp Try.prog tab 38 (bodyOf Try.f33) _ _ _
  have e0 : ((x.arrays.length : Int) != (x.arrays.length : Int)) = false := by rw [bne_self_eq_false]
  have e1 : (x.result != x.result) = false := by rw [bne_self_eq_false]
  repeat' first
    | refine And.intro ?_ ?_
    | (intro h; simp only [e0, e1, cond_true, cond_false, reduceCtorEq, Bool.not_true, Bool.not_false] at h; done)
    | (intro h; clear h)
  refine loop_rule (X := Nat) tabOk (by kernel_rfl) (fun k => k ≤ x.arrays.length) (fun k => ([(2, .ptr 0 0), (3, .ptr 1 0), (5, lt' .i64 k)], [.box ((encOc x).map .pv), .box ((encOc x).map .pv)])) (fun k => x.arrays.length - k) 0 (Nat.zero_le _) ?_ ?_
  · refine @Exists.intro Ren _ [some 0, some 1] ?_
    repeat' first | refine And.intro ?_ ?_ | exact rfl | exact trivial
  intro k hk
  refine And.intro ?_ ?_
  · intro h
    have hlt : k < x.arrays.length := by have := of_decide_eq_true h; omega
    refine draw_lex tabOk mixed false false (by kernel_rfl) ?_
    repeat' first
      | refine And.intro ?_ ?_
      | (intro h2; first | (rw [bne_self_eq_false] at h2; cases h2; done) | clear h2)
    all_goals try refine @Exists.intro Nat _ (k + 1) (And.intro ?_ (And.intro ?_ (@Exists.intro Ren _ [some 0, some 1] ?_)))
    all_goals repeat' first | refine And.intro ?_ ?_ | exact rfl | exact trivial | exact mt_int (wrap_succ (by omega))
    all_goals omega
  · intro h
    repeat' first | refine And.intro ?_ ?_ | exact rfl | exact trivial
end Go.Vx

namespace Go.Vx
open Go.Proofs

/-! ### Where a name is -/
def idxC : List Cd → ByteArray → Option Nat
  | [], _ => none
  | c :: l, s => if (s == c.name) = true then some 0 else (idxC l s).map (· + 1)
def idxI (l : List Cd) (s : ByteArray) : Int := match idxC l s with
  | some i => i
  | none => -1
theorem findC_idx : ∀ (l : List Cd) (s : ByteArray), findC l s = (idxC l s).map fun i => l.getD i dCd
  | [], s => rfl
  | c :: l, s => by
    have ih := findC_idx l s
    unfold findC mapOf at ih ⊢
    rw [List.map_cons, look, idxC]
    show (if (s == c.name) = true then some c else look KK.str (l.map fun c => (c.name, c)) s) = _
    split
    · rfl
    · rw [ih]; cases idxC l s <;> rfl
theorem idxC_lt : ∀ {l : List Cd} {s : ByteArray} {i : Nat}, idxC l s = some i → i < l.length
  | [], s, i, h => by cases h
  | c :: l, s, i, h => by
    rw [idxC] at h
    split at h
    · cases h; exact Nat.zero_lt_succ _
    · obtain ⟨j, hj, rfl⟩ := Option.map_eq_some_iff.1 h
      exact Nat.succ_lt_succ (idxC_lt hj)
theorem idxC_here : ∀ {l : List Cd} {s : ByteArray} {i : Nat}, i < l.length → (s == (l.getD i dCd).name) = true → (∀ j, j < i → (s == (l.getD j dCd).name) = false) → idxC l s = some i
  | [], s, i, h, _, _ => by simp at h
  | c :: l, s, 0, _, h, _ => by rw [idxC]; exact if_pos h
  | c :: l, s, i + 1, hi, h, hj => by
    rw [idxC, if_neg (by have := hj 0 (Nat.zero_lt_succ _); rw [show ((c :: l).getD 0 dCd) = c from rfl] at this; rw [this]; decide), idxC_here (l := l) (i := i) (by simpa using hi) h (fun j h => hj (j + 1) (by omega))]
    rfl
theorem idxC_none : ∀ {l : List Cd} {s : ByteArray}, (∀ j, j < l.length → (s == (l.getD j dCd).name) = false) → idxC l s = none
  | [], s, _ => rfl
  | c :: l, s, h => by
    rw [idxC, if_neg (by have := h 0 (Nat.zero_lt_succ _); rw [show ((c :: l).getD 0 dCd) = c from rfl] at this; rw [this]; decide), idxC_none (l := l) fun j hj => h (j + 1) (by simpa using hj)]
    rfl
theorem idxC_append : ∀ (l m : List Cd) (s : ByteArray), idxC (l ++ m) s = match idxC l s with
    | some i => some i
    | none => (idxC m s).map (· + l.length)
  | [], m, s => by cases h : idxC m s <;> simp [idxC, h]
  | c :: l, m, s => by
    rw [List.cons_append, idxC, idxC, idxC_append l m s]
    split
    · rfl
    · cases idxC l s with
      | some i => rfl
      | none => cases idxC m s <;> simp; omega
theorem strEq_beq (a b : ByteArray) : strEq a b = (b == a) := by
  cases h : strEq a b with
  | true => rw [strEq_iff.1 h, bytes_self]
  | false =>
    cases h2 : (b == a) with
    | false => rfl
    | true => rw [bytes_eq h2, strEq_self] at h; cases h

theorem ref_find (l : List Cd) (s : ByteArray) (hl : l.length ≤ 1000000) : PureCall Try.prog 60 [.pv (slCd l), .pv (.lit (.string s))] (lt' .i64 (idxI l s)) := by
  refine pure_rule tabOk Try.func60 rfl (by kernel_rfl) (by kernel_rfl) (Nat.le_of_ble_eq_true rfl) ?_
  show awp Try.prog tab 20 (bodyOf Try.f60) _ _ _
  refine loop_rule (X := Nat) tabOk (by kernel_rfl) (fun k => k ≤ l.length ∧ ∀ j, j < k → (s == (l.getD j dCd).name) = false) (fun k => ([(0, .pv (slCd l)), (1, .pv (.lit (.string s))), (5, lt' .i64 k)], [])) (fun k => l.length - k) 0 (And.intro (Nat.zero_le _) (fun j h => absurd h (Nat.not_lt_zero _))) ?_ ?_
  · refine @Exists.intro Ren _ [] ?_
    repeat' first | refine And.intro ?_ ?_ | exact rfl | exact trivial
  rintro k ⟨hk, hb⟩
  refine And.intro ?_ ?_
  · intro h
    have hlt : k < l.length := by have := of_decide_eq_true h; omega
    refine And.intro (Int.natCast_nonneg k) (And.intro (by omega) ?_)
    refine And.intro ?_ ?_
    · intro h2
      have h2 : strEq (l.getD k dCd).name s = true := h2
      rw [strEq_beq] at h2
      have e : idxI l s = k := by unfold idxI; rw [idxC_here hlt h2 hb]
      exact fit_int (H := []) e.symm
    · intro h2
      have h2 : strEq (l.getD k dCd).name s = false := h2
      rw [strEq_beq] at h2
      refine @Exists.intro Nat _ (k + 1) (And.intro (by omega) (And.intro (And.intro hlt fun j hj => ?_) (@Exists.intro Ren _ [] ?_)))
      · rcases Nat.lt_or_ge j k with h3 | h3
        · exact hb j h3
        · obtain rfl : j = k := by omega
          exact h2
      repeat' first | refine And.intro ?_ ?_ | exact rfl | exact trivial | exact mt_int (wrap_succ (by omega))
  · intro h
    have e : idxI l s = -1 := by unfold idxI; rw [idxC_none fun j hj => hb j (by have := of_decide_eq_false h; omega)]
    exact fit_int (H := []) e.symm

/-! ### The document's beginning of a run -/
theorem wrap_succI {x : Int} (h0 : 0 ≤ x) (h1 : x ≤ 1000000) : IntKind.i64.wrap (x + 1) = x + 1 := wrap_succ' h0 (by omega)
theorem setRange_nil {cs : List Int} {o : Nat} : setRange cs o [] = cs := by unfold setRange; simp
theorem setRange_snoc {cs xs : List Int} {o j : Nat} (hj : j < xs.length) (ho : o + j < cs.length) : (setRange cs o (xs.take j)).set (o + j) (xs.getD j 0) = setRange cs o (xs.take (j + 1)) := by
  have hl : (xs.take j).length = j := by rw [List.length_take]; omega
  have hl1 : (xs.take (j + 1)).length = j + 1 := by rw [List.length_take]; omega
  have e1 : (setRange cs o (xs.take j)).length = cs.length := setRange_length (by rw [hl]; omega)
  have e2 : (setRange cs o (xs.take (j + 1))).length = cs.length := setRange_length (by rw [hl1]; omega)
  refine List.ext_getElem? fun i => ?_
  rw [List.getElem?_set, getElem?_setRange (by rw [hl]; omega), getElem?_setRange (by rw [hl1]; omega), hl, hl1, e1]
  by_cases h1 : o + j = i
  · subst h1
    rw [if_pos rfl, if_pos ho, if_neg (by omega), if_pos (by omega), Nat.add_sub_cancel_left, List.getElem?_take, if_pos (by omega), List.getD_eq_getElem?_getD, List.getElem?_eq_getElem hj]
    rfl
  · rw [if_neg h1]
    by_cases h2 : i < o
    · rw [if_pos h2, if_pos h2]
    · rw [if_neg h2, if_neg h2]
      by_cases h3 : i < o + j
      · rw [if_pos h3, if_pos (by omega), List.getElem?_take, List.getElem?_take, if_pos (by omega), if_pos (by omega)]
      · rw [if_neg h3, if_neg (by omega)]

set_option maxRecDepth 10000 in
set_option maxHeartbeats 2000000 in
theorem ref_begin {c : Cd} (hf : Fine c) {args : List Int} (h0 : ∀ v ∈ args, U v) (hl : args.length = wordsN c.params + cellsN c.params) :
    ImpCall Try.prog 75 [aCd c, .pv (slU args)] [] (.tup [.own 0, .own 1, lt' .i64 (layArgs c args).cell]) [rowU (layArgs c args).regs, rowU (layArgs c args).cells] := by
  have hnp := hf.np
  have hreg := hf.regs
  have hcel := hf.cells
  have hreg0 : 0 ≤ c.regs := by omega
  have hcel0 : 0 ≤ c.cells := by omega
  have hcn := cellsN_le hf.par
  have hwn : wordsN c.params ≤ c.params.length := List.countP_le_length
  refine imp_rule tabOk Try.func75 rfl (by kernel_rfl) (by kernel_rfl) (Nat.le_of_ble_eq_true rfl) (Nat.zero_le _) rfl ?_
  intro s
  show awp Try.prog tab 69 (bodyOf Try.f75) _ _ _
  refine And.intro rfl (And.intro hreg0 (And.intro (show c.regs * 4 ≤ 281474976710656 by omega) (And.intro rfl ?_)))
  refine And.intro rfl (And.intro hcel0 (And.intro (show c.cells * 4 ≤ 281474976710656 by omega) (And.intro rfl ?_)))
  refine loop_rule (X := Nat) tabOk (by kernel_rfl) (fun k => k ≤ c.params.length)
    (fun k => ([(1, .pv (slU args)), (2, .ptr 0 0), (7, .own 1), (8, .own 2), (9, lt' .i64 ((wordsN (c.params.take k) + cellsN (c.params.take k) : Nat) : Int)), (10, lt' .i64 (layTo c args k).reg), (11, lt' .i64 (layTo c args k).cell), (12, lt' .i64 k)], [boxCd c, rowU (layTo c args k).regs, rowU (layTo c args k).cells]))
    (fun k => c.params.length - k) 0 (Nat.zero_le _) ?_ ?_
  · refine @Exists.intro Ren _ [some 0, some 1, some 2] ?_
    repeat' first | refine And.intro ?_ ?_ | exact rfl | exact trivial
  intro k hk
  have hlj := layTo_at hf h0 hl k hk
  refine And.intro ?_ ?_
  case refine_2 =>
    intro h
    have hk' : k = c.params.length := by have := of_decide_eq_false h; omega
    subst hk'
    have e : layTo c args c.params.length = layArgs c args := by unfold layTo; rw [List.take_length]; rfl
    rw [e]
    refine @Exists.intro Ren _ [some 1, some 2] (Exists.intro [] ?_)
    repeat' first | refine And.intro ?_ ?_ | exact rfl | exact trivial
  intro h
  have hlt : k < c.params.length := by have := of_decide_eq_true h; omega
  obtain ⟨hn1, hn2, hn3⟩ := hlj.next hf h0 (layTo_split hlt) hl
  have hnext := layTo_next (c := c) (args := args) hlt
  have htk : c.params.take (k + 1) = c.params.take k ++ [c.params.getD k dTy] := take_getD dTy hlt
  have ht := hf.par (c.params.getD k dTy) (by rw [List.getD_eq_getElem?_getD, List.getElem?_eq_getElem hlt]; exact List.getElem_mem hlt)
  have hwc : wordsN (c.params.take (k + 1)) + cellsN (c.params.take (k + 1)) ≤ args.length := by
    rw [hl]
    have e := List.take_append_drop (k + 1) c.params
    have h1 : wordsN c.params = wordsN (c.params.take (k + 1)) + wordsN (c.params.drop (k + 1)) := by rw [← wordsN_append, e]
    have h2 : cellsN c.params = cellsN (c.params.take (k + 1)) + cellsN (c.params.drop (k + 1)) := by rw [← cellsN_append, e]
    omega
  rw [htk, wordsN_snoc, cellsN_snoc] at hwc
  unfold layStep at hnext
  have e : c.params.getD ((k : Int).toNat) dTy = c.params.getD k dTy := rfl
  have hla := hlj.args
  have hal : (layTo c args k).args.length = args.length - (wordsN (c.params.take k) + cellsN (c.params.take k)) := by rw [hla, List.length_drop]
  have hwords : wordsN (c.params.take (k + 1)) + cellsN (c.params.take (k + 1)) = wordsN (c.params.take k) + (if (c.params.getD k dTy).len = 0 then 1 else 0) + (cellsN (c.params.take k) + (c.params.getD k dTy).len.toNat) := by rw [htk, wordsN_snoc, cellsN_snoc]
  have hregj : (layTo c args k).regs.length ≤ 10000 := by rw [hlj.regsL]; omega
  have hcelj : (layTo c args k).cells.length ≤ 4096 := by rw [hlj.cellsL]; omega
  have hget : ∀ j, (layTo c args k).args.getD j 0 = args.getD (wordsN (c.params.take k) + cellsN (c.params.take k) + j) 0 := fun j => by
    rw [hla, List.getD_eq_getElem?_getD, List.getD_eq_getElem?_getD, List.getElem?_drop]
  generalize hae : wordsN (c.params.take k) + cellsN (c.params.take k) = a at hwords hal hwc hget ⊢
  generalize hne : wordsN (c.params.take (k + 1)) + cellsN (c.params.take (k + 1)) = a' at hwords ⊢
  generalize c.params.getD k dTy = t at hn1 hn2 hn3 hnext ht e hwc hwords
  generalize layTo c args k = L at hn1 hn2 hn3 hnext hlj hregj hcelj hal hget hla ⊢
  refine And.intro (Int.natCast_nonneg k) (And.intro (by omega) ?_)
  by_cases hz : t.len = 0
  · rw [if_pos hz] at hnext
    have hn2 := hn2 hz
    rw [if_pos hz, hz] at hwords
    refine And.intro ?_ ?_
    case refine_2 => intro hb2; rw [e, hz] at hb2; exact Bool.noConfusion hb2
    intro _
    refine And.intro (Int.natCast_nonneg a) (And.intro (by omega) ?_)
    refine And.intro (Int.natCast_nonneg _) (And.intro (show (L.reg : Int) < (L.regs.length : Int) by omega) (And.intro (show L.reg < L.regs.length by omega) ?_))
    refine @Exists.intro (List AV) _ [.pv (pu32 (args.getD a 0))] (And.intro (And.intro (Or.inl rfl) trivial) (@Exists.intro Int _ (args.getD a 0) (And.intro rfl ?_)))
    refine loop_rule (X := Unit) tabOk (by kernel_rfl) (fun _ => True)
      (fun _ => ([(1, .pv (slU args)), (2, .ptr 0 0), (7, .own 1), (8, .own 2), (9, lt' .i64 ((a + 1 : Nat) : Int)), (10, lt' .i64 ((L.reg + 1 : Nat) : Int)), (11, lt' .i64 L.cell), (12, lt' .i64 k), (13, lt' .i64 0)], [boxCd c, rowU (L.regs.set L.reg (args.getD a 0)), rowU L.cells]))
      (fun _ => 0) () trivial ?_ ?_
    · refine @Exists.intro Ren _ [some 0, some 1, some 2] ?_
      repeat' first | refine And.intro ?_ ?_ | exact rfl | exact trivial | exact mt_int (wrap_succ (by omega))
    rintro ⟨⟩ _
    refine And.intro (Int.natCast_nonneg k) (And.intro (by omega) ?_)
    refine And.intro ?_ ?_
    · intro hb2; rw [e, hz] at hb2; exact absurd hb2 (by decide)
    intro _
    have hg0 := hget 0
    rw [Nat.add_zero] at hg0
    refine @Exists.intro Nat _ (k + 1) (And.intro (by omega) (And.intro hlt (@Exists.intro Ren _ [some 0, some 1, some 2] ?_)))
    rw [hne]
    repeat' first
      | refine And.intro ?_ ?_
      | exact rfl
      | exact trivial
      | exact mt_int (wrap_succ (by omega))
      | exact mt_rowU (by rw [hnext, hg0])
      | exact mt_rowU (by rw [hnext])
      | exact mt_int (by rw [hnext])
      | exact mt_int (by omega)
  · rw [if_neg hz] at hnext
    have hn3 := hn3 hz
    rw [if_neg hz] at hwords
    refine And.intro ?_ ?_
    · intro hb2; rw [e, beq_eq_false_iff_ne.2 hz] at hb2; exact Bool.noConfusion hb2
    intro _
    refine loop_rule (X := Nat) tabOk (by kernel_rfl) (fun j => j ≤ t.len.toNat)
      (fun j => ([(1, .pv (slU args)), (2, .ptr 0 0), (7, .own 1), (8, .own 2), (9, lt' .i64 ((a + j : Nat) : Int)), (10, lt' .i64 L.reg), (11, lt' .i64 ((L.cell + j : Nat) : Int)), (12, lt' .i64 k), (13, lt' .i64 j)], [boxCd c, rowU L.regs, rowU (setRange L.cells L.cell (L.args.take j))]))
      (fun j => t.len.toNat - j) 0 (Nat.zero_le _) ?_ ?_
    · refine @Exists.intro Ren _ [some 0, some 1, some 2] ?_
      repeat' first | refine And.intro ?_ ?_ | exact rfl | exact trivial | exact mt_rowU (by rw [List.take_zero, setRange_nil])
    intro j hj
    have hsl : (setRange L.cells L.cell (L.args.take j)).length = L.cells.length := setRange_length (by rw [List.length_take]; omega)
    refine And.intro (Int.natCast_nonneg k) (And.intro (by omega) ?_)
    refine And.intro ?_ ?_
    · intro hb2
      rw [e] at hb2
      have hjt : j < t.len.toNat := by have := of_decide_eq_true hb2; omega
      refine And.intro (Int.natCast_nonneg _) (And.intro (by omega) ?_)
      refine And.intro (Int.natCast_nonneg _) (And.intro (by rw [hsl]; omega) (And.intro (show L.cell + j < _ by rw [hsl]; omega) ?_))
      refine @Exists.intro (List AV) _ [.pv (pu32 (args.getD (a + j) 0))] (And.intro (And.intro (Or.inl rfl) trivial) (@Exists.intro Int _ (args.getD (a + j) 0) (And.intro rfl ?_)))
      refine @Exists.intro Nat _ (j + 1) (And.intro (by omega) (And.intro hjt (@Exists.intro Ren _ [some 0, some 1, some 2] ?_)))
      repeat' first
        | refine And.intro ?_ ?_
        | exact rfl
        | exact trivial
        | exact mt_int (wrap_succ (by omega))
        | exact mt_rowU (by rw [← hget j]; exact setRange_snoc (by omega) (by omega))
    · intro hb2
      rw [e] at hb2
      have hjt : j = t.len.toNat := by have := of_decide_eq_false hb2; omega
      subst hjt
      refine @Exists.intro Nat _ (k + 1) (And.intro (by omega) (And.intro hlt (@Exists.intro Ren _ [some 0, some 1, some 2] ?_)))
      rw [hne]
      repeat' first
        | refine And.intro ?_ ?_
        | exact rfl
        | exact trivial
        | exact mt_int (wrap_succ (by omega))
        | exact mt_rowU (by rw [hnext])
        | exact mt_int (by rw [hnext])
        | exact mt_int (by omega)
end Go.Vx

namespace Go.Vx
open Go.Proofs

def tab2 : Tab := (89, { kind := .struct [(0, 28), (1, 3), (2, 34), (3, 29)], size := 4, bytes := 64, zero := [.nil, lt' .i64 0, .nil, lt' .i64 0], α := Unit, enc := fun _ => [], d := () }) :: tab
theorem tabOk2 : TabOk Try.prog tab2 := .cons (.of (fun h => by cases h) Try.underlying89 ⟨_, rfl, rfl⟩ (by kernel_rfl)) tabOk

@[reducible] def boxRR (q : Nat) (l : List Cd) (r : Rn) : AObj := .box [.pv (slCd l), lt' .i64 r.left, .own q, lt' .i64 r.wrong]
@[reducible] def HRR (l : List Cd) (r : Rn) : Heap := [boxRR 1 l r, rowI r.went]
@[reducible] def HRR' (l : List Cd) (y : Res) : Heap := [boxRR 2 l y.r, .dead, rowI y.r.went, rowU y.cells]
def RunD (l : List Cd) (c : Cd) (args : List Int) (deep : Nat) (r : Rn) (y : Res) : Prop :=
  ImpCall Try.prog 61 [.ptr 0 0, aCd c, .pv (slU args), lt' .i64 deep] (HRR l r) (.tup [.pv (pu32 y.result), .sub 3 0 1 y.cell]) (HRR' l y)
@[reducible] def HCR (l : List Cd) (regs : List Int) (r : Rn) : Heap := [boxRR 1 l r, rowI r.went, rowU regs]
@[reducible] def HCR' (l : List Cd) (regs : List Int) (r : Rn) : Heap := [boxRR 3 l r, .dead, rowU regs, rowI r.went]
def CallD (l : List Cd) (x : Ir) (regs : List Int) (deep : Nat) (r : Rn) (v : Int) (r' : Rn) : Prop :=
  ImpCall Try.prog 76 [.ptr 0 0, aIr x, .own 2, lt' .i64 deep] (HCR l regs r) (.pv (pu32 v)) (HCR' l regs r')

section
variable {l : List Cd} {x : Ir} {regs : List Int} {deep : Nat} {r : Rn}
theorem words_fine {c : Cd} (hf : Fine c) : PureCall Try.prog 46 [.pv (slTy c.params)] (.tup [lt' .i64 (wordsN c.params), lt' .i64 (cellsN c.params)]) := by
  have := ref_words c.params (by have := hf.np; omega)
  rwa [szs_eq hf.par hf.np] at this

theorem callD_none (hl : l.length ≤ 1000000) (h : idxC l x.name = none) : CallD l x regs deep r 0 { r with wrong := 8 } := by
  have e : idxI l x.name = -1 := by unfold idxI; rw [h]
  have hfd := ref_find l x.name hl
  rw [e] at hfd
  refine imp_rule tabOk2 Try.func76 rfl (by kernel_rfl) (by kernel_rfl) (Nat.le_of_ble_eq_true rfl) (Nat.le_of_ble_eq_true rfl) rfl ?_
  intro s
  show awp Try.prog tab2 91 (bodyOf Try.f76) _ _ _
  refine draw_lex tabOk2 mixed false false (by kernel_rfl) ?_
  repeat' first
    | refine And.intro ?_ ?_
    | (intro hb; first | exact absurd hb (by decide) | clear hb)
    | refine Or.inl (Exists.intro [.pv (slCd l), .pv (.lit (.string x.name))] (Exists.intro _ (And.intro (FitAL.self rfl) (And.intro hfd ?_))))
  all_goals try refine @Exists.intro Ren _ [some 0, some 1, some 2, some 1] (Exists.intro [3, 4, 5] ?_)
  all_goals repeat' first | refine And.intro ?_ ?_ | exact rfl | exact trivial

set_option maxRecDepth 10000 in
theorem callD_type1 {i : Nat} {c : Cd} (hl : l.length ≤ 1000000) (h : idxC l x.name = some i) (hc : l.getD i dCd = c) (hf : Fine c) (hw : wordsN c.params ≠ x.args.length) : CallD l x regs deep r 0 { r with wrong := 10 } := by
  have e : idxI l x.name = i := by unfold idxI; rw [h]
  have hi := idxC_lt h
  have hfd := ref_find l x.name hl
  rw [e] at hfd
  subst hc
  have hwf := words_fine hf
  have e0 : decide ((i : Int) < 0) = false := decide_eq_false (by omega)
  have e1 : ((wordsN (l.getD i dCd).params : Int) != (x.args.length : Int)) = true := by rw [bne_iff_ne]; omega
  have e2 : True := trivial
  have e3 : True := trivial
  refine imp_rule tabOk2 Try.func76 rfl (by kernel_rfl) (by kernel_rfl) (Nat.le_of_ble_eq_true rfl) (Nat.le_of_ble_eq_true rfl) rfl ?_
  intro s
  show awp Try.prog tab2 91 (bodyOf Try.f76) _ _ _
  refine draw_lex tabOk2 mixed false false (by kernel_rfl) ?_
  repeat' first
    | refine And.intro ?_ ?_
    | (intro hb; first | exact Bool.noConfusion hb | (simp only [e0, e1, e2, e3, cond_true, cond_false, reduceCtorEq, Bool.not_true, Bool.not_false] at hb; done) | clear hb)
    | refine Or.inl (Exists.intro [.pv (slCd l), .pv (.lit (.string x.name))] (Exists.intro _ (And.intro (FitAL.self rfl) (And.intro hfd ?_))))
    | refine Or.inl (Exists.intro [.pv (slTy (l.getD i dCd).params)] (Exists.intro _ (And.intro (And.intro rfl trivial) (And.intro hwf ?_))))
  all_goals try refine @Exists.intro Ren _ [some 0, some 1, some 2, some 1] (Exists.intro [3, 4, 5] ?_)
  all_goals repeat' first | refine And.intro ?_ ?_ | exact rfl | exact trivial
  all_goals omega

set_option maxRecDepth 10000 in
theorem callD_type2 {i : Nat} {c : Cd} (hl : l.length ≤ 1000000) (h : idxC l x.name = some i) (hc : l.getD i dCd = c) (hf : Fine c) (hw : wordsN c.params = x.args.length) (hcl : 0 < cellsN c.params) : CallD l x regs deep r 0 { r with wrong := 10 } := by
  have e : idxI l x.name = i := by unfold idxI; rw [h]
  have hi := idxC_lt h
  have hfd := ref_find l x.name hl
  rw [e] at hfd
  subst hc
  have hwf := words_fine hf
  have e0 : decide ((i : Int) < 0) = false := decide_eq_false (by omega)
  have e1 : ((wordsN (l.getD i dCd).params : Int) != (x.args.length : Int)) = false := by rw [bne_eq_false_iff_eq]; omega
  have e2 : decide ((cellsN (l.getD i dCd).params : Int) > 0) = true := decide_eq_true (by omega)
  have e3 : True := trivial
  refine imp_rule tabOk2 Try.func76 rfl (by kernel_rfl) (by kernel_rfl) (Nat.le_of_ble_eq_true rfl) (Nat.le_of_ble_eq_true rfl) rfl ?_
  intro s
  show awp Try.prog tab2 91 (bodyOf Try.f76) _ _ _
  refine draw_lex tabOk2 mixed false false (by kernel_rfl) ?_
  repeat' first
    | refine And.intro ?_ ?_
    | (intro hb; first | exact Bool.noConfusion hb | (simp only [e0, e1, e2, e3, cond_true, cond_false, reduceCtorEq, Bool.not_true, Bool.not_false] at hb; done) | clear hb)
    | refine Or.inl (Exists.intro [.pv (slCd l), .pv (.lit (.string x.name))] (Exists.intro _ (And.intro (FitAL.self rfl) (And.intro hfd ?_))))
    | refine Or.inl (Exists.intro [.pv (slTy (l.getD i dCd).params)] (Exists.intro _ (And.intro (And.intro rfl trivial) (And.intro hwf ?_))))
  all_goals try refine @Exists.intro Ren _ [some 0, some 1, some 2, some 1] (Exists.intro [3, 4, 5] ?_)
  all_goals repeat' first | refine And.intro ?_ ?_ | exact rfl | exact trivial
  all_goals omega

set_option maxRecDepth 10000 in
theorem callD_fuel {i : Nat} {c : Cd} (hl : l.length ≤ 1000000) (h : idxC l x.name = some i) (hc : l.getD i dCd = c) (hf : Fine c) (hw : wordsN c.params = x.args.length) (hcl : ¬ 0 < cellsN c.params) (hd : deep = 32) : CallD l x regs deep r 0 { r with wrong := 19 } := by
  have e : idxI l x.name = i := by unfold idxI; rw [h]
  have hi := idxC_lt h
  have hfd := ref_find l x.name hl
  rw [e] at hfd
  subst hc
  have hwf := words_fine hf
  have e0 : decide ((i : Int) < 0) = false := decide_eq_false (by omega)
  have e1 : ((wordsN (l.getD i dCd).params : Int) != (x.args.length : Int)) = false := by rw [bne_eq_false_iff_eq]; omega
  have e2 : decide ((cellsN (l.getD i dCd).params : Int) > 0) = false := decide_eq_false (by omega)
  have e3 : ((deep : Int) == 32) = true := by rw [beq_iff_eq]; omega
  refine imp_rule tabOk2 Try.func76 rfl (by kernel_rfl) (by kernel_rfl) (Nat.le_of_ble_eq_true rfl) (Nat.le_of_ble_eq_true rfl) rfl ?_
  intro s
  show awp Try.prog tab2 91 (bodyOf Try.f76) _ _ _
  refine draw_lex tabOk2 mixed false false (by kernel_rfl) ?_
  repeat' first
    | refine And.intro ?_ ?_
    | (intro hb; first | exact Bool.noConfusion hb | (simp only [e0, e1, e2, e3, cond_true, cond_false, reduceCtorEq, Bool.not_true, Bool.not_false] at hb; done) | clear hb)
    | refine Or.inl (Exists.intro [.pv (slCd l), .pv (.lit (.string x.name))] (Exists.intro _ (And.intro (FitAL.self rfl) (And.intro hfd ?_))))
    | refine Or.inl (Exists.intro [.pv (slTy (l.getD i dCd).params)] (Exists.intro _ (And.intro (And.intro rfl trivial) (And.intro hwf ?_))))
  all_goals try refine @Exists.intro Ren _ [some 0, some 1, some 2, some 1] (Exists.intro [3, 4, 5] ?_)
  all_goals repeat' first | refine And.intro ?_ ?_ | exact rfl | exact trivial
  all_goals omega

def argsOf (x : Ir) (regs : List Int) (k : Nat) : List Int := (x.args.take k).map fun a => regs.getD a.toNat 0
theorem argsOf_next {k : Nat} (h : k < x.args.length) : argsOf x regs k ++ [regs.getD (x.args.getD k 0).toNat 0] = argsOf x regs (k + 1) := by
  unfold argsOf
  rw [take_getD 0 h, List.map_append]; rfl
theorem argsOf_all : argsOf x regs x.args.length = x.args.map fun a => regs.getD a.toNat 0 := by unfold argsOf; rw [List.take_length]
theorem argsOf_length {k : Nat} : (argsOf x regs k).length ≤ k := by unfold argsOf; rw [List.length_map, List.length_take]; exact Nat.min_le_left _ _

set_option maxRecDepth 10000 in
set_option maxHeartbeats 2000000 in
theorem callD_run {i : Nat} {c : Cd} (hl : l.length ≤ 1000000) (h : idxC l x.name = some i) (hc : l.getD i dCd = c) (hf : Fine c) (hw : wordsN c.params = x.args.length) (hcl : ¬ 0 < cellsN c.params) (hd : deep < 32)
    (ha : ∀ a ∈ x.args, 0 ≤ a ∧ a < regs.length) (hal : x.args.length ≤ 6) {y : Res} (hy : RunD l c (x.args.map fun a => regs.getD a.toNat 0) (deep + 1) r y) : CallD l x regs deep r y.result y.r := by
  have e : idxI l x.name = i := by unfold idxI; rw [h]
  have hi := idxC_lt h
  have hfd := ref_find l x.name hl
  rw [e] at hfd
  subst hc
  have hwf := words_fine hf
  have e0 : decide ((i : Int) < 0) = false := decide_eq_false (by omega)
  have e1 : ((wordsN (l.getD i dCd).params : Int) != (x.args.length : Int)) = false := by rw [bne_eq_false_iff_eq]; omega
  have e2 : decide ((cellsN (l.getD i dCd).params : Int) > 0) = false := decide_eq_false (by omega)
  have e3 : ((deep : Int) == 32) = false := by rw [beq_eq_false_iff_ne]; omega
  have e4 : IntKind.i64.wrap ((deep : Int) + 1) = ((deep + 1 : Nat) : Int) := wrap_succ (by omega)
  refine imp_rule tabOk2 Try.func76 rfl (by kernel_rfl) (by kernel_rfl) (Nat.le_of_ble_eq_true rfl) (Nat.le_of_ble_eq_true rfl) rfl ?_
  intro s
  show awp Try.prog tab2 91 (bodyOf Try.f76) _ _ _
  refine draw_lex tabOk2 mixed false false (by kernel_rfl) ?_
  repeat' first
    | refine And.intro ?_ ?_
    | (intro hb; first | exact Bool.noConfusion hb | (simp only [e0, e1, e2, e3, cond_true, cond_false, reduceCtorEq, Bool.not_true, Bool.not_false] at hb; done) | clear hb)
    | refine Or.inl (Exists.intro [.pv (slCd l), .pv (.lit (.string x.name))] (Exists.intro _ (And.intro (FitAL.self rfl) (And.intro hfd ?_))))
    | refine Or.inl (Exists.intro [.pv (slTy (l.getD i dCd).params)] (Exists.intro _ (And.intro (And.intro rfl trivial) (And.intro hwf ?_))))
  · omega
  · omega
  refine loop_rule (X := Nat) tabOk2 (by kernel_rfl) (fun k => k ≤ x.args.length)
    (fun k => ([(0, .ptr 0 0), (2, .own 2), (3, lt' .i64 deep), (5, .ptr 6 0), (9, lt' .i64 i), (12, .own 7), (13, lt' .i64 k)], HCR l regs r ++ pins s 0 (HCR l regs r) ++ [boxIr x, rowU (argsOf x regs k)]))
    (fun k => x.args.length - k) 0 (Nat.zero_le _) ?_ ?_
  · refine @Exists.intro Ren _ [some 0, some 1, some 2, some 3, some 4, some 5, some 6, none] ?_
    repeat' first | refine And.intro ?_ ?_ | exact rfl | exact trivial | decide
  · intro k hk
    refine And.intro ?_ ?_
    · intro hb
      have hlt : k < x.args.length := by have := of_decide_eq_true hb; omega
      have hav := ha (x.args.getD k 0) (by rw [List.getD_eq_getElem?_getD, List.getElem?_eq_getElem hlt]; exact List.getElem_mem hlt)
      repeat' first
        | refine And.intro ?_ ?_
        | refine @Exists.intro (List Int) _ [regs.getD (x.args.getD k 0).toNat 0] (And.intro rfl (And.intro (And.intro (And.intro rfl trivial) trivial) ?_))
        | refine @Exists.intro (List Int) _ _ (And.intro rfl ?_)
      all_goals try refine @Exists.intro Nat _ (k + 1) (And.intro ?_ (And.intro ?_ (@Exists.intro Ren _ [some 0, some 1, some 2, some 3, some 4, some 5, some 6, some 9] ?_)))
      all_goals repeat' first | refine And.intro ?_ ?_ | exact rfl | exact trivial | exact mt_rowU (argsOf_next hlt) | refine mt_int (wrap_succ ?_)
      all_goals first
        | omega
        | exact Int.natCast_nonneg k
        | exact hav.1
        | exact hav.2
        | (show (x.args.getD k 0).toNat < regs.length; omega)
        | (have := @argsOf_length x regs k; show ((argsOf x regs k).length + 1) * 4 ≤ 140737488355328; omega)
    · intro hb
      have hk' : k = x.args.length := by have := of_decide_eq_false hb; omega
      subst hk'
      refine And.intro (Int.natCast_nonneg i) (And.intro (by omega) ?_)
      refine Or.inr (Or.inr (SoftStep.mk' [.ptr 0 0, aCd (l.getD i dCd), .pv (slU (x.args.map fun a => regs.getD a.toNat 0)), lt' .i64 ((deep + 1 : Nat) : Int)] [some 0, some 1] hy rfl ?_ ?_ ?_ ?_))
      · refine And.intro (Or.inr rfl) (And.intro (Or.inr rfl) (And.intro (Or.inl ?_) (And.intro (Or.inl (fit_int e4)) trivial)))
        show PV.sl 1 Int encU 0 (argsOf x regs x.args.length) = _
        rw [argsOf_all]
      · exact And.intro rfl (And.intro mAggC (And.intro rfl (And.intro rfl trivial)))
      · repeat' first | refine And.intro ?_ ?_ | exact rfl | exact trivial
      · refine @Exists.intro Ren _ [some 0, some 1, some 2, some 8] (Exists.intro [3, 4, 5] ?_)
        repeat' first | refine And.intro ?_ ?_ | exact rfl | exact trivial
end
end Go.Vx

