/- Each instruction does what is told of it. No condition: these are lemmas for the laws. -/
import Derived.Test.YtmmdnljokoojdaaVa
import Derived.Laws.CopyRow
import Derived.Laws.IdiomCopy
set_option linter.unusedVariables false
set_option linter.unusedSimpArgs false
namespace Go.Vx
open Go.RowKit (Below)

theorem run_equal_bool {P : Program} {w : World} {t : TypeId} (h : P.underlying t = some .bool) (a b : Bool) : (Op.equal t (.bool a) (.bool b)).run P w = .ok (a == b) w := by
  have h1 : ∀ d, (Op.equalIn (d + 1) t (.bool a) (.bool b)).run P w = .ok (a == b) w := fun d => by simp [Op.equalIn, run_underlying h]
  exact h1 9999

section
variable {P : Program} {T : Tab} {o : Oper} {a : Act} {w : World} {next : Act → World → Prop} {Q : Exit → Act → World → Prop}

theorem wp_val {v : Value} {w' : World} (h : (execOp a.eval o).run P w = .ok (.value v) w') (hn : next (a.put o.dst v) w') : o.wp P a w next Q := by
  unfold Oper.wp; rw [h]; exact hn
theorem wp_skp {w' : World} (h : (execOp a.eval o).run P w = .ok .skip w') (hn : next (a.put o.dst undef) w') : o.wp P a w next Q := by
  unfold Oper.wp; rw [h]; exact hn

variable {w0 : World} {F : Nat → Prop} {S0 S : Cells} {s : Nat → Value} {E : Env} {H : Heap} {K : AV → Heap → Prop}

/-- What is asked of what follows. -/
def Then (w0 : World) (F : Nat → Prop) (S0 : Cells) (E : Env) (tm : Array Value) (K : AV → Heap → Prop) (N : Value → World → Prop) : Prop :=
  ∀ (x : AV) (H' : Heap) (v : Value) (w' : World) (s' : Nat → Value) (S' : Cells), Conc w0 F S0 s' S' E H' tm w' → VR s' H'.length w' S' x v → K x H' → N v w'

/-- An operation yields a value. -/
def Val (P : Program) (o : Oper) (a : Act) (w : World) (N : Value → World → Prop) : Prop := ∃ v w', (execOp a.eval o).run P w = .ok (.value v) w' ∧ N v w'
theorem val_of {N : Value → World → Prop} {v : Value} {w' : World} (h : (execOp a.eval o).run P w = .ok (.value v) w') (hn : N v w') : Val P o a w N := ⟨v, w', h, hn⟩
theorem Val.wp (h : Val P o a w fun v w' => next (a.put o.dst v) w') : o.wp P a w next Q :=
  let ⟨_, _, h1, h2⟩ := h
  wp_val h1 h2
/-- The same, where nothing turns. -/
def ThenS (w : World) (s : Nat → Value) (S : Cells) (H : Heap) (K : AV → Heap → Prop) (N : Value → World → Prop) : Prop :=
  ∀ (x : AV) (v : Value), VR s H.length w S x v → K x H → N v w
theorem Then.still {tm : Array Value} {N : Value → World → Prop} (hn : Then w0 F S0 E tm K N) (C : Conc w0 F S0 s S E H tm w) : ThenS w s S H K N := fun x v hv hk => hn x H v w s S C hv hk

variable (hT : TabOk P T) (C : Conc w0 F S0 s S E H a.tmps w) (hn : Then w0 F S0 E a.tmps K fun v w' => next (a.put o.dst v) w')
include C hn

omit hn in
theorem den_move (hn : ThenS w s S H K fun v w' => next (a.put o.dst v) w') {x : Operand} (ho : o.op = .move x ∨ o.op = .assign x) (h : den P T (.move x) (ev E) H K) : Val P o a w fun v w' => next (a.put o.dst v) w' := by
  simp only [den, hlen_eq, hset_eq] at h
  split at h
  · rename_i v hv
    have hr := C.ev hv
    refine val_of (v := a.eval x) (w' := w) ?_ (hn v _ hr h)
    rcases ho with ho | ho <;> simp [execOp, ho]
  · exact h.elim

omit hn in
theorem den_pick (hn : ThenS w s S H K fun v w' => next (a.put o.dst v) w') {c x y : Operand} (ho : o.op = .pick c x y) (h : den P T (.pick c x y) (ev E) H K) : Val P o a w fun v w' => next (a.put o.dst v) w' := by
  simp only [den, hlen_eq, hset_eq] at h
  split at h
  · rename_i t hc
    have hr := C.ev hc
    have hb : a.eval c = .bool t := by
      generalize a.eval c = v at hr
      cases hr with
      | pv h => cases h; rfl
    have run : ∀ v, v = (if t then a.eval x else a.eval y) → (execOp a.eval o).run P w = .ok (.value v) w := by
      intro v hv
      subst hv
      cases t <;> simp [execOp, ho, hb, asBool]
    split at h
    · rename_i p q hx hy
      have hx' := C.ev hx
      have hy' := C.ev hy
      refine val_of (run _ rfl) (hn _ _ ?_ h)
      cases t
      · exact hy'
      · exact hx'
    · rename_i p q hno hx hy
      have hx' := C.ev hx
      have hy' := C.ev hy
      refine val_of (run _ rfl) ?_
      cases t
      · exact hn _ _ hy' (h.2 rfl)
      · exact hn _ _ hx' (h.1 rfl)
    · exact h.elim
  · exact h.elim

omit C hn in
theorem OR.new_box {n : Nat} {t : TypeId} {cs : List AV} {vs : List Value} (hr : AllR s n w S cs vs) (hlt : ∀ b o, S b o → b < w.heap.size) :
    OR (upd s n (.pointer (some ⟨w.heap.size, 0, none⟩))) (n + 1) (w.alloc (.cells vs.toArray t)) S n (.box cs) := by
  refine ⟨w.heap.size, t, vs, upd_new, heap_alloc_new w _, hr.1, fun j c v hc hv => (hr.2 j c v hc hv).mono (by omega) upd_old (fun _ _ h => h) (fun b o h => World.cell?_alloc_lt w _ _ (hlt b o h)), fun o h => ?_⟩
  have := hlt _ _ h
  omega

omit C hn in
theorem grown_alloc (w : World) (x : Obj) : w.grownBy (w.alloc x) none := World.grownBy_alloc w x none

theorem den_alloc (hT : TabOk P T) {t : TypeId} (ho : o.op = .alloc t) (h : den P T (.alloc t) (ev E) H K) : o.wp P a w next Q := by
  simp only [den, hlen_eq, hset_eq] at h
  split at h
  · rename_i i hi
    obtain ⟨_, _, inf, z, hinf, hsz, _, hz, hzc, h1, _⟩ := hT t i hi
    have hr : AllR s H.length w S i.zero z.cells.toList := by rw [← hzc]; exact AllR.const h1
    refine wp_val (v := .pointer (some ⟨w.heap.size, 0, none⟩)) (w' := w.alloc (.cells z.cells.toList.toArray t)) ?_ (hn _ _ _ _ _ S (C.push (grown_alloc w _) (.box i.zero) _ ?_ (OR.new_box hr C.lt)) ?_ h)
    · simp [execOp, ho, Instr.alloc, zeroValue, typeInfo, hinf, hz, newVar, newRow]
    · intro b hb; cases hb; exact Nat.le_refl _
    · exact .ptr (by simp) upd_new
  · exact h.elim

theorem den_box {t : TypeId} {x : Operand} (ho : o.op = .box t x) (h : den P T (.box t x) (ev E) H K) : o.wp P a w next Q := by
  simp only [den, hlen_eq, hset_eq] at h
  split at h
  · rename_i v hv
    obtain ⟨hnt, h⟩ := chk_inv h
    have hr := (C.ev hv).cells (by rintro vs rfl; simp [noTup] at hnt)
    refine wp_val (v := .pointer (some ⟨w.heap.size, 0, none⟩)) (w' := w.alloc (.cells (a.eval x).cells.toList.toArray t)) ?_ (hn _ _ _ _ _ S (C.push (grown_alloc w _) (.box (cellsOf v)) _ ?_ (OR.new_box hr C.lt)) ?_ h)
    · simp [execOp, ho, Instr.box, newVar, newRow]
    · intro b hb; cases hb; exact Nat.le_refl _
    · exact .ptr (by simp) upd_new
  · exact h.elim

omit C hn in
theorem litsOf_sound : ∀ {as : List AV} {vs us : List Value}, litsOf as = some us → vs.length = as.length → (∀ (j : Nat) (c : AV) (v : Value), as[j]? = some c → vs[j]? = some v → VR s H.length w S c v) → vs = us
  | [], vs, us, h, hl, _ => by
    simp only [litsOf] at h
    cases h
    exact List.eq_nil_of_length_eq_zero hl
  | a :: as, vs, us, h, hl, hr => by
    unfold litsOf at h
    split at h
    · rename_i heq; cases heq
    · rename_i v r heq
      cases heq
      split at h
      · rename_i us' hus
        cases h
        match vs, hl with
        | u :: vs, hl =>
          have h0 := hr 0 _ u rfl rfl
          cases h0 with
          | pv hp =>
            cases hp
            have e := litsOf_sound (vs := vs) hus (by simpa using hl) fun j c v h1 h2 => hr (j + 1) c v (by simpa using h1) (by simpa using h2)
            rw [e]
      · cases h
    · cases h

omit C hn in
theorem litsOf_agg {as : List AV} {us : List Value} (h : litsOf as = some us) {v : Value} (hv : VR s H.length w S (.agg as) v) : v = .agg us.toArray := by
  cases hv with
  | agg hl hr => rw [litsOf_sound h hl hr]

omit hn in
theorem den_binOp (hn : ThenS w s S H K fun v w' => next (a.put o.dst v) w') (hT : TabOk P T) {op : BinOp} {t u : TypeId} {x y : Operand} (ho : o.op = .binOp op t x y u) (h : den P T (.binOp op t x y u) (ev E) H K) : Val P o a w fun v w' => next (a.put o.dst v) w' := by
  simp only [den, hlen_eq, hset_eq] at h
  split at h
  · rename_i p q hx hy
    have hx' := C.ev hx
    have hy' := C.ev hy
    have ex : a.eval x = p := by
      generalize a.eval x = v at hx'
      cases hx' with
      | pv h => cases h; rfl
    have ey : a.eval y = q := by
      generalize a.eval y = v at hy'
      cases hy' with
      | pv h => cases h; rfl
    have guard : ∀ (p q : Value), (∀ cs, p ≠ .agg cs) → p ≠ .nilIface → (eqGuard op t x y p q).run P w = .ok () w := by
      intro p q h1 h2
      cases p <;> first | exact absurd rfl (h1 _) | exact absurd rfl h2 | (cases op <;> simp [eqGuard])
    split at h
    · rename_i c v hb
      have hc : ∀ p, c = some p → p := by
        rintro p rfl
        exact h.1
      have hk : K (.pv (.lit v)) H := by
        cases c with
        | none => exact h
        | some p => exact h.2
      obtain ⟨hrun, h1⟩ := run_binV (P := P) (w := w) (t := t) hb hc
      have hp : (∀ cs, p ≠ .agg cs) ∧ p ≠ .nilIface := by
        unfold binV at hb
        split at hb
        · exact ⟨by simp, by simp⟩
        · exact ⟨by simp, by simp⟩
        · cases hb
      refine val_of (v := v) (w' := w) ?_ (hn _ _ (.pv (.lit v h1)) hk)
      simp [execOp, ho, ex, ey, guard p q hp.1 hp.2, hrun]
    · split at h
      · rename_i p q i hi _
        split at h
        · rename_i hk
          obtain ⟨_, ⟨d, hd, hf⟩, _⟩ := hT t i hi
          rw [hk] at hf
          refine val_of (v := .bool (p == q)) (w' := w) ?_ (hn _ _ (.pv (.lit _ rfl)) h)
          have hf' : d = .bool := hf
          subst hf'
          simp [execOp, ho, ex, ey, guard (.bool p) (.bool q) (by simp) (by simp), binOp, run_equal_bool hd]
        · exact h.elim
      · rename_i p q i hi _
        split at h
        · rename_i hk
          obtain ⟨_, ⟨d, hd, hf⟩, _⟩ := hT t i hi
          rw [hk] at hf
          refine val_of (v := .bool (p != q)) (w' := w) ?_ (hn _ _ (.pv (.lit _ rfl)) h)
          have hf' : d = .bool := hf
          subst hf'
          simp [execOp, ho, ex, ey, guard (.bool p) (.bool q) (by simp) (by simp), binOp, run_equal_bool hd]
          cases p <;> cases q <;> rfl
        · exact h.elim
      · exact h.elim
  · rename_i as bs hx hy
    split at h
    · rename_i xs ys hxs hys
      obtain ⟨r, hrun, h⟩ := h
      have ex := litsOf_agg hxs (C.ev hx)
      have ey := litsOf_agg hys (C.ev hy)
      refine val_of (v := .bool r) (w' := w) ?_ (hn _ _ (.pv (.lit _ rfl)) h)
      simp [execOp, ho, ex, ey, (hrun w).1, (hrun w).2]
    · exact h.elim
  · exact h.elim
end

end Go.Vx

namespace Go.Vx
open Go.RowKit (Below)

theorem add_at (b o j : Nat) : (⟨b, o, none⟩ : Addr).add j = ⟨b, o + j, none⟩ := by
  unfold Addr.add
  split
  · rename_i h; subst h; rfl
  · rfl

theorem VR.lit_inv {s : Nat → Value} {n : Nat} {w : World} {S : Cells} {p v : Value} (h : VR s n w S (.pv (.lit p)) v) : v = p := by
  cases h with
  | pv h => cases h; rfl

theorem isAgg_of {P : Program} {t : TypeId} {d : TypeDesc} {k : TK} (hd : P.underlying t = some d) (hf : k.fits d) (w : World) : (isAgg t).run P w = .ok (isAggK k) w := by
  unfold isAgg
  cases k <;> simp only [TK.fits] at hf
  case struct => obtain ⟨fields, rfl, _⟩ := hf; simp [run_underlying hd, isAggK]
  case other => cases d <;> first | exact hf.elim | (simp [run_underlying hd, isAggK]; done)
  all_goals (subst hf; simp [run_underlying hd, isAggK])

section
variable {P : Program} {T : Tab} {o : Oper} {a : Act} {w : World} {next : Act → World → Prop} {Q : Exit → Act → World → Prop}
variable {w0 : World} {F : Nat → Prop} {S0 S : Cells} {s : Nat → Value} {E : Env} {H : Heap} {K : AV → Heap → Prop}

/-- Cells that lie one behind the other, read as a value of a type. -/
theorem run_loadVar_cells {n : Nat} (hT : TabOk P T) {t : TypeId} {i : TI} (hi : T.get t = some i) {b off : Nat} {cs : List AV} {vs : List Value} (hr : AllR s n w S cs vs)
    (hc : ∀ (j : Nat) (v : Value), vs[j]? = some v → w.cell? ⟨b, off + j, none⟩ = some v) {k : Nat} {M : AV → Prop} (h : takeV i cs k M) :
    ∃ x v, (loadVar t ⟨b, off + k, none⟩).run P w = .ok v w ∧ VR s n w S x v ∧ M x := by
  obtain ⟨_, ⟨d, hd, hf⟩, inf, z, hinf, hsz, _⟩ := hT t i hi
  rcases takeV_inv h with ⟨hk, hle, h⟩ | ⟨hk, c, hcj, h⟩
  · refine ⟨_, .agg ((vs.drop k).take i.size).toArray, ?_, ?_, h⟩
    · have hlen : ((vs.drop k).take i.size).length = i.size := by simp; have := hr.1; omega
      have hl := run_loadCells_list (P := P) w ⟨b, off + k, none⟩ ((vs.drop k).take i.size) (by
        intro j v hj
        rw [List.getElem?_take] at hj
        split at hj
        · rw [List.getElem?_drop] at hj
          rw [add_at, Nat.add_assoc]
          exact hc _ _ hj
        · cases hj)
      rw [hlen] at hl
      simp only [loadVar, Sem.run_bind, isAgg_of hd hf, Result.andThen_ok, hk, if_true]
      simp [sizeOf, typeInfo, hinf, hsz, hl]
    · have := hr.sub k i.size
      exact .agg this.1 this.2
  · obtain ⟨v, hv, hrv⟩ := hr.at_ hcj
    refine ⟨c, v, ?_, hrv, h⟩
    simp only [loadVar, Sem.run_bind, isAgg_of hd hf, Result.andThen_ok, hk]
    simp [hc _ _ hv]

variable (C : Conc w0 F S0 s S E H a.tmps w) (hn : Then w0 F S0 E a.tmps K fun v w' => next (a.put o.dst v) w')
include C

/-- The cells of a row's element. -/
theorem Conc.elem {id : Nat} {ro : Bool} {e : TypeId} {sz : Nat} {α : Type} {enc : α → List PV} {d : α} {xs : List α} (hi : H[id]? = some (.row ro e sz α enc d xs)) {j : Nat} (hj : j < xs.length) :
    ∃ (b c : Nat) (vs : List Value), s id = .slice (some ⟨b, 0, none⟩) xs.length c ∧ AllR s H.length w S ((enc (xs.getD j d)).map AV.pv) vs ∧ vs.length = sz ∧ ∀ (k : Nat) (v : Value), vs[k]? = some v → w.cell? ⟨b, j * sz + k, none⟩ = some v := by
  obtain ⟨cs, h1, h0, h2, h3, h4⟩ := C.objs id _ hi
  obtain ⟨g, cap, hs⟩ : ∃ g cap, s id = .slice (some ⟨g, 0, none⟩) xs.length cap := by
    rcases h1.2 with ⟨_, hz⟩ | ⟨g, cap, cur, hs, _⟩
    · omega
    · exact ⟨g, cap, hs⟩
  have hlen : cs.length = xs.length * sz := h1.1
  have hle : (j + 1) * sz ≤ xs.length * sz := Nat.mul_le_mul_right _ hj
  rw [Nat.add_mul, Nat.one_mul] at hle
  have hz := h2 j hj
  refine ⟨g, cap, (cs.drop (j * sz)).take sz, hs, ⟨by rw [List.length_take, List.length_drop, List.length_map, hz]; omega, fun k c v hc hv => ?_⟩, by rw [List.length_take, List.length_drop]; omega, fun k v hv => ?_⟩
  · rw [List.getElem?_map] at hc
    cases hp : (enc (xs.getD j d))[k]? with
    | none => rw [hp] at hc; cases hc
    | some p =>
      rw [hp] at hc
      cases hc
      obtain ⟨u, hu, hr⟩ := h3 j k p hj hp
      rw [List.getElem?_take] at hv
      split at hv
      · rw [List.getElem?_drop, hu] at hv
        cases hv
        exact .pv hr
      · cases hv
  · rw [List.getElem?_take] at hv
    split at hv
    · rw [List.getElem?_drop] at hv
      have := h1.cells (g := g) (by rw [hs]; rfl) (j * sz + k) v hv
      rwa [add_at, Nat.zero_add] at this
    · cases hv

include hn

omit hn in
theorem den_load (hn : ThenS w s S H K fun v w' => next (a.put o.dst v) w') (hT : TabOk P T) {t : TypeId} {x : Operand} (ho : o.op = .load t x) (h : den P T (.load t x) (ev E) H K) : Val P o a w fun v w' => next (a.put o.dst v) w' := by
  simp only [den, hlen_eq, hset_eq] at h
  split at h
  · rename_i id off i hx hi
    have hr := C.ev hx
    split at h
    · rename_i cs hb
      obtain ⟨b, u, vs, h1, h2, h3, h4, h5⟩ := C.objs id _ hb
      obtain ⟨y, v, hrun, hv, hk⟩ := run_loadVar_cells (b := b) (off := 0) hT hi ⟨h3, h4⟩ (fun j v hj => by simp [World.cell?, h2, hj]) h
      rw [Nat.zero_add] at hrun
      have hp : a.eval x = .pointer (some ⟨b, off, none⟩) := by
        generalize a.eval x = q at hr
        cases hr with
        | ptr hlt he => rw [h1] at he; cases he; rfl
      exact val_of (v := v) (w' := w) (by simp [execOp, ho, hp, Instr.loadAt, Instr.sureAddr, hrun]) (hn y v hv hk)
    · exact h.elim
  · rename_i cs off i hx hi
    have hr := C.ev hx
    generalize hq : a.eval x = q at hr
    cases hr with
    | rptr u hu =>
      rename_i b base
      let vs := (List.range cs.length).map u
      have hvs : ∀ (j : Nat) (v : Value), vs[j]? = some v → j < cs.length ∧ v = u j := by
        intro j v hj
        rw [List.getElem?_map] at hj
        cases hr' : (List.range cs.length)[j]? with
        | none => rw [hr'] at hj; cases hj
        | some m =>
          rw [hr'] at hj
          have := List.getElem?_eq_some_iff.1 hr'
          obtain ⟨h1, h2⟩ := this
          simp at h1 h2
          subst h2
          cases hj
          exact ⟨h1, rfl⟩
      have hall : AllR s H.length w S (cs.map AV.pv) vs := by
        refine ⟨by simp [vs], fun j c v hc hv => ?_⟩
        obtain ⟨_, rfl⟩ := hvs j v hv
        rw [List.getElem?_map] at hc
        cases hp : cs[j]? with
        | none => rw [hp] at hc; cases hc
        | some p => rw [hp] at hc; cases hc; exact .pv (hu j p hp).2.2
      obtain ⟨y, v, hrun, hv, hk⟩ := run_loadVar_cells (b := b) (off := base) hT hi hall (fun j v hj => by
        obtain ⟨hlt, rfl⟩ := hvs j v hj
        exact (hu j _ (List.getElem?_eq_getElem hlt)).2.1) h
      exact val_of (v := v) (w' := w) (by simp [execOp, ho, hq, Instr.loadAt, Instr.sureAddr, hrun]) (hn y v hv hk)
  · rename_i id j sz off i hx hi
    have hr := C.ev hx
    split at h
    · rename_i ro e sz' α enc d xs hb
      replace h := chk_inv h
      obtain ⟨hzz, hj, h⟩ := h
      obtain rfl := Nat.eq_of_beq_eq_true hzz
      obtain ⟨b, c, vs, h1, h2, h3, h4⟩ := C.elem hb hj
      obtain ⟨y, v, hrun, hv, hk⟩ := run_loadVar_cells (b := b) (off := j * sz') hT hi h2 h4 h
      have hp : a.eval x = .pointer (some ⟨b, j * sz' + off, none⟩) := by
        generalize a.eval x = q at hr
        cases hr with
        | eptr hlt he => rw [h1] at he; cases he; rfl
      exact val_of (v := v) (w' := w) (by simp [execOp, ho, hp, Instr.loadAt, Instr.sureAddr, hrun]) (hn y v hv hk)
    · exact h.elim
  · exact h.elim

omit hn in
theorem den_fieldAddr (hn : ThenS w s S H K fun v w' => next (a.put o.dst v) w') (hT : TabOk P T) {t : TypeId} {x : Operand} {f : Nat} (ho : o.op = .fieldAddr t x f) (h : den P T (.fieldAddr t x f) (ev E) H K) : Val P o a w fun v w' => next (a.put o.dst v) w' := by
  simp only [den, hlen_eq, hset_eq] at h
  split at h
  · rename_i y i hx hi
    have hr := C.ev hx
    split at h
    · rename_i fs hk
      obtain ⟨_, ⟨d, hd, hf⟩, _⟩ := hT t i hi
      rw [hk] at hf
      obtain ⟨fields, rfl, hfs⟩ := hf
      split at h
      · rename_i off ft hfo
        obtain ⟨fl, hfl, hoff⟩ : ∃ fl : Field, fields[f]? = some fl ∧ fl.offset = off := by
          rw [← hfs, List.getElem?_map] at hfo
          cases hg : fields.toList[f]? with
          | none => rw [hg] at hfo; cases hfo
          | some fl => rw [hg] at hfo; cases hfo; exact ⟨fl, by simpa using hg, rfl⟩
        subst hoff
        split at h
        case h_2 => exact h.elim
        rename_i fj hfj
        obtain ⟨_, _, finf, _, hfinf, hfsz, _⟩ := hT ft fj hfj
        split at h
        case h_1 => exact h.elim
        rename_i nn hnn
        have hft : fl.type = ft := by
          rw [← hfs, List.getElem?_map] at hfo
          simp [hfl] at hfo
          exact hfo
        have hne : finf.size ≠ 0 := by omega
        have run : ∀ b k, a.eval x = .pointer (some ⟨b, k, none⟩) → (execOp a.eval o).run P w = .ok (.value (.pointer (some ⟨b, k + fl.offset, none⟩))) w := by
          intro b k hp
          simp [execOp, ho, hp, Instr.fieldAt, run_underlying hd, hfl, Instr.sureAddr, fieldPlace, add_at, hft, sizeOf, typeInfo, hfinf, hne]
        generalize hq : a.eval x = q at hr
        split at h
        · cases hr with
          | ptr hlt he => exact val_of (run _ _ hq) (hn _ _ (.ptr hlt he) h)
        · cases hr with
          | eptr hlt he =>
            refine val_of (run _ _ hq) (hn _ _ ?_ h)
            rw [Nat.add_assoc]
            exact .eptr hlt he
        · cases hr with
          | rptr u hu =>
            refine val_of (run _ _ hq) (hn _ _ ?_ h)
            rw [Nat.add_assoc]
            exact .rptr u hu
        · exact h.elim
      · exact h.elim
    · exact h.elim
  · exact h.elim
end

end Go.Vx

namespace Go.Vx
open Go.RowKit (Below)

section
variable {P : Program} {T : Tab} {o : Oper} {a : Act} {w : World} {next : Act → World → Prop} {Q : Exit → Act → World → Prop}
variable {w0 : World} {F : Nat → Prop} {S0 S : Cells} {s : Nat → Value} {E : Env} {H : Heap} {K : AV → Heap → Prop}

theorem grown_setRow (w : World) (g : Nat) (cs : Array Value) : w.grownBy (w.setRow g cs) (some g) :=
  ⟨rfl, rfl, rfl, by simp, fun k hk hne => setRow_other w g k cs (fun e => hne (by rw [e]))⟩

variable (C : Conc w0 F S0 s S E H a.tmps w) (hn : Then w0 F S0 E a.tmps K fun v w' => next (a.put o.dst v) w')
include C hn

theorem den_store (hT : TabOk P T) {t : TypeId} {x y : Operand} (ho : o.op = .store t x y) (h : den P T (.store t x y) (ev E) H K) : o.wp P a w next Q := by
  simp only [den, hlen_eq, hset_eq] at h
  split at h
  · rename_i id off v i hx hy hi
    have hr := C.ev hx
    have hry := C.ev hy
    split at h
    · rename_i cs hb
      replace h := chk_inv h
      obtain ⟨hck, h⟩ := h
      simp only [Bool.and_eq_true] at hck
      obtain ⟨⟨⟨hnt, hall⟩, hlen⟩, hle⟩ := hck
      replace hlen := isLen_eq hlen
      replace hle := hasLen_le hle
      obtain ⟨b, u, vs, h1, h2, h3, h4, h5⟩ := C.objs id _ hb
      obtain ⟨_, _, inf, z, hinf, hsz, _⟩ := hT t i hi
      have hc := hry.cells (by rintro vs rfl; simp [noTup] at hnt)
      have h1c := hry.isCells hall
      have hp : a.eval x = .pointer (some ⟨b, off, none⟩) := by
        generalize a.eval x = q at hr
        cases hr with
        | ptr hlt he => rw [h1] at he; cases he; rfl
      have hvl : (a.eval y).cells.toList.length = i.size := hc.1.trans hlen
      have hst := run_storeCells_at (P := P) b off u (a.eval y).cells.toList 0 vs.toArray w h2 (by simp only [List.size_toArray]; omega) (fun v hv => List.all_eq_true.1 h1c v hv)
      have hcells : AllR s H.length w S (setRange cs off (cellsOf v)) (setRange vs off (a.eval y).cells.toList) := AllR.set_ ⟨h3, h4⟩ hc (by rw [hlen]; exact hle)
      have hg := grown_setRow w b (setRange vs off (a.eval y).cells.toList).toArray
      have hh := setRow_heap w b vs.toArray (setRange vs off (a.eval y).cells.toList).toArray u (0, 0) h2
      refine wp_skp (w' := w.setRow b (setRange vs off (a.eval y).cells.toList).toArray) ?_ (hn (.tup []) _ undef _ s S (C.turn id _ (.box (setRange cs off (cellsOf v))) hb (by simp) (some b) (fun b' hb' => by cases hb'; rw [h1]; rfl) (fun b' hb' => by rw [h1] at hb'; cases hb'; rfl) hg (fun b' o' hb' hS => by cases hb'; exact absurd hS (h5 o')) ?_) ?_ h)
      · have hsize : (a.eval y).cells.size = inf.size := by rw [← Array.length_toList, hvl, hsz]
        simp only [Nat.add_zero] at hst
        simp [execOp, ho, hp, Instr.storeAt, Instr.sureAddr, storeVar, sizeOf, typeInfo, hinf, hsize]
        rw [show (storeCells ⟨b, off, none⟩ (a.eval y).cells.toList).run P w = _ from hst]
        simp [setRange]
      · have hst' : ∀ b' o', S b' o' → (w.setRow b (setRange vs off (a.eval y).cells.toList).toArray).cell? ⟨b', o', none⟩ = w.cell? ⟨b', o', none⟩ := C.stay hg (fun b' o' hb' hS => by cases hb'; exact absurd hS (h5 o'))
        have hm := hcells.mono (Nat.le_refl _) (fun _ _ => rfl) (fun _ _ h => h) hst'
        exact ⟨b, u, _, h1, hh, hm.1, hm.2, h5⟩
      · exact .tup (vs := []) rfl (fun j c v hc => by simp at hc)
    · exact h.elim
  · rename_i id j sz off v i hx hy hi
    have hr := C.ev hx
    have hry := C.ev hy
    split at h
    · rename_i e sz' α enc d xs hb
      replace h := chk_inv h
      obtain ⟨hck, hj, cs', hfn, x', hx', h⟩ := h
      simp only [Bool.and_eq_true] at hck
      obtain ⟨⟨⟨⟨hnt, hall⟩, hlen⟩, hzz⟩, hle⟩ := hck
      replace hlen := isLen_eq hlen
      obtain rfl := Nat.eq_of_beq_eq_true hzz
      replace hle := Nat.le_of_ble_eq_true hle
      obtain ⟨cs, h1, h0, h2, h3, h4⟩ := C.objs id _ hb
      obtain ⟨_, _, inf, z, hinf, hsz, _⟩ := hT t i hi
      have hc := hry.cells (by rintro vs rfl; simp [noTup] at hnt)
      have h1c := hry.isCells hall
      have hvl : (a.eval y).cells.toList.length = i.size := hc.1.trans hlen
      replace hc := hfn.allR hc
      replace hlen : cs'.length = i.size := hfn.length.trans hlen
      rcases h1.2 with ⟨_, hz⟩ | ⟨g, cap, cur, hs, _, hg, hcap, hmax, hcs, htk⟩
      · omega
      have hp : a.eval x = .pointer (some ⟨g, j * sz' + off, none⟩) := by
        generalize a.eval x = q at hr
        cases hr with
        | eptr hlt he => rw [hs] at he; cases he; rfl
      have hjz : (j + 1) * sz' ≤ xs.length * sz' := Nat.mul_le_mul_right _ hj
      rw [Nat.add_mul, Nat.one_mul] at hjz
      have hcz : xs.length * sz' ≤ cap * sz' := Nat.mul_le_mul_right _ hcap
      have hst := run_storeCells_at (P := P) g (j * sz' + off) e (a.eval y).cells.toList 0 cur w hg (by omega) (fun v hv => List.all_eq_true.1 h1c v hv)
      let us := (a.eval y).cells.toList
      have hus : us.length = i.size := hvl
      have hgr := grown_setRow w g (setRange cur.toList (j * sz' + off) us).toArray
      have hh := setRow_heap w g cur (setRange cur.toList (j * sz' + off) us).toArray e (0, 0) hg
      have hnoS : ∀ o', ¬ S g o' := fun o' hS => by have := h4 g o' (by rw [hs]; rfl) hS; simp at this
      have hst' : ∀ b' o', S b' o' → (w.setRow g (setRange cur.toList (j * sz' + off) us).toArray).cell? ⟨b', o', none⟩ = w.cell? ⟨b', o', none⟩ := C.stay hgr (fun b' o' hb' hS => by cases hb'; exact absurd hS (hnoS o'))
      have hcur : cur.toList.length = cap * sz' := by rw [Array.length_toList]; exact hcs
      have hlcs : cs.length = xs.length * sz' := h1.1
      refine wp_skp (w' := w.setRow g (setRange cur.toList (j * sz' + off) us).toArray) ?_ (hn (.tup []) _ undef _ s S (C.turn id _ (.row false e sz' α enc d (xs.set j x')) hb (by simp) (some g) (fun b' hb' => by cases hb'; rw [hs]; rfl) (fun b' hb' => by rw [hs] at hb'; cases hb'; rfl) hgr (fun b' o' hb' hS => by cases hb'; exact absurd hS (hnoS o')) ?_) ?_ h)
      · have hsize : (a.eval y).cells.size = inf.size := by rw [← Array.length_toList, hvl, hsz]
        simp only [Nat.add_zero] at hst
        simp [execOp, ho, hp, Instr.storeAt, Instr.sureAddr, storeVar, sizeOf, typeInfo, hinf, hsize]
        rw [show (storeCells ⟨g, j * sz' + off, none⟩ (a.eval y).cells.toList).run P w = _ from hst]
        rfl
      · have hget : ∀ m, (setRange cs (j * sz' + off) us)[m]? = if m < j * sz' + off then cs[m]? else if m < j * sz' + off + us.length then us[m - (j * sz' + off)]? else cs[m]? := fun m => getElem?_setRange (by omega) m
        have hxl := congrArg List.length hx'
        rw [List.length_map, setRange_length (by rw [hlen, List.length_map, h2 j hj]; omega), List.length_map, h2 j hj] at hxl
        have hset : ∀ k, k < xs.length → (xs.set j x').getD k d = if k = j then x' else xs.getD k d := by
          intro k hk
          rw [List.getD_eq_getElem?_getD, List.getElem?_set, List.getD_eq_getElem?_getD]
          by_cases hkj : j = k
          · subst hkj; simp [hj]
          · rw [if_neg hkj, if_neg (fun e => hkj e.symm)]
        refine ⟨setRange cs (j * sz' + off) us, ⟨by rw [setRange_length (by omega), List.length_set]; exact hlcs, ?_⟩, h0, ?_, ?_, ?_⟩
        · rw [List.length_set]
          refine .inr ⟨g, cap, _, hs, Nat.zero_le _, hh, hcap, hmax, ?_, ?_⟩
          · rw [List.size_toArray, setRange_length (by rw [hcur]; omega)]; exact hcur
          · rw [← htk]
            unfold setRange
            apply List.ext_getElem?
            intro m
            have e1 := getElem?_setRange (cs := cur.toList) (vs := us) (off := j * sz' + off) (by omega) m
            have e2 := getElem?_setRange (cs := cur.toList.take (xs.length * sz')) (vs := us) (off := j * sz' + off) (by rw [List.length_take]; omega) m
            unfold setRange at e1 e2
            rw [e2, List.getElem?_take]
            split
            · rw [e1]
              simp only [List.getElem?_take]
              split <;> (try split) <;> first | rfl | (rename_i hlt _; simp [hlt]) | (simp_all)
            · rename_i hge
              simp only [List.getElem?_take, if_neg hge]
              rw [if_neg (by omega), if_neg (by omega)]
        · intro k hk
          rw [List.length_set] at hk
          rw [hset k hk]
          split
          · exact hxl
          · exact h2 k hk
        · intro k m p hk hp'
          rw [List.length_set] at hk
          rw [hset k hk] at hp'
          rw [hget]
          by_cases hkj : k = j
          · subst hkj
            rw [if_pos rfl] at hp'
            have hm : m < sz' := by rw [← hxl]; exact (List.getElem?_eq_some_iff.1 hp').1
            have hq : ((enc x').map AV.pv)[m]? = (setRange ((enc (xs.getD k d)).map AV.pv) off cs')[m]? := by rw [hx']
            rw [List.getElem?_map, hp', Option.map_some, getElem?_setRange (by rw [hlen, List.length_map, h2 k hj]; omega)] at hq
            by_cases hm1 : m < off
            · rw [if_pos hm1, List.getElem?_map] at hq
              rw [if_pos (by omega)]
              cases hq' : (enc (xs.getD k d))[m]? with
              | none => rw [hq'] at hq; cases hq
              | some p' =>
                rw [hq'] at hq
                cases hq
                obtain ⟨u, hu, hru⟩ := h3 k m p hj hq'
                exact ⟨u, hu, hru.mono (fun _ _ h => h) hst'⟩
            · rw [if_neg hm1] at hq
              rw [if_neg (by omega)]
              by_cases hm2 : m < off + cs'.length
              · rw [if_pos hm2] at hq
                rw [if_pos (by omega)]
                obtain ⟨u, hu, hru⟩ := hc.at_ hq.symm
                refine ⟨u, by rw [show k * sz' + m - (k * sz' + off) = m - off by omega]; exact hu, ?_⟩
                cases hru with
                | pv hp => exact hp.mono (fun _ _ h => h) hst'
              · rw [if_neg hm2, List.getElem?_map] at hq
                rw [if_neg (by omega)]
                cases hq' : (enc (xs.getD k d))[m]? with
                | none => rw [hq'] at hq; cases hq
                | some p' =>
                  rw [hq'] at hq
                  cases hq
                  obtain ⟨u, hu, hru⟩ := h3 k m p hj hq'
                  exact ⟨u, hu, hru.mono (fun _ _ h => h) hst'⟩
          · rw [if_neg hkj] at hp'
            have hm : m < sz' := by rw [← h2 k hk]; exact (List.getElem?_eq_some_iff.1 hp').1
            obtain ⟨u, hu, hru⟩ := h3 k m p hk hp'
            have hout : k * sz' + m < j * sz' + off ∨ j * sz' + off + us.length ≤ k * sz' + m := by
              rcases Nat.lt_or_gt_of_ne hkj with hlt | hgt
              · left
                have : (k + 1) * sz' ≤ j * sz' := Nat.mul_le_mul_right _ hlt
                rw [Nat.add_mul, Nat.one_mul] at this
                omega
              · right
                have : (j + 1) * sz' ≤ k * sz' := Nat.mul_le_mul_right _ hgt
                rw [Nat.add_mul, Nat.one_mul] at this
                omega
            refine ⟨u, ?_, hru.mono (fun _ _ h => h) hst'⟩
            rcases hout with h' | h'
            · rw [if_pos h']; exact hu
            · rw [if_neg (by omega), if_neg (by omega)]; exact hu
        · intro b o' hb' hS
          rw [hs] at hb'
          cases hb'
          exact absurd hS (hnoS o')
      · exact .tup (vs := []) rfl (fun j c v hc => by simp at hc)
    · exact h.elim
  · exact h.elim
end

end Go.Vx

namespace Go.Vx
open Go.RowKit (Below)

section
variable {P : Program} {T : Tab} {o : Oper} {a : Act} {w : World} {next : Act → World → Prop} {Q : Exit → Act → World → Prop}
variable {w0 : World} {F : Nat → Prop} {S0 S : Cells} {s : Nat → Value} {E : Env} {H : Heap} {K : AV → Heap → Prop}

theorem getAll_sound (C : Conc w0 F S0 s S E H a.tmps w) : ∀ (xs : List Operand) {as : List AV}, getAll (ev E) xs = some as → AllR s H.length w S as (xs.map a.eval)
  | [], as, h => by cases h; exact AllR.nil
  | x :: xs, as, h => by
    simp only [getAll] at h
    split at h
    · rename_i v hv
      split at h
      · rename_i vs hvs
        cases h
        exact AllR.cons (C.ev hv) (getAll_sound C xs hvs)
      · cases h
    · cases h

theorem getParts_sound (C : Conc w0 F S0 s S E H a.tmps w) : ∀ (xs : List (Nat × Operand)) {ps : List (Nat × AV)}, getParts (ev E) xs = some ps →
    ps.length = xs.length ∧ ∀ (j i : Nat) (x : AV) (k : Nat) (v : Value), ps[j]? = some (i, x) → (xs.map fun p => (p.1, a.eval p.2))[j]? = some (k, v) → i = k ∧ VR s H.length w S x v
  | [], ps, h => by cases h; exact ⟨rfl, fun j i x k v hj => by simp at hj⟩
  | (i, x) :: xs, ps, h => by
    simp only [getParts] at h
    split at h
    · rename_i v hv
      split at h
      · rename_i vs hvs
        cases h
        obtain ⟨h1, h2⟩ := getParts_sound C xs hvs
        refine ⟨by simp [h1], fun j i' x' k u hj hu => ?_⟩
        cases j with
        | zero => simp at hj hu; obtain ⟨rfl, rfl⟩ := hj; obtain ⟨rfl, rfl⟩ := hu; exact ⟨rfl, C.ev hv⟩
        | succ j => exact h2 j i' x' k u (by simpa using hj) (by simpa using hu)
      · cases h
    · cases h

theorem run_places {P : Program} {T : Tab} (hT : TabOk P T) (w : World) : ∀ (fields : List Field) {pl : List (Nat × Nat)}, places T (fields.map fun f => (f.offset, f.type)) = some pl →
    (fields.mapM (m := Sem) fun f => do pure (f.offset, ← sizeOf f.type)).run P w = .ok pl w
  | [], pl, h => by cases h; rfl
  | f :: fields, pl, h => by
    simp only [List.map_cons, places] at h
    split at h
    · rename_i i hi
      split at h
      · rename_i ps hps
        cases h
        obtain ⟨_, _, inf, z, hinf, hsz, _⟩ := hT _ i hi
        have ih := run_places hT w fields hps
        simp only [List.mapM_cons, Sem.run_bind]
        simp only [sizeOf, typeInfo, Sem.run_bind, run_program, Result.andThen_ok, hinf, Sem.run_pure, hsz]
        have ih' := ih
        simp only [sizeOf, typeInfo] at ih'
        rw [ih']
        rfl
      · cases h
    · cases h

variable (C : Conc w0 F S0 s S E H a.tmps w) (hn : Then w0 F S0 E a.tmps K fun v w' => next (a.put o.dst v) w')
include C hn

omit hn in
theorem den_build (hn : ThenS w s S H K fun v w' => next (a.put o.dst v) w') (hT : TabOk P T) {t : TypeId} {parts : Array (Nat × Operand)} (ho : o.op = .build t parts) (h : den P T (.build t parts) (ev E) H K) : Val P o a w fun v w' => next (a.put o.dst v) w' := by
  simp only [den, hlen_eq, hset_eq] at h
  split at h
  · rename_i i ps hi hps
    split at h
    · rename_i fs hk
      obtain ⟨_, ⟨d, hd, hf⟩, inf, z, hinf, hsz, _, hz, hzc, hz1, hzs, _⟩ := hT t i hi
      rw [hk] at hf
      obtain ⟨fields, rfl, hfs⟩ := hf
      split at h
      · rename_i pl hpl
        obtain ⟨hnt, h⟩ := chk_inv h
        split at h
        · rename_i cs hcs
          obtain ⟨hl, hparts⟩ := getParts_sound C parts.toList hps
          have hzr : AllR s H.length w S i.zero z.cells.toList := by rw [← hzc]; exact AllR.const hz1
          obtain ⟨us, hfill, hus⟩ := fill_parts (place := (pl[·]?)) ps (parts.toList.map fun p => (p.1, a.eval p.2)) i.zero cs z.cells (by simp [hl]) (fun j i' x k v hj hv => by
            obtain ⟨e, hr⟩ := hparts j i' x k v hj hv
            refine ⟨e, hr, ?_⟩
            rintro vs rfl
            have := List.all_eq_true.1 hnt _ (List.mem_of_getElem? hj)
            simp [noTup] at this) hzr hcs
          have hmap : (Array.mapM (m := Sem) (fun f => do pure (f.offset, ← sizeOf f.type)) fields).run P w = .ok pl.toArray w := by
            rw [← hfs] at hpl
            have := run_places (P := P) hT w fields.toList hpl
            rw [Array.mapM_eq_mapM_toList]
            simp only [Sem.run_map, this, Result.andThen_ok]
          refine val_of (v := .agg us) (w' := w) ?_ (hn (.agg cs) _ ?_ h)
          · have hfill' : Instr.fill (fun x => pl.toArray[x]?) z.cells (parts.map fun p => (p.1, a.eval p.2)).toList = some us := by
              rw [Array.toList_map]
              simpa using hfill
            simp only [execOp, ho, Instr.build, Sem.run_bind, zeroValue, typeInfo, run_program, Result.andThen_ok, hinf, hz, Sem.run_pure, run_underlying hd, hmap]
            simp only [hfill']
            rfl
          · have e : us = us.toList.toArray := by simp
            rw [e]
            exact .agg hus.1 hus.2
        · exact h.elim
      · exact h.elim
    · rename_i n e hk
      obtain ⟨_, ⟨d, hd, hf⟩, inf, z, hinf, hsz, _, hz, hzc, hz1, hzs, _⟩ := hT t i hi
      rw [hk] at hf
      have hf : d = .array n e := hf
      subst hf
      split at h
      · rename_i te hte
        obtain ⟨hnt, h⟩ := chk_inv h
        obtain ⟨_, _, einf, ez, heinf, hesz, _⟩ := hT e te hte
        split at h
        · rename_i cs hcs
          obtain ⟨hl, hparts⟩ := getParts_sound C parts.toList hps
          have hzr : AllR s H.length w S i.zero z.cells.toList := by rw [← hzc]; exact AllR.const hz1
          obtain ⟨us, hfill, hus⟩ := fill_parts (place := fun k => some (k * te.size, te.size)) ps (parts.toList.map fun p => (p.1, a.eval p.2)) i.zero cs z.cells (by simp [hl]) (fun j i' x k v hj hv => by
            obtain ⟨e, hr⟩ := hparts j i' x k v hj hv
            refine ⟨e, hr, ?_⟩
            rintro vs rfl
            have := List.all_eq_true.1 hnt _ (List.mem_of_getElem? hj)
            simp [noTup] at this) hzr hcs
          refine val_of (v := .agg us) (w' := w) ?_ (hn (.agg cs) _ ?_ h)
          · have hfill' : Instr.fill (fun x => some (x * einf.size, einf.size)) z.cells (parts.map fun p => (p.1, a.eval p.2)).toList = some us := by
              rw [Array.toList_map, hesz]
              exact hfill
            simp only [execOp, ho, Instr.build, Sem.run_bind, zeroValue, typeInfo, run_program, Result.andThen_ok, hinf, hz, Sem.run_pure, run_underlying hd, sizeOf, heinf, Sem.run_map]
            simp only [hfill']
            rfl
          · have e : us = us.toList.toArray := by simp
            rw [e]
            exact .agg hus.1 hus.2
        · exact h.elim
      · exact h.elim
    · exact h.elim
  · exact h.elim

omit hn in
theorem den_unOp (hn : ThenS w s S H K fun v w' => next (a.put o.dst v) w') {op : UnOp} {t : TypeId} {x : Operand} (ho : o.op = .unOp op t x) (h : den P T (.unOp op t x) (ev E) H K) : Val P o a w fun v w' => next (a.put o.dst v) w' := by
  cases op with
  | not =>
    simp only [den, hlen_eq, hset_eq] at h
    split at h
    · rename_i b hb
      have e := (C.ev hb).lit_inv
      exact val_of (v := .bool (!b)) (w' := w) (by simp [execOp, ho, e, Op.unary]) (hn _ _ (.pv (.lit _ rfl)) h)
    · exact h.elim
  | neg =>
    simp only [den, hlen_eq, hset_eq] at h
    split at h
    · rename_i k n hb
      have e := (C.ev hb).lit_inv
      exact val_of (v := .int k (k.wrap (0 - n))) (w' := w) (by simp [execOp, ho, e, Op.unary, Op.intArith]) (hn _ _ (.pv (.lit _ rfl)) h)
    · exact h.elim
  | _ => exact h.elim

omit hn in
theorem den_convert (hn : ThenS w s S H K fun v w' => next (a.put o.dst v) w') (hT : TabOk P T) {u t : TypeId} {x : Operand} (ho : o.op = .convert u t x) (h : den P T (.convert u t x) (ev E) H K) : Val P o a w fun v w' => next (a.put o.dst v) w' := by
  simp only [den, hlen_eq, hset_eq] at h
  split at h
  · rename_i k n i iu hx hi hiu
    have hu : ∃ d, P.underlying u = some d := let ⟨d, hd, _⟩ := (hT u iu hiu).und; ⟨d, hd⟩
    split at h
    · rename_i k' hk
      have e := (C.ev hx).lit_inv
      obtain ⟨_, ⟨d, hd, hf⟩, _⟩ := hT t i hi
      rw [hk] at hf
      have hf' : d = .int k' := hf
      subst hf'
      obtain ⟨du, hdu⟩ := hu
      exact val_of (v := .int k' (k'.wrap n)) (w' := w) (by simp [execOp, ho, e, convert, run_underlying hd, run_underlying hdu, Conv.intToInt]) (hn _ _ (.pv (.lit _ rfl)) h)
    · exact h.elim
  · exact h.elim

omit hn in
theorem den_extract (hn : ThenS w s S H K fun v w' => next (a.put o.dst v) w') {x : Operand} {j : Nat} (ho : o.op = .extract x j) (h : den P T (.extract x j) (ev E) H K) : Val P o a w fun v w' => next (a.put o.dst v) w' := by
  simp only [den, hlen_eq, hset_eq] at h
  split at h
  · rename_i vs hx
    have hr := C.ev hx
    split at h
    · rename_i v hv
      generalize hq : a.eval x = q at hr
      cases hr with
      | tup hl hall =>
        rename_i us
        have hj := (List.getElem?_eq_some_iff.1 hv).1
        have hu : us[j]? = some (us[j]'(by omega)) := List.getElem?_eq_getElem _
        exact val_of (w' := w) (by simp [execOp, ho, hq, Instr.extract, hu]) (hn _ _ (hall j v _ hv hu) h)
    · exact h.elim
  · exact h.elim

omit hn in
theorem den_nilCheck (hn : ThenS w s S H K fun v w' => next (a.put o.dst v) w') {x : Operand} (ho : o.op = .nilCheck x) (h : den P T (.nilCheck x) (ev E) H K) : Val P o a w fun v w' => next (a.put o.dst v) w' := by
  have run : ∀ y, VR s H.length w S y (a.eval x) → (∃ id k, y = .ptr id k) ∨ (∃ id j z k, y = .eptr id j z k) ∨ (∃ cs k, y = .rptr cs k) → (execOp a.eval o).run P w = .ok (.value (a.eval x)) w := by
    intro y hr hy
    have : ∃ b, a.eval x = .pointer (some b) := by
      generalize a.eval x = q at hr
      rcases hy with ⟨id, k, rfl⟩ | ⟨id, j, z, k, rfl⟩ | ⟨cs, k, rfl⟩ <;> cases hr <;> exact ⟨_, rfl⟩
    obtain ⟨b, hb⟩ := this
    simp [execOp, ho, hb]
  simp only [den, hlen_eq, hset_eq] at h
  split at h
  · rename_i id k hx
    exact val_of (run _ (C.ev hx) (.inl ⟨_, _, rfl⟩)) (hn _ _ (C.ev hx) h)
  · rename_i id j z k hx
    exact val_of (run _ (C.ev hx) (.inr (.inl ⟨_, _, _, _, rfl⟩))) (hn _ _ (C.ev hx) h)
  · rename_i cs k hx
    exact val_of (run _ (C.ev hx) (.inr (.inr ⟨_, _, rfl⟩))) (hn _ _ (C.ev hx) h)
  · exact h.elim

omit hn in
theorem den_indexAddr (hn : ThenS w s S H K fun v w' => next (a.put o.dst v) w') (hT : TabOk P T) {t : TypeId} {x y : Operand} (ho : o.op = .indexAddr t x y) (h : den P T (.indexAddr t x y) (ev E) H K) : Val P o a w fun v w' => next (a.put o.dst v) w' := by
  simp only [den, hlen_eq, hset_eq] at h
  split at h
  case h_2 => exact h.elim
  rename_i ti hti
  split at h
  case h_3 => exact h.elim
  · rename_i len e hk
    obtain ⟨_, ⟨d, hd, hf⟩, _⟩ := hT t ti hti
    rw [hk] at hf
    have hf' : d = .array len e := hf
    subst hf'
    split at h
    case h_2 => exact h.elim
    rename_i te id off k n hte hx hy
    obtain ⟨_, _, inf, z, hinf, hsz, _⟩ := hT e te hte
    have ey := (C.ev hy).lit_inv
    obtain ⟨h0, h1, h⟩ := h
    have hr := C.ev hx
    generalize hq : a.eval x = q at hr
    cases hr with
    | ptr hlt he =>
      rename_i b
      refine val_of (v := .pointer (some ⟨b, off + n.toNat * te.size, none⟩)) (w' := w) ?_ (hn (.ptr id (off + n.toNat * te.size)) _ (.ptr hlt he) h)
      simp [execOp, ho, hq, ey, Instr.indexAt, asIntOf, run_underlying hd, h0, h1, sizeOf, typeInfo, hinf, hsz, add_at, Instr.sureAddr]
  rename_i e hk
  obtain ⟨_, ⟨d, hd, hf⟩, _⟩ := hT t ti hti
  rw [hk] at hf
  have hf' : d = .slice e := hf
  subst hf'
  split at h
  case h_2 => exact h.elim
  rename_i te k n hte hy
  obtain ⟨_, _, inf, z, hinf, hsz, _⟩ := hT e te hte
  have ey := (C.ev hy).lit_inv
  split at h
  · rename_i sz α enc dd xs hx
    obtain ⟨hz, h0, h1, h⟩ := chk_inv h
    replace hz := Nat.eq_of_beq_eq_true hz
    have hr := C.ev hx
    generalize hq : a.eval x = q at hr
    cases hr with
    | pv hp =>
      cases hp with
      | sl A m c _ _ _ _ _ u b off hm hc hzz hA hu hrr =>
        have hlt : n.toNat < m := by omega
        have hA' := hA (by omega)
        subst hA'
        have h2 : n < (m : Int) := by omega
        refine val_of (v := .pointer (some ⟨b, off + n.toNat * sz, none⟩)) (w' := w) ?_ (hn (.rptr (enc (xs.getD n.toNat dd)) 0) _ ?_ h)
        · have hsz' : inf.size = sz := by omega
          simp [execOp, ho, hq, ey, Instr.indexAt, asIntOf, run_underlying hd, h0, h2, sizeOf, typeInfo, hinf, hsz', add_at]
        · have := VR.rptr (s := s) (n := H.length) (w := w) (S := S) (cs := enc (xs.getD n.toNat dd)) (off := 0) (b := b) (o := off + n.toNat * sz) (u n.toNat) (fun j p hp => by
            have hj : j < sz := by rw [← hzz n.toNat hlt]; exact (List.getElem?_eq_some_iff.1 hp).1
            obtain ⟨g1, g2⟩ := hu n.toNat j hlt hj
            exact ⟨g1, g2, hrr n.toNat j p hlt hp⟩)
          exact this
  · rename_i id hx
    have hr := C.ev hx
    split at h
    · rename_i ro e' sz α enc dd xs hb
      obtain ⟨hz, h0, h1, h⟩ := chk_inv h
      replace hz := Nat.eq_of_beq_eq_true hz
      obtain ⟨g, c, vs, hs, _⟩ := C.elem hb (j := n.toNat) (by omega)
      have hq : a.eval x = .slice (some ⟨g, 0, none⟩) xs.length c := by
        generalize a.eval x = q at hr
        cases hr with
        | own hlt he => rw [hs] at he; cases he; rfl
      refine val_of (v := .pointer (some ⟨g, n.toNat * sz + 0, none⟩)) (w' := w) ?_ (hn (.eptr id n.toNat sz 0) _ (.eptr (List.getElem?_eq_some_iff.1 hb).1 hs) h)
      have hsz' : inf.size = sz := by omega
      simp [execOp, ho, hq, ey, Instr.indexAt, asIntOf, run_underlying hd, h0, h1, sizeOf, typeInfo, hinf, hsz', add_at]
    · exact h.elim
  · exact h.elim
end

end Go.Vx

namespace Go.Vx
open Go.RowKit (Below)

section
variable {P : Program} {T : Tab} {o : Oper} {a : Act} {w : World} {next : Act → World → Prop} {Q : Exit → Act → World → Prop}
variable {w0 : World} {F : Nat → Prop} {S0 S : Cells} {s : Nat → Value} {E : Env} {H : Heap} {K : AV → Heap → Prop}
variable (C : Conc w0 F S0 s S E H a.tmps w) (hn : Then w0 F S0 E a.tmps K fun v w' => next (a.put o.dst v) w')
include C hn

omit hn in
theorem den_field (hn : ThenS w s S H K fun v w' => next (a.put o.dst v) w') (hT : TabOk P T) {t : TypeId} {x : Operand} {f : Nat} (ho : o.op = .field t x f) (h : den P T (.field t x f) (ev E) H K) : Val P o a w fun v w' => next (a.put o.dst v) w' := by
  simp only [den, hlen_eq, hset_eq] at h
  split at h
  case h_2 => exact h.elim
  rename_i cs i hx hi
  have hr := C.ev hx
  split at h
  case h_2 => exact h.elim
  rename_i fs hk
  obtain ⟨_, ⟨d, hd, hf⟩, _⟩ := hT t i hi
  rw [hk] at hf
  obtain ⟨fields, rfl, hfs⟩ := hf
  split at h
  case h_2 => exact h.elim
  rename_i off ft hfo
  obtain ⟨fl, hfl, hoff, hft⟩ : ∃ fl : Field, fields[f]? = some fl ∧ fl.offset = off ∧ fl.type = ft := by
    rw [← hfs, List.getElem?_map] at hfo
    cases hg : fields.toList[f]? with
    | none => rw [hg] at hfo; cases hfo
    | some fl => rw [hg] at hfo; cases hfo; exact ⟨fl, by simpa using hg, rfl, rfl⟩
  subst hoff
  subst hft
  split at h
  case h_2 => exact h.elim
  rename_i j hj
  obtain ⟨_, ⟨dj, hdj, hfj⟩, infj, zj, hinfj, hszj, _⟩ := hT _ j hj
  generalize hq : a.eval x = q at hr
  cases hr with
  | agg hl hall =>
    rename_i vs
    have har : AllR s H.length w S cs vs := ⟨hl, hall⟩
    rcases takeV_inv h with ⟨hag, hle, h⟩ | ⟨hag, c, hc, h⟩
    · have hsub := har.sub fl.offset j.size
      refine val_of (v := .agg ((vs.drop fl.offset).take j.size).toArray) (w' := w) ?_ (hn _ _ (.agg hsub.1 hsub.2) h)
      simp only [execOp, ho, hq, Instr.field, Sem.run_bind, run_underlying hd, Result.andThen_ok, hfl, asAgg, Sem.run_pure, part, isAgg_of hdj hfj, hag, if_true, sizeOf, typeInfo, run_program, hinfj, hszj]
      simp [List.take_drop]
    · obtain ⟨v, hv, hrv⟩ := har.at_ hc
      refine val_of (v := v) (w' := w) ?_ (hn _ _ hrv h)
      simp only [execOp, ho, hq, Instr.field, Sem.run_bind, run_underlying hd, Result.andThen_ok, hfl, asAgg, Sem.run_pure, part, isAgg_of hdj hfj, hag]
      simp [hv]

omit hn in
theorem den_index (hn : ThenS w s S H K fun v w' => next (a.put o.dst v) w') (hT : TabOk P T) {t : TypeId} {x y : Operand} (ho : o.op = .index t x y) (h : den P T (.index t x y) (ev E) H K) : Val P o a w fun v w' => next (a.put o.dst v) w' := by
  simp only [den, hlen_eq, hset_eq] at h
  split at h
  case h_2 => exact h.elim
  rename_i b k n ti hx hy hti
  have ex := (C.ev hx).lit_inv
  have ey := (C.ev hy).lit_inv
  split at h
  case h_2 => exact h.elim
  rename_i hk
  obtain ⟨_, ⟨d, hd, hf⟩, _⟩ := hT t ti hti
  rw [hk] at hf
  have hf' : d = .string := hf
  subst hf'
  obtain ⟨h0, h1, h⟩ := h
  have hlt : n.toNat < b.size := by omega
  have hlt' : n.toNat < b.data.toList.length := by rw [Array.length_toList]; exact hlt
  have hb : b[n.toNat]? = some (b.data.toList.getD n.toNat 0) := by
    have e1 : b[n.toNat]? = some (b[n.toNat]'hlt) := getElem?_pos b n.toNat hlt
    rw [e1, List.getD_eq_getElem?_getD, List.getElem?_eq_getElem hlt']
    rfl
  refine val_of (v := .int .u8 (b.data.toList.getD n.toNat 0).toNat) (w' := w) ?_ (hn _ _ (.pv (.lit _ rfl)) h)
  simp [execOp, ho, ex, ey, Instr.index, asIntOf, run_underlying hd, h0, hb]

omit hn in
theorem den_len (hn : ThenS w s S H K fun v w' => next (a.put o.dst v) w') (hT : TabOk P T) {c : Call} (ho : o.op = .call c) (hc : c.callee = .builtin .len) (h : den P T (.call c) (ev E) H K) : Val P o a w fun v w' => next (a.put o.dst v) w' := by
  simp only [den, hlen_eq, hset_eq, hc] at h
  split at h
  case h_2 => exact h.elim
  rename_i x t hxs hts
  have eargs : c.args = #[x] := by rw [← Array.toArray_toList (xs := c.args), hxs]
  have etys : c.argTypes = #[t] := by rw [← Array.toArray_toList (xs := c.argTypes), hts]
  have run : ∀ (d : TypeDesc) (v : Value) (n : Nat), P.underlying t = some d → a.eval x = v → ((∃ e, d = .slice e) ∧ (∃ A m, v = .slice A n m) ∨ d = .string ∧ ∃ b : ByteArray, v = .string b ∧ b.size = n) →
      (execOp a.eval o).run P w = .ok (.value (.int .i64 n)) w := by
    intro d v n hd hv hcase
    rcases hcase with ⟨⟨e, rfl⟩, A, m, rfl⟩ | ⟨rfl, b, rfl, rfl⟩
    · simp [execOp, ho, resolve, hc, eargs, etys, invoke, builtin, Builtin.len_, run_underlying hd, hv, goInt]
    · simp [execOp, ho, resolve, hc, eargs, etys, invoke, builtin, Builtin.len_, run_underlying hd, hv, goInt]
  split at h
  · rename_i sz α enc dd xs i hx hi
    have hr := C.ev hx
    obtain ⟨_, ⟨d, hd, hf⟩, _⟩ := hT t i hi
    split at h
    · rename_i e hk
      rw [hk] at hf
      generalize hq : a.eval x = q at hr
      cases hr with
      | pv hp =>
        cases hp with
        | sl A m cc _ _ _ _ _ u b off hm =>
          refine val_of (run d _ m hd hq (.inl ⟨⟨e, hf⟩, A, cc, rfl⟩)) (hn _ _ (.pv (.lit _ rfl)) ?_)
          rw [hm]; exact h
    · exact h.elim
  · rename_i b i hx hi
    have hr := (C.ev hx).lit_inv
    obtain ⟨_, ⟨d, hd, hf⟩, _⟩ := hT t i hi
    split at h
    · rename_i hk
      rw [hk] at hf
      exact val_of (run d _ b.size hd hr (.inr ⟨hf, b, rfl, rfl⟩)) (hn _ _ (.pv (.lit _ rfl)) h)
    · exact h.elim
  · rename_i i hx hi
    have hr := C.ev hx
    obtain ⟨_, ⟨d, hd, hf⟩, _⟩ := hT t i hi
    split at h
    · rename_i e hk
      rw [hk] at hf
      have hq : a.eval x = .slice none 0 0 := by
        generalize a.eval x = q at hr
        cases hr; rfl
      exact val_of (run d _ 0 hd hq (.inl ⟨⟨e, hf⟩, none, 0, rfl⟩)) (hn _ _ (.pv (.lit _ rfl)) h)
    · exact h.elim
  · rename_i id i hx hi
    have hr := C.ev hx
    obtain ⟨_, ⟨d, hd, hf⟩, _⟩ := hT t i hi
    split at h
    · rename_i e ro e' sz α enc dd xs hk hb
      rw [hk] at hf
      obtain ⟨cs, h1, _⟩ := C.objs id _ hb
      obtain ⟨A, cc, hs⟩ : ∃ A cc, s id = .slice A xs.length cc := by
        rcases h1.2 with ⟨hs, hz⟩ | ⟨g, cap, cur, hs, _⟩
        · exact ⟨none, 0, by rw [hs, hz]⟩
        · exact ⟨_, _, hs⟩
      have hq : a.eval x = .slice A xs.length cc := by
        generalize a.eval x = q at hr
        cases hr with
        | own hlt he => rw [hs] at he; cases he; rfl
      exact val_of (run d _ xs.length hd hq (.inl ⟨⟨e, hf⟩, A, cc, rfl⟩)) (hn _ _ (.pv (.lit _ rfl)) h)
    · exact h.elim
  · exact h.elim

theorem den_call {c : Call} {g : Operand} (ho : o.op = .call c) (hc : c.callee = .value g) (h : den P T (.call c) (ev E) H K) : o.wp P a w next Q := by
  simp only [den, hlen_eq, hset_eq, hc] at h
  split at h
  case h_2 => exact h.elim
  rename_i f xs ys hg
  split at h
  case h_2 => exact h.elim
  rename_i hxs hys
  have hev : a.eval g = .func (.func f) #[] #[] := by
    have h1 := (C.ev hg).lit_inv
    rw [h1]
    have e1 : xs = #[] := by rw [← Array.toArray_toList (xs := xs), hxs]
    have e2 : ys = #[] := by rw [← Array.toArray_toList (xs := ys), hys]
    rw [e1, e2]
  split at h
  case h_2 => exact h.elim
  rename_i as has
  have hr := getAll_sound C c.args.toList has
  have runs : isFn P f → (execOp a.eval o).run P w = .ok (.enter f (c.args.toList.map a.eval).toArray) w := by
    rintro ⟨fn, hfn, hname, hbody⟩
    have e : (c.args.toList.map a.eval).toArray = c.args.map a.eval := by rw [← Array.toList_map, Array.toArray_toList]
    rw [e]
    have hname' : fn.name ≠ "runtime.NumGoroutine" := by
      intro e
      rw [e] at hname
      exact absurd hname (by decide)
    have hbody' : fn.body ≠ none := by intro e; rw [e] at hbody; cases hbody
    simp [execOp, ho, resolve, hc, hev, Deferred.ofValue, invoke, callFunc, hfn, hname', hbody']
  have imp : ∀ {S1 : Cells} {as1 : List AV} {H1 : Heap}, Conc w0 F S0 s S1 E H1 a.tmps w → AllR s H1.length w S1 as1 (c.args.toList.map a.eval) → ImpStep P f as1 H1 K → o.wp P a w next Q := by
    intro S1 as1 H1 C hr h
    obtain ⟨r, bs, Hc, x, H', hck, hm, hH, ⟨hf, hle, hcall⟩, hk⟩ := h
    simp only [Bool.and_eq_true] at hck
    obtain ⟨⟨hnd, hall⟩, hdead⟩ := hck
    have hrl := (matchH_get hH).1
    have hbs := matchC_sound hrl.symm hm hr
    have hC := hcall w S1 (ren s r) (c.args.toList.map a.eval) (C.part hnd hH) hbs
    unfold Oper.wp
    rw [runs hf, Oper.upon_enter]
    refine hC.mono fun e w' => ?_
    rintro ⟨v, s', S', rfl, C', hv, hs⟩
    obtain ⟨C2, hv2⟩ := C.back hnd hall hdead hH C' hle hs
    exact hn _ _ v w' _ S' C2 (hv2 x v hv) hk
  rcases h with h | h | ⟨cs, hcs, h⟩
  case inr.inl => exact imp C hr h
  case inr.inr =>
    obtain ⟨S1, m1, C1, f1⟩ := Conc.frzAM as C
    exact imp C1 (by rw [length_frzAL]; exact f1 cs hcs _ hr) h
  obtain ⟨bs, r, hfit, ⟨hf, hcall⟩, hk⟩ := h
  obtain ⟨S1, m1, C1, f1⟩ := Conc.frzAL as C
  have hpure := f1 bs hfit _ hr
  have hC := hcall w S1 (c.args.toList.map a.eval) C1.lt hpure
  unfold Oper.wp
  rw [runs hf, Oper.upon_enter]
  refine hC.mono fun e w' => ?_
  rintro ⟨v, S', rfl, k1, k2, k3, hv, hb⟩
  have C2 := C1.called hb k1 k2 k3
  by_cases hfl : flatV r = true
  · rw [if_pos hfl] at hk
    have C3 := C.called (S' := S) hb (fun _ _ h => h) (fun b o h => Nat.lt_of_lt_of_le (C.lt b o h) hb.size) (fun _ _ h => .inl h)
    exact hn r H v w' s S C3 (hv.flat hfl) hk
  · rw [if_neg hfl] at hk
    refine hn r _ v w' s S' C2 ?_ hk
    exact hv.mono (Nat.zero_le _) (fun i h => by omega) (fun _ _ h => h) (fun _ _ _ => rfl)
end

end Go.Vx

namespace Go.Vx

/-- 'append' onto a row of one's own: what was in it is as it was, wherever it now lies. -/
theorem append_run {P : Program} (w : World) (t ty e : TypeId) (i : TypeInfo) (z : Value) (ht : P.underlying t = some (.slice e)) (hi : P.info? e = some i) (hz : i.zero = some z) (hzs : z.cells.size = i.size) (hsz : 0 < i.size)
    (v : Value) (n : Nat) (xs : List Value) (hown : w.ownsRow 0 e i.size v n xs) (A : Option Addr) (m c : Nat) (news : List Value) (hl : news.length = m * i.size)
    (hA : ∀ a, A = some a → ∀ (j : Nat) (u : Value), news[j]? = some u → w.cell? (a.add j) = some u) (hA0 : A = none → m = 0) (h1 : ∀ u ∈ news, u.oneCell' = true)
    (hbytes : (n + m) * i.bytes ≤ 140737488355328) (hb0 : 0 < i.bytes) :
    ∃ v' w', (Builtin.append_ #[t, t] ty #[v, .slice A m c]).run P w = .ok v' w' ∧ w'.ownsRow 0 e i.size v' (n + m) (xs ++ news) ∧ w.grownBy w' (blk v) ∧
      (∀ b, blk v' = some b → w.heap.size ≤ b ∨ blk v = some b) ∧ (∀ b o, blk v = some b → o < n * i.size → w'.cell? ⟨b, o, none⟩ = w.cell? ⟨b, o, none⟩) := by
  have hnm : n + m ≤ 140737488355328 := Nat.le_trans (Nat.le_mul_of_pos_right _ hb0) hbytes
  have h63 : n + m ≤ maxLen := by simp only [maxLen]; omega
  have hlen : (xs ++ news).length = (n + m) * i.size := by rw [List.length_append, hown.1, hl, Nat.add_mul]
  have same : ∀ v, w.ownsRow 0 e i.size v n xs → m = 0 → (Builtin.append_ #[t, t] ty #[v, .slice A m c]).run P w = .ok v w → ∃ v' w', (Builtin.append_ #[t, t] ty #[v, .slice A m c]).run P w = .ok v' w' ∧ w'.ownsRow 0 e i.size v' (n + m) (xs ++ news) ∧ w.grownBy w' (blk v) ∧
      (∀ b, blk v' = some b → w.heap.size ≤ b ∨ blk v = some b) ∧ (∀ b o, blk v = some b → o < n * i.size → w'.cell? ⟨b, o, none⟩ = w.cell? ⟨b, o, none⟩) := by
    intro v hv h0 hr
    subst h0
    obtain rfl : news = [] := List.eq_nil_of_length_eq_zero (by simpa using hl)
    exact ⟨v, w, hr, by simpa using hv, World.grownBy.refl w _, fun b hb => .inr hb, fun _ _ _ _ => rfl⟩
  have grown : ∀ (old : Nat) (row : Option Nat), old < n + m →
      (w.drew.alloc (.cells (xs.toArray ++ news.toArray ++ Builtin.zeroCells z.cells (grownCap w (n + m) old e - (n + m))) e)).ownsRow 0 e i.size
        (.slice (some ⟨w.heap.size, 0, none⟩) (n + m) (grownCap w (n + m) old e)) (n + m) (xs ++ news) ∧
      w.grownBy (w.drew.alloc (.cells (xs.toArray ++ news.toArray ++ Builtin.zeroCells z.cells (grownCap w (n + m) old e - (n + m))) e)) row := by
    intro old row ho
    have hge := grownCap_ge w (n + m) old e
    have hcm : grownCap w (n + m) old e ≤ maxLen := grownCap_le_maxLen w (n + m) old e h63
    refine ⟨⟨hlen, .inr ⟨w.heap.size, _, _, rfl, Nat.zero_le _, heap_alloc_new w.drew _, hge, hcm, ?_, ?_⟩⟩, ⟨rfl, rfl, rfl, by simp, fun k hk _ => heap_alloc_old w.drew _ hk⟩⟩
    · simp only [Array.size_append, List.size_toArray, size_zeroCells, hzs, hown.1, hl, ← Nat.add_mul]
      congr 1
      omega
    · simp only [Array.toList_append, List.append_assoc]
      rw [← List.append_assoc, ← hlen]
      exact List.take_left
  rcases hown.2 with ⟨rfl, rfl⟩ | ⟨g, cap, cur, rfl, _, hg, hnc, hcm, hcs, htake⟩
  · have hx : xs = [] := List.eq_nil_of_length_eq_zero (by simpa using hown.1)
    subst hx
    by_cases hm : m = 0
    · refine same _ hown hm ?_
      subst hm
      cases A <;> simp [Builtin.append_, run_underlying ht, sizeOf, typeInfo, hi, Builtin.lenOf, Builtin.firstCells, loadCells, loadCellsFrom]
    · cases A with
      | none => exact absurd (hA0 rfl) hm
      | some a =>
        have hr := run_append_nil (P := P) w t ty e i z ht hi hz a m c news hl (hA a rfl) (by omega) (by omega) (by have hb := hbytes; simp only [Nat.zero_add] at hb; omega)
        have hgr := grown 0 (blk (.slice none 0 0)) (by omega)
        simp only [Nat.zero_add, List.nil_append, Array.empty_append] at hgr ⊢
        exact ⟨_, _, hr, hgr.1, hgr.2, fun b hb => by cases hb; exact .inl (Nat.le_refl _), fun b o hb => by cases hb⟩
  · by_cases hm : m = 0
    · refine same _ hown hm ?_
      subst hm
      cases A <;> simp [Builtin.append_, run_underlying ht, sizeOf, typeInfo, hi, Builtin.lenOf, Builtin.firstCells, loadCells, loadCellsFrom, hnc, storeCells]
    cases A with
    | none => exact absurd (hA0 rfl) hm
    | some a =>
      by_cases hroom : n + m ≤ cap
      · have hfit : n * i.size + news.length ≤ cur.size := by rw [hl, hcs, ← Nat.add_mul]; exact Nat.mul_le_mul_right _ hroom
        have hr := run_append_room (P := P) w t ty e i ht hi g n cap cur hg a m c news hl (hA a rfl) h1 hroom hfit
        refine ⟨_, _, hr, ⟨hlen, .inr ⟨g, cap, _, rfl, Nat.zero_le _, setRow_heap w g cur _ e _ hg, hroom, hcm, ?_, ?_⟩⟩, ⟨rfl, rfl, rfl, by simp, fun k _ hk => setRow_other w g k _ (fun e => hk (by simp [blk, e]))⟩, fun b hb => .inr hb, ?_⟩
        · simp only [List.size_toArray, List.length_append, List.length_take, List.length_drop, Array.length_toList]
          omega
        · rw [htake, ← hlen]
          exact List.take_left
        · intro b o hb ho
          cases hb
          have hnz : n * i.size ≤ cur.size := by omega
          rw [cell_setRow_same w g o cur _ e (0, 0) hg]
          simp only [World.cell?, hg, List.getElem?_toArray, List.append_assoc]
          rw [List.getElem?_append_left (by rw [List.length_take, Array.length_toList]; omega), List.getElem?_take, if_pos ho]
          simp
      · have holds : ∀ j u, xs[j]? = some u → w.cell? ((⟨g, 0, none⟩ : Addr).add j) = some u := hown.cells (g := g) rfl
        have hr := run_append_grow (P := P) w t ty e i z ht hi hz ⟨g, 0, none⟩ n cap xs hown.1 holds a m c news hl (hA a rfl) (by omega) (by omega) (growslice_fits (by omega) hbytes)
        have hgr := grown cap (blk (.slice (some ⟨g, 0, none⟩) n cap)) (by omega)
        refine ⟨_, _, hr, hgr.1, hgr.2, fun b hb => by cases hb; exact .inl (Nat.le_refl _), fun b o hb ho => ?_⟩
        cases hb
        have hlt : g < w.heap.size := (Array.getElem?_eq_some_iff.1 hg).1
        rw [World.cell?_alloc_lt _ _ _ (by simpa using hlt)]
        rfl
end Go.Vx

namespace Go.Vx
open Go.RowKit (Below)

theorem divmod_lt {n sz q : Nat} (h : q < n * sz) : q / sz < n ∧ q % sz < sz := by
  have h0 : 0 < sz := by
    rcases Nat.eq_zero_or_pos sz with rfl | h0
    · simp at h
    · exact h0
  exact ⟨Nat.div_lt_of_lt_mul (by rw [Nat.mul_comm]; exact h), Nat.mod_lt _ h0⟩

theorem mul_add_lt {n sz k j : Nat} (hk : k < n) (hj : j < sz) : k * sz + j < n * sz := by
  have : (k + 1) * sz ≤ n * sz := Nat.mul_le_mul_right _ hk
  rw [Nat.add_mul, Nat.one_mul] at this
  omega

section
variable {P : Program} {T : Tab} {o : Oper} {a : Act} {w : World} {next : Act → World → Prop} {Q : Exit → Act → World → Prop}
variable {w0 : World} {F : Nat → Prop} {S0 S : Cells} {s : Nat → Value} {E : Env} {H : Heap} {K : AV → Heap → Prop}

/-- The cells of elements, told by their encoding. -/
def EltR (w : World) (S : Cells) {α : Type} (sz : Nat) (enc : α → List PV) (d : α) (ys : List α) (news : List Value) : Prop :=
  news.length = ys.length * sz ∧ (∀ k, k < ys.length → (enc (ys.getD k d)).length = sz) ∧
    ∀ (k j : Nat) (p : PV), k < ys.length → (enc (ys.getD k d))[j]? = some p → ∃ u : Value, news[k * sz + j]? = some u ∧ Rep w S u p

theorem EltR.cells {α : Type} {sz : Nat} {enc : α → List PV} {d : α} {ys : List α} {news : List Value} (h : EltR w S sz enc d ys news) : ∀ u ∈ news, u.oneCell' = true := by
  intro u hu
  obtain ⟨q, hq⟩ := List.getElem?_of_mem hu
  have hlt : q < ys.length * sz := by rw [← h.1]; exact (List.getElem?_eq_some_iff.1 hq).1
  obtain ⟨h1, h2⟩ := divmod_lt hlt
  have hl := h.2.1 _ h1
  obtain ⟨v, hv, hr⟩ := h.2.2 (q / sz) (q % sz) _ h1 (List.getElem?_eq_getElem (by omega))
  rw [show q / sz * sz + q % sz = q by rw [Nat.mul_comm]; exact Nat.div_add_mod q sz, hq] at hv
  cases hv
  exact hr.oneCell

theorem EltR.append {α : Type} {sz : Nat} {enc : α → List PV} {d : α} {xs ys : List α} {cs news : List Value} (h : EltR w S sz enc d xs cs) (g : EltR w S sz enc d ys news) : EltR w S sz enc d (xs ++ ys) (cs ++ news) := by
  have hget : ∀ k, (xs ++ ys).getD k d = if k < xs.length then xs.getD k d else ys.getD (k - xs.length) d := by
    intro k
    simp only [List.getD_eq_getElem?_getD]
    split
    · rename_i hk; rw [List.getElem?_append_left hk]
    · rename_i hk; rw [List.getElem?_append_right (by omega)]
  refine ⟨by rw [List.length_append, List.length_append, h.1, g.1, Nat.add_mul], fun k hk => ?_, fun k j p hk hp => ?_⟩
  · rw [hget]
    rw [List.length_append] at hk
    split
    · exact h.2.1 k ‹_›
    · exact g.2.1 _ (by omega)
  · rw [hget] at hp
    rw [List.length_append] at hk
    split at hp
    · rename_i hkx
      obtain ⟨u, hu, hr⟩ := h.2.2 k j p hkx hp
      exact ⟨u, by rw [List.getElem?_append_left (List.getElem?_eq_some_iff.1 hu).1]; exact hu, hr⟩
    · rename_i hkx
      obtain ⟨u, hu, hr⟩ := g.2.2 (k - xs.length) j p (by omega) hp
      refine ⟨u, ?_, hr⟩
      have e : k * sz = xs.length * sz + (k - xs.length) * sz := by rw [← Nat.add_mul]; congr 1; omega
      rw [List.getElem?_append_right (by rw [h.1]; omega), h.1, show k * sz + j - xs.length * sz = (k - xs.length) * sz + j by omega]
      exact hu

theorem EltR.mono {w' : World} {S' : Cells} (hS : ∀ b o, S b o → S' b o) (hw : ∀ b o, S b o → w'.cell? ⟨b, o, none⟩ = w.cell? ⟨b, o, none⟩) {α : Type} {sz : Nat} {enc : α → List PV} {d : α} {ys : List α} {news : List Value}
    (h : EltR w S sz enc d ys news) : EltR w' S' sz enc d ys news :=
  ⟨h.1, h.2.1, fun k j p hk hp => let ⟨u, hu, hr⟩ := h.2.2 k j p hk hp; ⟨u, hu, hr.mono hS hw⟩⟩

theorem EltR.take {α : Type} {sz : Nat} {enc : α → List PV} {d : α} {ys : List α} {news : List Value} (h : EltR w S sz enc d ys news) (m : Nat) (hm : m ≤ ys.length) : EltR w S sz enc d (ys.take m) (news.take (m * sz)) := by
  have hle : m * sz ≤ ys.length * sz := Nat.mul_le_mul_right _ hm
  have hget : ∀ k, k < m → (ys.take m).getD k d = ys.getD k d := by
    intro k hk
    simp only [List.getD_eq_getElem?_getD, List.getElem?_take, if_pos hk]
  refine ⟨by rw [List.length_take, List.length_take, h.1, Nat.min_eq_left hle, Nat.min_eq_left hm], fun k hk => ?_, fun k j p hk hp => ?_⟩
  · rw [List.length_take] at hk
    rw [hget k (by omega)]
    exact h.2.1 k (by omega)
  · rw [List.length_take] at hk
    rw [hget k (by omega)] at hp
    obtain ⟨u, hu, hr⟩ := h.2.2 k j p (by omega) hp
    have hj : j < sz := by rw [← h.2.1 k (by omega)]; exact (List.getElem?_eq_some_iff.1 hp).1
    refine ⟨u, ?_, hr⟩
    rw [List.getElem?_take, if_pos (mul_add_lt (by omega) hj)]
    exact hu

theorem OR.row_of {n : Nat} {v : Value} {s : Nat → Value} {i : Nat} {ro : Bool} {e : TypeId} {sz : Nat} {α : Type} {enc : α → List PV} {d : α} {xs : List α} {cs : List Value} (hs : s i = v) (h0 : 0 < sz)
    (ho : w.ownsRow 0 e sz v xs.length cs) (he : EltR w S sz enc d xs cs) (hS : ∀ b o, blk v = some b → S b o → ro = true ∧ o < xs.length * sz) : OR s n w S i (.row ro e sz α enc d xs) :=
  ⟨cs, by rw [hs]; exact ho, h0, he.2.1, he.2.2, by rw [hs]; exact hS⟩

theorem OR.elt {n : Nat} {s : Nat → Value} {i : Nat} {ro : Bool} {e : TypeId} {sz : Nat} {α : Type} {enc : α → List PV} {d : α} {xs : List α} (h : OR s n w S i (.row ro e sz α enc d xs)) :
    ∃ cs, w.ownsRow 0 e sz (s i) xs.length cs ∧ EltR w S sz enc d xs cs := by
  obtain ⟨cs, h1, h0, h2, h3, h4⟩ := h
  exact ⟨cs, h1, h1.1, h2, h3⟩

/-- What is appended, as cells. -/
theorem src_cells (C : Conc w0 F S0 s S E H a.tmps w) {x : AV} {v : Value} (hv : VR s H.length w S x v) {sz : Nat} {α : Type} {enc : α → List PV} {d : α} {ys : List α} (hf : FitP H x (.sl sz α enc d ys)) :
    ∃ (A : Option Addr) (c : Nat) (news : List Value), v = .slice A ys.length c ∧ (∀ b, A = some b → ∀ (j : Nat) (u : Value), news[j]? = some u → w.cell? (b.add j) = some u) ∧ (A = none → ys.length = 0) ∧ EltR w S sz enc d ys news := by
  unfold FitP at hf
  split at hf
  · subst hf
    cases hv with
    | pv hp =>
      cases hp with
      | sl A n c _ _ _ _ _ u b off hn hc hz hA hu hr =>
        let news := (List.range (n * sz)).map fun q => u (q / sz) (q % sz)
        have hg : ∀ q, q < n * sz → news[q]? = some (u (q / sz) (q % sz)) := by
          intro q hq
          rw [List.getElem?_map, List.getElem?_range hq]
          rfl
        refine ⟨A, c, news, by rw [hn], (fun b' hb' j v hj => ?_), (fun h => ?_), (by simp [news, hn]), (fun k hk => hz k (by omega)), (fun k j p hk hp => ?_)⟩
        · have hj' : j < n * sz := by have := (List.getElem?_eq_some_iff.1 hj).1; simpa [news] using this
          rw [hg j hj'] at hj
          cases hj
          obtain ⟨h1, h2⟩ := divmod_lt hj'
          have hA' := hA (Nat.lt_of_le_of_lt (Nat.zero_le _) h1)
          rw [hb'] at hA'
          cases hA'
          rw [add_at]
          have := (hu _ _ h1 h2).2
          rw [show off + j / sz * sz + j % sz = off + j by rw [Nat.add_assoc, Nat.mul_comm, Nat.div_add_mod]] at this
          exact this
        · rcases Nat.eq_zero_or_pos n with h0 | h0
          · omega
          · rw [hA h0] at h; cases h
        · have hkn : k < n := by omega
          have hjs : j < sz := by rw [← hz k hkn]; exact (List.getElem?_eq_some_iff.1 hp).1
          have hlt := mul_add_lt hkn hjs
          have hpos : 0 < sz := by omega
          refine ⟨u k j, ?_, hr k j p hkn hp⟩
          rw [hg _ hlt, Nat.mul_comm, Nat.mul_add_div hpos, Nat.mul_add_mod, Nat.div_eq_of_lt hjs, Nat.mod_eq_of_lt hjs, Nat.add_zero]
  · simp only at hf
    subst hf
    cases hv
    exact ⟨none, 0, [], rfl, (fun b h => by cases h), (fun _ => rfl), (by simp), (fun k hk => by simp at hk), (fun k j p hk => by simp at hk)⟩
  · rename_i i
    split at hf
    · rename_i ro e sz' α' enc' d' xs hi
      cases hf
      obtain ⟨cs, h1, h2⟩ := (C.objs i _ hi).elt
      have hvs : v = s i := by cases hv with | own hlt he => exact he.symm
      rcases h1.2 with ⟨hs, hz⟩ | ⟨g, cap, cur, hs, _⟩
      · exact ⟨none, 0, cs, by rw [hvs, hs, hz], (fun b h => by cases h), (fun _ => hz), h2⟩
      · refine ⟨some ⟨g, 0, none⟩, cap, cs, by rw [hvs, hs], (fun b hb j u hj => ?_), (fun h => by cases h), h2⟩
        cases hb
        exact h1.cells (g := g) (by rw [hs]; rfl) j u hj
    · exact hf.elim
  · rename_i i o sz0 len
    split at hf
    · rename_i ro e szq αq encq dq xs hi
      obtain ⟨rfl, hol, hf⟩ := hf
      cases hf
      obtain ⟨cs, h1, h2⟩ := (C.objs i _ hi).elt
      have hll : ((xs.drop o).take len).length = len := by rw [List.length_take, List.length_drop]; omega
      cases hv with
      | sub hlt hc hA =>
        have h3 : EltR w S sz enc d ((xs.drop o).take len) ((cs.drop (o * sz)).take (len * sz)) := by
          have hget : ∀ k, k < len → ((xs.drop o).take len).getD k d = xs.getD (o + k) d := fun k hk => by
            simp only [List.getD_eq_getElem?_getD, List.getElem?_take, if_pos hk, List.getElem?_drop]
          have hmul : (o + len) * sz ≤ xs.length * sz := Nat.mul_le_mul_right _ hol
          rw [Nat.add_mul] at hmul
          refine ⟨?_, fun k hk => ?_, fun k j p hk hp => ?_⟩
          · rw [hll, List.length_take, List.length_drop, h2.1]; omega
          · rw [hll] at hk
            rw [hget k hk]
            exact h2.2.1 _ (by omega)
          · rw [hll] at hk
            rw [hget k hk] at hp
            obtain ⟨u, hu, hr⟩ := h2.2.2 (o + k) j p (by omega) hp
            have hj : j < sz := by rw [← h2.2.1 (o + k) (by omega)]; exact (List.getElem?_eq_some_iff.1 hp).1
            refine ⟨u, ?_, hr⟩
            rw [List.getElem?_take, if_pos (mul_add_lt hk hj), List.getElem?_drop, show o * sz + (k * sz + j) = (o + k) * sz + j by rw [Nat.add_mul]; omega]
            exact hu
        rcases Nat.eq_zero_or_pos len with h0 | h0
        · refine ⟨_, _, _, by rw [hll], (fun b hb j u hj => ?_), (fun _ => by omega), h3⟩
          subst h0
          simp at hj
        · obtain ⟨b, m, c, hs, hm, rfl⟩ := hA h0
          refine ⟨_, _, _, by rw [hll], (fun b' hb j u hj => ?_), (fun h => by cases h), h3⟩
          cases hb
          have hjl : j < len * sz := by have := (List.getElem?_eq_some_iff.1 hj).1; simp at this; omega
          rw [List.getElem?_take, if_pos hjl, List.getElem?_drop] at hj
          have := h1.cells (g := b) (by rw [hs]; rfl) _ _ hj
          rw [add_at] at this ⊢
          rw [Nat.zero_add] at this
          exact this
    · exact hf.elim
  · exact hf.elim

variable (C : Conc w0 F S0 s S E H a.tmps w) (hn : Then w0 F S0 E a.tmps K fun v w' => next (a.put o.dst v) w')
include C hn

theorem den_append (hT : TabOk P T) {c : Call} (ho : o.op = .call c) (hc : c.callee = .builtin .append) (h : den P T (.call c) (ev E) H K) : o.wp P a w next Q := by
  simp only [den, hlen_eq, hset_eq, hc] at h
  split at h
  case h_2 => exact h.elim
  rename_i x y t t' hxs hts
  replace h := chk_inv h
  obtain ⟨htt, h⟩ := h
  obtain rfl : t = t' := Nat.eq_of_beq_eq_true htt
  have eargs : c.args = #[x, y] := by rw [← Array.toArray_toList (xs := c.args), hxs]
  have etys : c.argTypes = #[t, t] := by rw [← Array.toArray_toList (xs := c.argTypes), hts]
  split at h
  case h_2 => exact h.elim
  rename_i i hi
  split at h
  case h_2 => exact h.elim
  rename_i e hk
  obtain ⟨_, ⟨dd, hd, hf⟩, _⟩ := hT t i hi
  rw [hk] at hf
  have hf' : dd = .slice e := hf
  subst hf'
  split at h
  case h_2 => exact h.elim
  rename_i te hte
  replace h := chk_inv h
  obtain ⟨hel, h⟩ := h
  obtain ⟨huni, _, inf, z, hinf, hsz, hby, hz, _, _, hzs, _⟩ := hT e te hte
  obtain ⟨hpos, hbpos, huni⟩ := huni hel
  have finish : ∀ (v : Value) (A : Option Addr) (m cc : Nat) (r : Value) (w' : World), a.eval x = v → a.eval y = .slice A m cc → (Builtin.append_ #[t, t] o.type #[v, .slice A m cc]).run P w = .ok r w' → (execOp a.eval o).run P w = .ok (.value r) w' := by
    intro v A m cc r w' h1 h2 h3
    simp [execOp, ho, resolve, hc, eargs, etys, invoke, builtin, h1, h2, h3]
  split at h
  · rename_i v hx hy
    obtain ⟨ys, hfit, hlim, h⟩ := h
    have hry := C.ev hy
    obtain ⟨A, cc, news, hv, hA, hA0, helt⟩ := src_cells C hry hfit
    have hxv : a.eval x = .slice none 0 0 := by
      have := C.ev hx
      generalize a.eval x = q at this
      cases this; rfl
    have hown := World.ownsRow_nil w 0 e inf.size
    obtain ⟨r, w', hrun, hown', hg, hblk, _⟩ := append_run (P := P) w t o.type e inf z hd hinf hz (by rw [hzs, hsz]) (by omega) (.slice none 0 0) 0 [] hown A ys.length cc news (by rw [hsz]; exact helt.1) hA hA0 helt.cells (by rw [hby, Nat.zero_add]; exact hlim) (by omega)
    rw [hsz] at hown'
    have hstay := C.stay (row := none) hg (fun _ _ h => by cases h)
    refine wp_val (finish _ _ _ _ _ _ hxv hv hrun) (hn (.own H.length) _ r w' (upd s H.length r) S (C.push hg _ r (fun b hb => ?_) (OR.row_of upd_new hpos (by simpa using hown') (helt.mono (fun _ _ h => h) hstay) ?_)) ?_ h)
    · rcases hblk b hb with h | h
      · exact h
      · cases h
    · intro b k hb hS
      have := C.lt b k hS
      rcases hblk b hb with h | h
      · omega
      · cases h
    · rcases hown'.2 with ⟨rfl, _⟩ | ⟨g, cap, cur, rfl, _⟩
      · exact .own (by simp) upd_new
      · exact .own (by simp) upd_new
  · rename_i id v hx hy
    split at h
    case h_2 => exact h.elim
    rename_i ro e' sz α enc d xs hb
    replace h := chk_inv h
    obtain ⟨hck, h⟩ := h
    simp only [Bool.and_eq_true] at hck
    obtain rfl := Nat.eq_of_beq_eq_true hck.1
    have hszz := Nat.eq_of_beq_eq_true hck.2
    subst hszz
    obtain ⟨ys, hfit, hlim, h⟩ := h
    have hry := C.ev hy
    obtain ⟨A, cc, news, hv, hA, hA0, helt⟩ := src_cells C hry hfit
    obtain ⟨cs, hown, helx⟩ := (C.objs id _ hb).elt
    have hxv : a.eval x = s id := by
      have := C.ev hx
      generalize a.eval x = q at this
      cases this with | own hlt he => exact he.symm
    obtain ⟨r, w', hrun, hown', hg, hblk, hcell⟩ := append_run (P := P) w t o.type e' inf z hd hinf hz (by rw [hzs, hsz]) (by omega) (s id) xs.length cs (by rw [hsz]; exact hown) A ys.length cc news (by rw [hsz]; exact helt.1) hA hA0 helt.cells (by rw [hby]; exact hlim) (by omega)
    rw [hsz] at hown'
    have hSrow : ∀ b k, blk (s id) = some b → S b k → w'.cell? ⟨b, k, none⟩ = w.cell? ⟨b, k, none⟩ := by
      intro b k hb' hS
      obtain ⟨cs', _, _, _, _, h4⟩ := C.objs id _ hb
      exact hcell b k hb' (by rw [hsz]; exact (h4 b k hb' hS).2)
    have hstay := C.stay hg (fun b k hb' hS => hSrow b k hb' hS)
    refine wp_val (finish _ _ _ _ _ _ hxv hv hrun) (hn (.own H.length) _ r w' (upd s H.length r) S (C.pass id _ _ hb (by simp) r hg hblk hSrow (OR.row_of upd_new hpos (by simpa using hown') ((helx.append helt).mono (fun _ _ h => h) hstay) ?_)) ?_ h)
    · intro b k hb' hS
      rcases hblk b hb' with h | h
      · have := C.lt b k hS; omega
      · obtain ⟨cs', _, _, _, _, h4⟩ := C.objs id _ hb
        obtain ⟨g1, g2⟩ := h4 b k h hS
        refine ⟨g1, ?_⟩
        rw [List.length_append, Nat.add_mul]
        omega
    · rcases hown'.2 with ⟨rfl, _⟩ | ⟨g, cap, cur, rfl, _⟩
      · exact .own (by simp) upd_new
      · exact .own (by simp) upd_new
  · exact h.elim

theorem den_copy (hT : TabOk P T) {c : Call} (ho : o.op = .call c) (hc : c.callee = .builtin .copy) (h : den P T (.call c) (ev E) H K) : o.wp P a w next Q := by
  simp only [den, hlen_eq, hset_eq, hc] at h
  split at h
  case h_2 => exact h.elim
  rename_i x y t t' hxs hts
  have eargs : c.args = #[x, y] := by rw [← Array.toArray_toList (xs := c.args), hxs]
  have etys : c.argTypes = #[t, t'] := by rw [← Array.toArray_toList (xs := c.argTypes), hts]
  split at h
  case h_2 => exact h.elim
  rename_i i hi
  split at h
  case h_2 => exact h.elim
  rename_i e hk
  obtain ⟨_, ⟨dd, hd, hf⟩, _⟩ := hT t i hi
  rw [hk] at hf
  have hf' : dd = .slice e := hf
  subst hf'
  split at h
  case h_2 => exact h.elim
  rename_i te hte
  replace h := chk_inv h
  obtain ⟨hel, h⟩ := h
  rw [Bool.and_eq_true] at hel
  obtain ⟨_, _, inf, z, hinf, hsz, hby, hz, _, _, hzs, _⟩ := hT e te hte
  have hs1 : te.size = 1 := Nat.eq_of_beq_eq_true hel.2
  have hinfo : (P.info? e).map (·.size) = some 1 := by rw [hinf, Option.map_some, hsz, hs1]
  split at h
  case h_2 => exact h.elim
  rename_i id off sz0 len sz1 α1 enc1 d1 ys1 hx hy
  split at h
  case h_2 => exact h.elim
  rename_i e' sz α enc d xs hb
  replace h := chk_inv h
  obtain ⟨hzz, ys, heq, hol, h⟩ := h
  rw [Bool.and_eq_true] at hzz
  obtain rfl := Nat.eq_of_beq_eq_true hzz.1
  obtain rfl := Nat.eq_of_beq_eq_true hzz.2
  have hrx := C.ev hx
  have hry := C.ev hy
  rw [heq] at hry
  generalize hqx : a.eval x = qx at hrx
  generalize hqy : a.eval y = qy at hry
  have finish : ∀ (r : Value) (w' : World), (Builtin.copy_ #[t, t'] o.type #[qx, qy]).run P w = .ok r w' → (execOp a.eval o).run P w = .ok (.value r) w' := by
    intro r w' h3
    simp [execOp, ho, resolve, hc, eargs, etys, invoke, builtin, hqx, hqy, h3]
  cases hrx with
  | @sub _ _ _ _ A c' hid hcap hA =>
  cases hry with
  | pv hp =>
  cases hp with
  | sl B n cc _ _ _ _ _ u b o2 hnn hcc hz2 hBA hu hrr =>
  subst hnn
  by_cases hz0 : min ys.length len = 0
  · have run := run_copy_none (P := P) w t t' o.type e A B len c' ys.length cc hd hinfo hz0
    have e1 : ys.take len = [] := List.length_eq_zero_iff.1 (by rw [List.length_take]; omega)
    have e2 : setRange xs off (ys.take len) = xs := by rw [e1]; simp [setRange]
    have e3 : H.set id (.row false e' 1 α enc d xs) = H := by
      obtain ⟨h1, h2⟩ := List.getElem?_eq_some_iff.1 hb
      rw [← h2]; exact List.set_getElem_self h1
    rw [e2, e3, hz0] at h
    exact wp_val (finish _ _ run) (hn _ H _ w s S C (.pv (.lit _ rfl)) h)
  · obtain ⟨g, m, c2, hsid, hom, hAe⟩ := hA (by omega)
    subst hAe
    obtain ⟨cs, h1, h0, h2, h3, h4⟩ := C.objs id _ hb
    rcases h1.2 with ⟨_, hzz⟩ | ⟨g', cap, cur, hs, _, hg, hcapl, hmax, hcs, htk⟩
    · omega
    rw [hsid] at hs
    cases hs
    have hB := hBA (by omega)
    subst hB
    let us : List Value := (List.range (min ys.length len)).map fun j => u j 0
    have hus : us.length = min ys.length len := by simp [us]
    have hcell : ∀ j, j < min ys.length len → w.cell? ⟨b, o2 + j, none⟩ = some (u j 0) := fun j hj => by
      have := (hu j 0 (by omega) (by omega)).2
      rwa [Nat.mul_one, Nat.add_zero] at this
    have hget : ∀ j v, us[j]? = some v → j < min ys.length len ∧ v = u j 0 := fun j v hj => by
      have hlt := (List.getElem?_eq_some_iff.1 hj).1
      rw [hus] at hlt
      simp [us, hlt] at hj
      exact ⟨hlt, hj.symm⟩
    have hrep : ∀ j, j < min ys.length len → ∃ p, (enc (ys.getD j d))[0]? = some p ∧ Rep w S (u j 0) p := fun j hj => by
      have hl1 := hz2 j (by omega)
      obtain ⟨p, hp⟩ : ∃ p, (enc (ys.getD j d))[0]? = some p := ⟨_, List.getElem?_eq_getElem (by omega)⟩
      exact ⟨p, hp, hrr j 0 p (by omega) hp⟩
    have hone : ∀ v ∈ us, v.oneCell' = true := fun v hv => by
      obtain ⟨j, hj⟩ := List.getElem?_of_mem hv
      obtain ⟨hlt, rfl⟩ := hget j v hj
      obtain ⟨p, _, hr⟩ := hrep j hlt
      exact hr.oneCell
    have hcurl : cur.toList.length = c2 * 1 := by rw [Array.length_toList]; exact hcs
    have run := run_copy_row (P := P) w t t' o.type e g (off * 1) len c' ⟨b, o2, none⟩ ys.length cc cur e' us hd hinfo hg hus (fun j v hj => by
      obtain ⟨hlt, rfl⟩ := hget j v hj
      rw [← hcell j hlt]
      congr 1
      unfold Addr.add
      split
      · rename_i h; subst h; rfl
      · rfl) (by rw [hus]; rw [Array.length_toList] at hcurl; omega) hone
    have hgr := grown_setRow w g (setRange cur.toList (off * 1) us).toArray
    have hh := setRow_heap w g cur (setRange cur.toList (off * 1) us).toArray e' (0, 0) hg
    have hnoS : ∀ o', ¬ S g o' := fun o' hS => by have := h4 g o' (by rw [hsid]; rfl) hS; simp at this
    have hst' : ∀ b' o', S b' o' → (w.setRow g (setRange cur.toList (off * 1) us).toArray).cell? ⟨b', o', none⟩ = w.cell? ⟨b', o', none⟩ := C.stay hgr (fun b' o' hb' hS => by cases hb'; exact absurd hS (hnoS o'))
    have hlcs : cs.length = xs.length * 1 := h1.1
    have hyl : (ys.take len).length = min ys.length len := by rw [List.length_take]; omega
    have hxl : (setRange xs off (ys.take len)).length = xs.length := setRange_length (by omega)
    have hset : ∀ k, k < xs.length → (setRange xs off (ys.take len)).getD k d = if k < off then xs.getD k d else if k < off + (ys.take len).length then ys.getD (k - off) d else xs.getD k d := by
      intro k hk
      rw [List.getD_eq_getElem?_getD, getElem?_setRange (by omega)]
      split
      · rw [← List.getD_eq_getElem?_getD]
      · split
        · rw [List.getElem?_take, if_pos (by omega), ← List.getD_eq_getElem?_getD]
        · rw [← List.getD_eq_getElem?_getD]
    refine wp_val (finish _ _ run) (hn _ _ _ _ s S (C.turn id _ (.row false e' 1 α enc d (setRange xs off (ys.take len))) hb (by simp) (some g) (fun b' hb' => by cases hb'; rw [hsid]; rfl) (fun b' hb' => by rw [hsid] at hb'; cases hb'; rfl) hgr (fun b' o' hb' hS => by cases hb'; exact absurd hS (hnoS o')) ?_) (by rw [hus]; exact .pv (.lit _ rfl)) h)
    refine ⟨setRange cs (off * 1) us, ⟨by rw [setRange_length (by omega), hxl]; exact hlcs, ?_⟩, h0, ?_, ?_, ?_⟩
    · rw [hxl]
      refine .inr ⟨g, c2, _, hsid, Nat.zero_le _, hh, hcapl, hmax, ?_, ?_⟩
      · rw [List.size_toArray, setRange_length (by omega)]; exact hcurl
      · rw [← htk]
        apply List.ext_getElem?
        intro q
        have e1 := getElem?_setRange (cs := cur.toList) (vs := us) (off := off * 1) (by omega) q
        have e2 := getElem?_setRange (cs := cur.toList.take (xs.length * 1)) (vs := us) (off := off * 1) (by rw [List.length_take]; omega) q
        rw [e2, List.getElem?_take]
        split
        · rw [e1]
          simp only [List.getElem?_take]
          split <;> (try split) <;> first | rfl | (rename_i hlt _; simp [hlt]) | (simp_all)
        · rename_i hge
          simp only [List.getElem?_take, if_neg hge]
          rw [if_neg (by omega), if_neg (by omega)]
    · intro k hk
      rw [hxl] at hk
      rw [hset k hk]
      split
      · exact h2 k hk
      · split
        · exact hz2 _ (by omega)
        · exact h2 k hk
    · intro k q p hk hp'
      rw [hxl] at hk
      rw [hset k hk] at hp'
      rw [getElem?_setRange (by omega)]
      by_cases h5 : k < off
      · rw [if_pos h5] at hp'
        have hq : q < 1 := by rw [← h2 k hk]; exact (List.getElem?_eq_some_iff.1 hp').1
        obtain ⟨v, hv, hrv⟩ := h3 k q p hk hp'
        exact ⟨v, by rw [if_pos (by omega)]; exact hv, hrv.mono (fun _ _ h => h) hst'⟩
      · rw [if_neg h5] at hp'
        by_cases h6 : k < off + (ys.take len).length
        · rw [if_pos h6] at hp'
          have hq : q < 1 := by rw [← hz2 (k - off) (by omega)]; exact (List.getElem?_eq_some_iff.1 hp').1
          obtain rfl : q = 0 := by omega
          have hr := hrr (k - off) 0 p (by omega) hp'
          refine ⟨u (k - off) 0, ?_, hr.mono (fun _ _ h => h) hst'⟩
          rw [if_neg (by omega), if_pos (by omega)]
          have : k * 1 + 0 - off * 1 = k - off := by omega
          rw [this]
          have hlt : k - off < min ys.length len := by omega
          simp [us, hlt]
        · rw [if_neg h6] at hp'
          have hq : q < 1 := by rw [← h2 k hk]; exact (List.getElem?_eq_some_iff.1 hp').1
          obtain ⟨v, hv, hrv⟩ := h3 k q p hk hp'
          exact ⟨v, by rw [if_neg (by omega), if_neg (by omega)]; exact hv, hrv.mono (fun _ _ h => h) hst'⟩
    · intro b o' hb' hS
      rw [hsid] at hb'
      cases hb'
      exact absurd hS (hnoS o')
end

end Go.Vx

namespace Go.Vx
open Go.RowKit (Below)

theorem FitL_length {H : Heap} : ∀ {as bs : List AV}, FitL H as bs → as.length = bs.length
  | [], [], _ => rfl
  | a :: as, b :: bs, h => by rw [List.length_cons, List.length_cons, FitL_length h.2]
  | [], _ :: _, h => h.elim
  | _ :: _, [], h => h.elim

theorem flatten_replicate_get {α : Type _} (l : List α) : ∀ (n q : Nat), q < n * l.length → (List.replicate n l).flatten[q]? = l[q % l.length]?
  | 0, q, h => by simp at h
  | n + 1, q, h => by
    rw [List.replicate_succ, List.flatten_cons]
    by_cases hq : q < l.length
    · rw [List.getElem?_append_left hq, Nat.mod_eq_of_lt hq]
    · rw [List.getElem?_append_right (by omega), flatten_replicate_get l n (q - l.length) (by rw [Nat.add_mul, Nat.one_mul] at h; omega)]
      rw [Nat.mod_eq_sub_mod (a := q) (by omega)]

theorem flatMap_get {α β : Type _} {f : α → List β} {sz : Nat} {d : α} (hf : ∀ x, (f x).length = sz) : ∀ (xs : List α) (k j : Nat), k < xs.length → j < sz → (xs.flatMap f)[k * sz + j]? = (f (xs.getD k d))[j]?
  | [], k, j, h, _ => by simp at h
  | x :: xs, 0, j, h, hj => by
    rw [List.flatMap_cons, Nat.zero_mul, Nat.zero_add, List.getElem?_append_left (by rw [hf]; exact hj)]
    rfl
  | x :: xs, k + 1, j, h, hj => by
    rw [List.flatMap_cons, List.getElem?_append_right (by rw [hf, Nat.add_mul]; omega), hf, show (k + 1) * sz + j - sz = k * sz + j by rw [Nat.add_mul]; omega]
    exact flatMap_get hf xs k j (by simpa using h) hj

theorem flatMap_length {α β : Type _} {f : α → List β} {sz : Nat} (hf : ∀ x, (f x).length = sz) : ∀ (xs : List α), (xs.flatMap f).length = xs.length * sz
  | [] => by simp
  | x :: xs => by rw [List.flatMap_cons, List.length_append, hf, flatMap_length hf xs, List.length_cons, Nat.add_mul]; omega

section
variable {P : Program} {T : Tab} {o : Oper} {a : Act} {w : World} {next : Act → World → Prop} {Q : Exit → Act → World → Prop}
variable {w0 : World} {F : Nat → Prop} {S0 S : Cells} {s : Nat → Value} {E : Env} {H : Heap} {K : AV → Heap → Prop}
variable (C : Conc w0 F S0 s S E H a.tmps w) (hn : Then w0 F S0 E a.tmps K fun v w' => next (a.put o.dst v) w')
include C hn

theorem den_buildSlice (hT : TabOk P T) {t : TypeId} {len : Nat} {parts : Array (Nat × Operand)} (ho : o.op = .buildSlice t len parts) (h : den P T (.buildSlice t len parts) (ev E) H K) : o.wp P a w next Q := by
  simp only [den, hlen_eq, hset_eq] at h
  split at h
  case h_2 => exact h.elim
  rename_i i hi
  split at h
  case h_2 => exact h.elim
  rename_i e hk
  obtain ⟨_, ⟨dd, hd, hf⟩, _⟩ := hT t i hi
  rw [hk] at hf
  have hf' : dd = .slice e := hf
  subst hf'
  split at h
  case h_2 => exact h.elim
  rename_i te ps hte hps
  replace h := chk_inv h
  obtain ⟨hck, h⟩ := h
  simp only [Bool.and_eq_true] at hck
  obtain ⟨⟨hel, hnt⟩, hsmall⟩ := hck
  replace hsmall := Nat.le_of_ble_eq_true hsmall
  obtain ⟨huni, _, inf, z, hinf, hsz, hby, hz, hzc, hz1, hzs, _⟩ := hT e te hte
  obtain ⟨hpos, hbpos, huni⟩ := huni hel
  have hzl : te.zero.length = te.size := by rw [← hzc, List.length_map, Array.length_toList, hzs]
  have h : ∃ out, fillParts (fun k => some (k * te.size, te.size)) (List.replicate len te.zero).flatten ps = some out ∧ ∃ xs : List te.α, xs.length = len ∧ FitL H out ((xs.flatMap te.enc).map AV.pv) ∧ K (.own H.length) (frzL H out ++ [.row false e te.size te.α te.enc te.d xs]) := by
    split at h
    · rename_i hin
      obtain ⟨xs, hxl, hfit, h⟩ := h
      refine ⟨partCells ps, ?_, xs, hxl, FitParts_sound hfit, frzK_eq _ h⟩
      have := fill_inOrd (sz := te.size) len 0 ps [] (List.replicate len te.zero).flatten hin (by simp) (by simp [hzl])
      simpa using this
    · split at h
      · rename_i out hout
        exact ⟨out, hout, h⟩
      · exact h.elim
  obtain ⟨out, hout, h⟩ := h
  obtain ⟨xs, hxl, hfit, h⟩ := h
  obtain ⟨hl, hparts⟩ := getParts_sound C parts.toList hps
  have hzr : AllR s H.length w S te.zero z.cells.toList := by rw [← hzc]; exact AllR.const hz1
  let zs : Array Value := (Array.range (len * te.size)).map (z.cells[· % z.cells.size]!)
  have hzsl : zs.size = len * te.size := by simp [zs]
  have hzs' : AllR s H.length w S (List.replicate len te.zero).flatten zs.toList := by
    refine ⟨by rw [Array.length_toList, hzsl]; simp [hzl], fun j c v hc hv => ?_⟩
    have hj : j < len * te.size := by rw [← hzsl, ← Array.length_toList]; exact (List.getElem?_eq_some_iff.1 hv).1
    rw [flatten_replicate_get _ _ _ (by rw [hzl]; exact hj), hzl] at hc
    have hmod : j % te.size < te.size := Nat.mod_lt _ hpos
    have e1 : v = z.cells[j % te.size]! := by
      have : zs.toList[j]? = some (z.cells[j % z.cells.size]!) := by simp [zs, hj]
      rw [this] at hv
      cases hv
      rw [hzs]
    have e2 : z.cells.toList[j % te.size]? = some v := by
      rw [e1, Array.getElem?_toList, getElem!_pos z.cells _ (by rw [hzs]; exact hmod)]
      exact getElem?_pos z.cells _ (by rw [hzs]; exact hmod)
    exact hzr.2 _ _ _ hc e2
  obtain ⟨us, hfill, hus⟩ := fill_parts (place := fun k => some (k * te.size, te.size)) ps (parts.toList.map fun p => (p.1, a.eval p.2)) _ out zs (by simp [hl]) (fun j i' x k v hj hv => by
    obtain ⟨e, hr⟩ := hparts j i' x k v hj hv
    refine ⟨e, hr, ?_⟩
    rintro vs rfl
    have := List.all_eq_true.1 hnt _ (List.mem_of_getElem? hj)
    simp [noTup] at this) hzs' hout
  have hol : out.length = len * te.size := by rw [FitL_length hfit, List.length_map, flatMap_length huni, hxl]
  have husl : us.size = len * te.size := by rw [← Array.length_toList, hus.1, hol]
  obtain ⟨S1, m1, C1, f1⟩ := Conc.frzL out C
  have hpure := f1 _ hfit us.toList hus
  have hown := World.ownsRow_lit (base := 0) (e := e) (size := te.size) w us len (Nat.zero_le _) (by simp only [maxLen]; have : len ≤ len * te.size := Nat.le_mul_of_pos_right _ hpos; omega) husl
  have helt : EltR w S1 te.size te.enc te.d xs us.toList := by
    refine ⟨by rw [Array.length_toList, husl, hxl], fun k _ => huni _, fun k j p hk hp => ?_⟩
    have hj : j < te.size := by rw [← huni (xs.getD k te.d)]; exact (List.getElem?_eq_some_iff.1 hp).1
    have hg := flatMap_get (d := te.d) huni xs k j hk hj
    obtain ⟨u, hu, hr⟩ := hpure.at_ (j := k * te.size + j) (c := .pv p) (by rw [List.getElem?_map, hg, hp]; rfl)
    refine ⟨u, hu, ?_⟩
    cases hr with
    | pv h => exact h
  have hlen1 : (frzL H out).length = H.length := length_frzL out H
  have hfill' : Instr.fill (fun i => some (i * inf.size, inf.size)) zs (parts.map fun p => (p.1, a.eval p.2)).toList = some us := by
    rw [hsz, Array.toList_map]; exact hfill
  have hstay := C1.stay (grown_alloc w (.cells us e)) (fun _ _ h => by cases h)
  have hC2 := C1.push (grown_alloc w (.cells us e)) (.row false e te.size te.α te.enc te.d xs) (.slice (some ⟨w.heap.size, 0, none⟩) len len) (fun b hb => by cases hb; exact Nat.le_refl _)
    (OR.row_of upd_new hpos (by rw [hxl]; exact hown) (helt.mono (fun _ _ h => h) hstay) (fun b k hb hS => absurd (C1.lt _ _ hS) (by rw [← show w.heap.size = b by simpa [blk] using hb]; exact Nat.lt_irrefl _)))
  rw [hlen1] at hC2
  refine wp_val (v := .slice (some ⟨w.heap.size, 0, none⟩) len len) (w' := w.alloc (.cells us e)) ?_ (hn (.own H.length) _ _ _ _ S1 hC2 (.own (by simp [hlen1]) upd_new) h)
  by_cases h0 : len = 0
  · subst h0
    have hps0 : us = #[] := by
      have : us.size = 0 := by rw [husl]; simp
      exact Array.eq_empty_of_size_eq_zero this
    have hzs0 : zs = #[] := Array.eq_empty_of_size_eq_zero (by rw [hzsl]; simp)
    rw [hzs0] at hfill'
    subst hps0
    have hnil : ∀ g : Nat → Value, (Array.range 0).map g = #[] := fun _ => Array.eq_empty_of_size_eq_zero (by simp)
    rw [Array.toList_map] at hfill'
    simp [execOp, ho, Instr.buildSlice, run_underlying hd, sizeOf, typeInfo, hinf, hnil, hfill', newRow]
    try rfl
  · have hr := run_buildSlice (P := P) w t e len (parts.map fun p => (p.1, a.eval p.2)) us inf z hd hinf hz (by rw [hsz]; omega) (by rw [hsz]; intro hz0; rcases Nat.mul_eq_zero.1 hz0 with h | h <;> omega) (by
      have : ((Array.range (len * inf.size)).map (z.cells[· % z.cells.size]!)) = zs := by rw [hsz]
      rw [this]; exact hfill')
    simp only [execOp, ho, Sem.run_bind]
    rw [hr]
    rfl

theorem den_makeSlice (hT : TabOk P T) {t : TypeId} {l c : Operand} (ho : o.op = .makeSlice t l c) (h : den P T (.makeSlice t l c) (ev E) H K) : o.wp P a w next Q := by
  simp only [den, hlen_eq, hset_eq] at h
  split at h
  case h_2 => exact h.elim
  rename_i i hi
  split at h
  case h_2 => exact h.elim
  rename_i e hk
  obtain ⟨_, ⟨dd, hd, hf⟩, _⟩ := hT t i hi
  rw [hk] at hf
  have hf' : dd = .slice e := hf
  subst hf'
  split at h
  case h_2 => exact h.elim
  rename_i te hte
  obtain ⟨huni, _, inf, z, hinf, hsz, hby, hz, hzc, hz1, hzs, _⟩ := hT e te hte
  split at h
  case h_2 => exact h.elim
  rename_i k1 n k2 m hln hcn
  replace h := chk_inv h
  obtain ⟨hel, hmn, h0, hlim, hze, h⟩ := h
  obtain ⟨hpos, hbpos, huni⟩ := huni hel
  subst hmn
  have el := (C.ev hln).lit_inv
  have ec := (C.ev hcn).lit_inv
  obtain ⟨q, rfl⟩ := Int.eq_ofNat_of_zero_le h0
  have hlim' : inf.bytes * q ≤ 281474976710656 := by
    have : ((q * te.bytes : Nat) : Int) ≤ 281474976710656 := by rw [Int.natCast_mul]; exact hlim
    rw [hby, Nat.mul_comm]; omega
  have hq : q ≤ 281474976710656 := Nat.le_trans (Nat.le_mul_of_pos_left _ (by omega)) hlim'
  obtain ⟨w', hrun, hown, hg⟩ := run_make_full (P := P) w 0 t e inf z te.size hd hinf hz hsz k1 k2 q hlim' (by simp only [maxLen]; omega) (Nat.zero_le _)
  have hzl : te.zero.length = te.size := by rw [← hzc, List.length_map, Array.length_toList, hzs]
  have hml : (madeCells z.cells (q * te.size)).toList.length = q * te.size := by rw [Array.length_toList, size_madeCells]
  have helt : EltR w S te.size te.enc te.d (List.replicate q te.d) (madeCells z.cells (q * te.size)).toList := by
    refine ⟨by rw [hml, List.length_replicate], fun k _ => huni _, fun k j p hk hp => ?_⟩
    rw [List.length_replicate] at hk
    have hd' : (List.replicate q te.d).getD k te.d = te.d := by
      rw [List.getD_eq_getElem?_getD, List.getElem?_replicate]
      split <;> rfl
    rw [hd'] at hp
    have hj : j < te.size := by rw [← huni te.d]; exact (List.getElem?_eq_some_iff.1 hp).1
    have hlt := mul_add_lt hk hj
    have hcj : j < z.cells.size := by omega
    have e1 : (madeCells z.cells (q * te.size)).toList[k * te.size + j]? = some z.cells[j] := by
      have : (k * te.size + j) % z.cells.size = j := by rw [hzs, Nat.mul_comm, Nat.mul_add_mod, Nat.mod_eq_of_lt hj]
      simp [madeCells, hlt, this, hcj]
    have e2 : constCell z.cells[j] = .pv p := by
      have g1 : (z.cells.toList.map constCell)[j]? = ((te.enc te.d).map AV.pv)[j]? := by rw [hzc, hze]
      rw [List.getElem?_map, List.getElem?_map, hp] at g1
      have : z.cells.toList[j]? = some z.cells[j] := by rw [Array.getElem?_toList]; exact getElem?_pos z.cells j hcj
      rw [this] at g1
      simpa using g1
    refine ⟨z.cells[j], e1, ?_⟩
    unfold constCell at e2
    split at e2
    · cases e2
    · cases e2
      exact .lit _ (List.all_eq_true.1 hz1 _ (by simp))
  have hstay := C.stay (row := none) hg (fun _ _ h => by cases h)
  refine wp_val (v := .slice (some ⟨w.heap.size, 0, none⟩) q q) (w' := w') ?_ (hn (.own H.length) _ _ _ _ S (C.push hg (.row false e te.size te.α te.enc te.d (List.replicate (q : Int).toNat te.d)) (.slice (some ⟨w.heap.size, 0, none⟩) q q) (fun b hb => by cases hb; exact Nat.le_refl _)
    (OR.row_of upd_new hpos (by rw [Int.toNat_natCast, List.length_replicate]; exact hown) (by rw [Int.toNat_natCast]; exact helt.mono (fun _ _ h => h) hstay) (fun b k hb hS => absurd (C.lt _ _ hS) (by rw [← show w.heap.size = b by simpa [blk] using hb]; exact Nat.lt_irrefl _)))) (.own (by simp) upd_new) h)
  simp only [execOp, ho, Sem.run_bind, el, ec]
  rw [hrun]
  rfl
end

end Go.Vx

namespace Go.Vx
open Go.RowKit (Below)

theorem one_cells {v : Value} (h : v.oneCell' = true) : v.cells.toList = [v] := by
  cases v <;> first | rfl | simp [Value.oneCell'] at h

theorem sameK_eq {a b : KK} (h : sameK a b = true) : a = b := by
  cases a <;> cases b <;> simp [sameK] at h
  · rw [h]
  · rfl

theorem KK.of_val {kk : KK} {v : Value} {x : kk.T} (h : kk.of v = some x) : v = kk.val x := by
  cases kk with
  | int k =>
    cases v <;> simp only [KK.of] at h <;> first | cases h | skip
    split at h
    · rename_i e; subst e; cases h; rfl
    · cases h
  | str =>
    cases v <;> simp only [KK.of] at h <;> first | cases h | skip
    rfl

def KK.desc : KK → TypeDesc → Prop
  | .int k, d => d = .int k
  | .str, d => d = .string

theorem keyK_desc {k : TK} {kk : KK} {d : TypeDesc} (h : keyK k = some kk) (hf : k.fits d) : kk.desc d := by
  cases k <;> simp only [keyK] at h <;> cases h <;> exact hf

theorem bytes_eq {a b : ByteArray} (h : (a == b) = true) : a = b := by
  have e : (a == b) = (a.data == b.data) := by cases a; cases b; rfl
  rw [e] at h
  cases a; cases b
  simpa using h
theorem bytes_self (a : ByteArray) : (a == a) = true := by
  have e : (a == a) = (a.data == a.data) := by cases a; rfl
  rw [e]; simp

theorem KK.eq_eq : ∀ {kk : KK} {a b : kk.T}, kk.eq a b = true → a = b
  | .int _, a, b, h => @of_decide_eq_true (@Eq Int a b) (Int.instDecidableEq a b) h
  | .str, a, b, h => bytes_eq (a := a) (b := b) h

theorem sameBits_self (kk : KK) (a : kk.T) : Instr.sameBits 10000 (kk.val a) (kk.val a) = true := by
  cases kk with
  | int k =>
    have : ∀ s : Int, Instr.sameBits 10000 (.int k s) (.int k s) = true := fun s => by simp [Instr.sameBits]
    exact this a
  | str =>
    have : ∀ s : ByteArray, Instr.sameBits 10000 (.string s) (.string s) = true := fun s => bytes_self s
    exact this a

theorem sameNow_eq {kk : KK} {d : TypeDesc} (hd : kk.desc d) (a b : kk.T) : Instr.sameNow d (kk.val a) (kk.val b) = some (kk.eq a b) := by
  cases kk with
  | int k =>
    have : d = .int k := hd
    subst this
    simp only [KK.val, Instr.sameNow, if_true]
    rfl
  | str =>
    have : d = .string := hd
    subst this
    rfl

/-- The look-up, of entries told by pairs. -/
theorem find_spec {w : World} {S : Cells} {kk : KK} {ν : Type} {ev : ν → List PV} {d : TypeDesc} (hd : kk.desc d) (key : kk.T) : ∀ (es : List MapEntry) (kvs : List (kk.T × ν)) (i : Nat), es.length = kvs.length →
    (∀ (j : Nat) (e : MapEntry) (kv : kk.T × ν), es[j]? = some e → kvs[j]? = some kv → EntR w S kk ev e kv) →
    (look kk kvs key = none ∧ Instr.findNow d (kk.val key) es i = some none ∧ (∀ x, upsert kk kvs key x = kvs ++ [(key, x)]) ∧ without kk kvs key = kvs) ∨
    ∃ j e kv, es[j]? = some e ∧ kvs[j]? = some kv ∧ kk.eq key kv.1 = true ∧ look kk kvs key = some kv.2 ∧ Instr.findNow d (kk.val key) es i = some (some (i + j, e.val)) ∧ (∀ x, upsert kk kvs key x = kvs.set j (kv.1, x)) ∧ without kk kvs key = kvs.eraseIdx j
  | [], [], i, _, _ => .inl ⟨rfl, rfl, fun _ => rfl, rfl⟩
  | e :: es, (a, y) :: kvs, i, hl, h => by
    have hk : e.key = kk.val a := (h 0 e (a, y) rfl rfl).1
    have hs := sameNow_eq hd key a
    cases hq : kk.eq key a with
    | true =>
      refine .inr ⟨0, e, (a, y), rfl, rfl, hq, ?_, ?_, ?_, ?_⟩
      · simp [look, hq]
      · simp [Instr.findNow, hk, hs, hq]
      · intro x; simp [upsert, hq]
      · simp [without, hq]
    | false =>
      rcases find_spec hd key es kvs (i + 1) (by simpa using hl) (fun j e' kv h1 h2 => h (j + 1) e' kv (by simpa using h1) (by simpa using h2)) with ⟨h1, h2, h3, h4⟩ | ⟨j, e', kv, h1, h2, h3, h4, h5, h6, h7⟩
      · refine .inl ⟨?_, ?_, ?_, ?_⟩
        · simp [look, hq, h1]
        · simp [Instr.findNow, hk, hs, hq, h2]
        · intro x; simp [upsert, hq, h3]
        · simp [without, hq, h4]
      · refine .inr ⟨j + 1, e', kv, by simpa using h1, by simpa using h2, h3, ?_, ?_, ?_, ?_⟩
        · simp [look, hq, h4]
        · simp [Instr.findNow, hk, hs, hq, h5]; omega
        · intro x; simp [upsert, hq, h6]
        · simp [without, hq, h7]
  | [], _ :: _, i, hl, _ => by simp at hl
  | _ :: _, [], i, hl, _ => by simp at hl

theorem run_findKey {P : Program} {w : World} {kt : TypeId} {d : TypeDesc} {k : Value} {es : List MapEntry} {r : Option (Nat × Value)} (h : P.underlying kt = some d) (hf : Instr.findNow d k es 0 = some r) : (Instr.findKey kt k es).run P w = .ok r w := by
  simp [Instr.findKey, run_underlying h, hf]

theorem run_checkKey {P : Program} {w : World} {kk : KK} {kt : TypeId} {d : TypeDesc} (h : P.underlying kt = some d) (hd : kk.desc d) (b : Bool) (k : kk.T) : (Instr.checkKey b 10000 kt (kk.val k)).run P w = .ok () w := by
  have h1 : ∀ n, (Instr.checkKey b (n + 1) kt (kk.val k)).run P w = .ok () w := by
    intro n
    cases kk with
    | int q => have : d = .int q := hd; subst this; simp [Instr.checkKey, run_underlying h, KK.val]
    | str => have : d = .string := hd; subst this; simp [Instr.checkKey, run_underlying h, KK.val]
  exact h1 9999

theorem getObj_map {P : Program} {w : World} {r : Nat} {es : Array MapEntry} {clock : Nat} (hb : w.heap[r]? = some (.map es clock)) : (getObj r).run P w = .ok (.map es clock) w := by
  simp [getObj, Sem.run, hb]
theorem setObj_map {P : Program} {w : World} {r : Nat} {es : Array MapEntry} {clock : Nat} (o : Obj) (hb : w.heap[r]? = some (.map es clock)) : (setObj r o).run P w = .ok () { w with heap := w.heap.setIfInBounds r o } := by
  simp [setObj, Sem.run, hb]

/-- A block's object, another one. -/
def blockSet (w : World) (b : Nat) (o : Obj) : World := { w with heap := w.heap.setIfInBounds b o }
theorem grown_blockSet (w : World) (b : Nat) (o : Obj) : w.grownBy (blockSet w b o) (some b) :=
  ⟨rfl, rfl, rfl, by simp [blockSet], fun k hk hne => by
    have : b ≠ k := fun e => hne (by rw [e])
    simp [blockSet, this]⟩
theorem heap_blockSet {w : World} {b : Nat} (o : Obj) (h : b < w.heap.size) : (blockSet w b o).heap[b]? = some o := by
  simp [blockSet, h]

section
variable {P : Program} {T : Tab} {o : Oper} {a : Act} {w : World} {next : Act → World → Prop} {Q : Exit → Act → World → Prop}
variable {w0 : World} {F : Nat → Prop} {S0 S : Cells} {s : Nat → Value} {E : Env} {H : Heap} {K : AV → Heap → Prop}
variable (C : Conc w0 F S0 s S E H a.tmps w) (hn : Then w0 F S0 E a.tmps K fun v w' => next (a.put o.dst v) w')
include C hn

theorem den_makeMap (hT : TabOk P T) {t : TypeId} {r : Option Operand} (ho : o.op = .makeMap t r) (h : den P T (.makeMap t r) (ev E) H K) : o.wp P a w next Q := by
  cases r with
  | some r => exact (by simp only [den, hlen_eq, hset_eq] at h)
  | none =>
  simp only [den, hlen_eq, hset_eq] at h
  repeat' split at h
  all_goals first | exact h.elim | skip
  refine wp_val (v := .map (some w.heap.size)) (w' := w.alloc (.map #[] 0)) ?_ (hn (.map H.length) _ _ _ _ S (C.push (grown_alloc w _) _ (.map (some w.heap.size)) (fun b hb => by cases hb; exact Nat.le_refl _) ?_) ?_ h)
  · simp [execOp, ho, Instr.makeMap]
  · exact ⟨w.heap.size, #[], 0, upd_new, heap_alloc_new w _, rfl, fun j e kv he => by simp at he, fun e he => by simp at he, fun j k e e' he => by simp at he, fun b hS => absurd (C.lt _ _ hS) (Nat.lt_irrefl _)⟩
  · exact .map (by simp) upd_new

theorem den_mapUpdate (hT : TabOk P T) {t : TypeId} {m k x : Operand} (ho : o.op = .mapUpdate t m k x ∨ o.op = .insert t m k x) (h : den P T (.mapUpdate t m k x) (ev E) H K) : o.wp P a w next Q := by
  simp only [den, hlen_eq, hset_eq] at h
  split at h
  case h_2 => exact h.elim
  rename_i ti hti
  split at h
  case h_2 => exact h.elim
  rename_i k' e' hk
  obtain ⟨_, ⟨d, hd, hf⟩, _⟩ := hT t ti hti
  rw [hk] at hf
  have hf' : d = .map k' e' := hf
  subst hf'
  split at h
  case h_2 => exact h.elim
  rename_i tk htk
  obtain ⟨_, ⟨dk, hdk, hfk⟩, _⟩ := hT k' tk htk
  split at h
  case h_2 => exact h.elim
  rename_i kk id kv v hkk hm hkv hx
  split at h
  case h_2 => exact h.elim
  rename_i kk' ν ev' kvs hb
  split at h
  case h_2 => exact h.elim
  rename_i key hkey
  obtain ⟨hck, y, hy, h⟩ := chk_inv h
  simp only [Bool.and_eq_true] at hck
  obtain ⟨⟨⟨hsk, hnt⟩, hall⟩, hgv⟩ := hck
  obtain rfl := sameK_eq hsk
  have hdesc := keyK_desc hkk hfk
  obtain ⟨b, es, clock, h1, h2, h3, h4, h5, h6, h7⟩ := C.objs id _ hb
  have hbl : b < w.heap.size := (Array.getElem?_eq_some_iff.1 h2).1
  have em : a.eval m = .map (some b) := by
    have hr := C.ev hm
    generalize a.eval m = q at hr
    cases hr with
    | map hlt he => rw [h1] at he; cases he; rfl
  have ek := (C.ev hkv).lit_inv
  rw [KK.of_val hkey] at ek
  have hrx := C.ev hx
  have hc := hrx.cells (by rintro vs rfl; simp [noTup] at hnt)
  have hent : ∀ (key' : kk.T) (bn : Nat), EntR w S kk ev' ⟨kk.val key', a.eval x, bn⟩ (key', y) := by
    intro key' bn
    refine ⟨rfl, (a.eval x).cells.toList, ?_, ?_, ?_⟩
    · rw [hc.1, ← hy, List.length_map]
    · generalize a.eval x = q at hrx
      cases hrx with
      | agg hl hc' =>
        refine .inl ⟨rfl, ?_⟩
        rename_i cs vs
        show vs.length ≠ 1
        rw [hl]
        rintro e1
        obtain ⟨c0, rfl⟩ := List.length_eq_one_iff.1 e1
        simp [goodVal] at hgv
      | tup => simp [noTup] at hnt
      | pv hp => exact .inr (by cases hp with
        | lit _ h1 => exact one_cells h1
        | sl => rfl)
      | nil => exact .inr rfl
      | own => exact .inr rfl
      | ptr => exact .inr rfl
      | eptr => exact .inr rfl
      | sub => exact .inr rfl
      | rptr => exact .inr rfl
      | map => exact .inr rfl
    · intro j p hp
      obtain ⟨u, hu, hr⟩ := hc.at_ (j := j) (c := .pv p) (by rw [← hy, List.getElem?_map, hp]; rfl)
      refine ⟨u, hu, ?_⟩
      cases hr with
      | pv h => exact h
  have fin : ∀ (es' : Array MapEntry) (clock' : Nat) (kvs' : List (kk.T × ν)), kvs' = upsert kk kvs key y → es'.size = kvs'.length → (∀ (j : Nat) (e : MapEntry) (kv : kk.T × ν), es'[j]? = some e → kvs'[j]? = some kv → EntR w S kk ev' e kv) →
      (∀ e ∈ es', e.born < clock') → (∀ (j k : Nat) (e e' : MapEntry), es'[j]? = some e → es'[k]? = some e' → e.born = e'.born → j = k) →
      (Instr.mapUpdate t (.map (some b)) (kk.val key) (a.eval x)).run P w = .ok () (blockSet w b (.map es' clock')) → o.wp P a w next Q := by
    intro es' clock' kvs' hkvs' hs' he' hb' hi' hrun
    have hg := grown_blockSet w b (.map es' clock')
    refine wp_skp (w' := blockSet w b (.map es' clock')) ?_ (hn (.tup []) _ undef _ s S (C.turn id _ (.map kk ν ev' kvs') hb (by simp) (some b) (fun b' hb' => by cases hb'; rw [h1]; rfl) (fun b' hb' => by rw [h1] at hb'; cases hb'; rfl) hg (fun b' o' hb' hS => by cases hb'; exact absurd hS (h7 o')) ?_) ?_ (by rw [hkvs']; exact h))
    · rcases ho with ho | ho <;> simp [execOp, ho, em, ek, hrun]
    · have hst := C.stay hg (fun b' o' hb' hS => by cases hb'; exact absurd hS (h7 o'))
      exact ⟨b, es', clock', h1, heap_blockSet _ hbl, hs', fun j e kv h1 h2 => (he' j e kv h1 h2).mono (fun _ _ h => h) hst, hb', hi', h7⟩
    · exact .tup (vs := []) rfl (fun j c v hc => by simp at hc)
  rcases find_spec (w := w) (S := S) (ev := ev') hdesc key es.toList kvs 0 (by rw [Array.length_toList, h3]) (fun j e kv he hkv => h4 j e kv (by rw [← Array.getElem?_toList]; exact he) hkv) with ⟨_, g2, g3, _⟩ | ⟨j, e, kv', g1, g2, g3, _, g5, g6, _⟩
  · refine fin (es.push ⟨kk.val key, a.eval x, clock⟩) (clock + 1) _ rfl ?_ ?_ ?_ ?_ ?_
    · rw [g3 y]; simp [h3]
    · intro j e kv he hkv
      rw [g3 y] at hkv
      rw [Array.getElem?_push] at he
      split at he
      · rename_i hj
        cases he
        rw [hj, h3, List.getElem?_append_right (Nat.le_refl _)] at hkv
        simp at hkv
        subst hkv
        exact hent key clock
      · rename_i hj
        have hlt : j < es.size := (Array.getElem?_eq_some_iff.1 he).1
        rw [List.getElem?_append_left (by omega)] at hkv
        exact h4 j e kv he hkv
    · intro e he
      rw [Array.mem_push] at he
      rcases he with he | rfl
      · exact Nat.lt_succ_of_lt (h5 e he)
      · exact Nat.lt_succ_self _
    · intro j k e e' he he' hbn
      have hb1 : ∀ (i : Nat) (q : MapEntry), es[i]? = some q → q.born < clock := fun i q hq => h5 q (Array.mem_of_getElem? hq)
      rw [Array.getElem?_push] at he he'
      split at he <;> split at he'
      · omega
      · cases he
        have := hb1 _ _ he'
        simp only at hbn
        omega
      · cases he'
        have := hb1 _ _ he
        simp only at hbn
        omega
      · exact h6 j k e e' he he' hbn
    · simp only [Instr.mapUpdate, Sem.run_bind, run_underlying hd, Result.andThen_ok, getObj_map h2, run_checkKey hdk hdesc, run_findKey hdk g2, setObj_map _ h2]
      rfl
  · have hj : j < es.size := by have := (List.getElem?_eq_some_iff.1 g1).1; simpa using this
    have he : es[j]? = some e := by rw [← Array.getElem?_toList]; exact g1
    have hkeq : kk.val kv'.1 = kk.val key := by rw [KK.eq_eq g3]
    have hek : e.key = kk.val key := (h4 j e kv' he g2).1.trans hkeq
    refine fin (es.modify j fun e => { e with key := kk.val key, val := a.eval x }) clock _ rfl ?_ ?_ ?_ ?_ ?_
    · rw [g6 y]; simp [h3]
    · intro i q kv hq hkv
      rw [g6 y, List.getElem?_set] at hkv
      rw [Array.getElem?_modify] at hq
      by_cases hij : j = i
      · subst hij
        have hjk : j < kvs.length := by omega
        rw [if_pos rfl, he] at hq
        rw [if_pos rfl, if_pos hjk] at hkv
        cases hq
        cases hkv
        have := hent kv'.1 e.born
        rw [hkeq] at this
        exact this
      · rw [if_neg hij] at hq hkv
        exact h4 i q kv hq hkv
    · intro q hq
      obtain ⟨i, hi⟩ := Array.getElem?_of_mem hq
      rw [Array.getElem?_modify] at hi
      split at hi
      · rename_i hij
        subst hij
        rw [he] at hi
        cases hi
        exact h5 e (Array.mem_of_getElem? he)
      · exact h5 q (Array.mem_of_getElem? hi)
    · have hbn : ∀ (i : Nat) (q : MapEntry), (es.modify j fun e => { e with key := kk.val key, val := a.eval x })[i]? = some q → ∃ q', es[i]? = some q' ∧ q'.born = q.born := by
        intro i q hi
        rw [Array.getElem?_modify] at hi
        split at hi
        · rename_i hij
          subst hij
          rw [he] at hi
          cases hi
          exact ⟨e, he, rfl⟩
        · exact ⟨q, hi, rfl⟩
      intro i k q q' hi hk' hb'
      obtain ⟨p, hp, e1⟩ := hbn i q hi
      obtain ⟨p', hp', e2⟩ := hbn k q' hk'
      exact h6 i k p p' hp hp' (by rw [e1, e2, hb'])
    · rw [Nat.zero_add] at g5
      have hstay : (Instr.keyThatStays (((es[j]?).map (·.key)).getD (kk.val key)) (kk.val key)).run P w = .ok (kk.val key) w := by
        simp [Instr.keyThatStays, he, hek, sameBits_self]
      simp only [Instr.mapUpdate, Sem.run_bind, run_underlying hd, Result.andThen_ok, getObj_map h2, run_checkKey hdk hdesc, run_findKey hdk g5, hstay, setObj_map _ h2]
      rfl

theorem den_delete (hT : TabOk P T) {c : Call} (ho : o.op = .call c) (hcal : c.callee = .builtin .delete) (h : den P T (.call c) (ev E) H K) : o.wp P a w next Q := by
  simp only [den, hlen_eq, hset_eq, hcal] at h
  split at h
  case h_2 => exact h.elim
  rename_i m k restA t restT hargs htys
  split at h
  case h_2 => exact h.elim
  rename_i ti hti
  split at h
  case h_2 => exact h.elim
  rename_i k' e' hk
  obtain ⟨_, ⟨d, hd, hf⟩, _⟩ := hT t ti hti
  rw [hk] at hf
  have hf' : d = .map k' e' := hf
  subst hf'
  split at h
  case h_2 => exact h.elim
  rename_i tk htk
  obtain ⟨_, ⟨dk, hdk, hfk⟩, _⟩ := hT k' tk htk
  split at h
  case h_2 => exact h.elim
  rename_i kk id kv hkk hm hkv
  split at h
  case h_2 => exact h.elim
  rename_i kk' ν ev' kvs hb
  split at h
  case h_2 => exact h.elim
  rename_i key hkey
  obtain ⟨hsk, h⟩ := chk_inv h
  obtain rfl := sameK_eq hsk
  have hdesc := keyK_desc hkk hfk
  obtain ⟨b, es, clock, h1, h2, h3, h4, h5, h6, h7⟩ := C.objs id _ hb
  have hbl : b < w.heap.size := (Array.getElem?_eq_some_iff.1 h2).1
  have em : a.eval m = .map (some b) := by
    have hr := C.ev hm
    generalize a.eval m = q at hr
    cases hr with
    | map hlt he => rw [h1] at he; cases he; rfl
  have ek := (C.ev hkv).lit_inv
  rw [KK.of_val hkey] at ek
  have fin : ∀ (es' : Array MapEntry) (kvs' : List (kk.T × ν)), kvs' = without kk kvs key → es'.size = kvs'.length → (∀ (j : Nat) (e : MapEntry) (kv : kk.T × ν), es'[j]? = some e → kvs'[j]? = some kv → EntR w S kk ev' e kv) →
      (∀ e ∈ es', e.born < clock) → (∀ (j k : Nat) (e e' : MapEntry), es'[j]? = some e → es'[k]? = some e' → e.born = e'.born → j = k) →
      (execOp a.eval o).run P w = .ok (.value (.tuple #[])) (blockSet w b (.map es' clock)) → o.wp P a w next Q := by
    intro es' kvs' hkvs' hs' he' hb' hi' hrun
    have hg := grown_blockSet w b (.map es' clock)
    refine wp_val hrun (hn (.tup []) _ (.tuple #[]) _ s S (C.turn id _ (.map kk ν ev' kvs') hb (by simp) (some b) (fun b' hb' => by cases hb'; rw [h1]; rfl) (fun b' hb' => by rw [h1] at hb'; cases hb'; rfl) hg (fun b' o' hb' hS => by cases hb'; exact absurd hS (h7 o')) ?_) ?_ (by rw [hkvs']; exact h))
    · have hst := C.stay hg (fun b' o' hb' hS => by cases hb'; exact absurd hS (h7 o'))
      exact ⟨b, es', clock, h1, heap_blockSet _ hbl, hs', fun j e kv h1 h2 => (he' j e kv h1 h2).mono (fun _ _ h => h) hst, hb', hi', h7⟩
    · exact .tup (vs := []) rfl (fun j c v hc => by simp at hc)
  have h0 : c.args[0]? = some m := by rw [← Array.getElem?_toList, hargs]; rfl
  have h0' : c.args[1]? = some k := by rw [← Array.getElem?_toList, hargs]; rfl
  have h0t : c.argTypes[0]? = some t := by rw [← Array.getElem?_toList, htys]; rfl
  have hrun0 : ∀ w', (Builtin.delete_ c.argTypes o.type (c.args.map a.eval)).run P w = .ok (.tuple #[]) w' → (execOp a.eval o).run P w = .ok (.value (.tuple #[])) w' := by
    intro w' h
    simp [execOp, ho, resolve, hcal, invoke, builtin, h]
  rcases find_spec (w := w) (S := S) (ev := ev') hdesc key es.toList kvs 0 (by rw [Array.length_toList, h3]) (fun j e kv he hkv => h4 j e kv (by rw [← Array.getElem?_toList]; exact he) hkv) with ⟨_, g2, _, g4⟩ | ⟨j, e, kv', g1, g2, g3, _, g5, _, g7⟩
  · refine fin es kvs g4.symm h3 h4 h5 h6 ?_
    exact hrun0 _ (by simp only [Builtin.delete_, Array.getElem?_map, h0, h0', h0t, Option.map_some, em, ek, Sem.run_bind, run_underlying hd, Result.andThen_ok, getObj_map h2, run_checkKey hdk hdesc, run_findKey hdk g2, setObj_map _ h2]; rfl)
  · have hj : j < es.size := by have := (List.getElem?_eq_some_iff.1 g1).1; simpa using this
    rw [Nat.zero_add] at g5
    have her : es.eraseIdxIfInBounds j = es.eraseIdx j hj := by simp [Array.eraseIdxIfInBounds, hj]
    have hget : ∀ (i : Nat), (es.eraseIdxIfInBounds j)[i]? = if i < j then es[i]? else es[i + 1]? := by
      intro i
      rw [her, Array.getElem?_eraseIdx]
    have horig : ∀ (i : Nat) (q : MapEntry), (es.eraseIdxIfInBounds j)[i]? = some q → ∃ i', es[i']? = some q ∧ (i' = if i < j then i else i + 1) := by
      intro i q hq
      rw [hget] at hq
      split at hq
      · rename_i hij; exact ⟨i, hq, by rw [if_pos hij]⟩
      · rename_i hij; exact ⟨i + 1, hq, by rw [if_neg hij]⟩
    refine fin (es.eraseIdxIfInBounds j) (kvs.eraseIdx j) g7.symm ?_ ?_ ?_ ?_ ?_
    · rw [her, Array.size_eraseIdx, List.length_eraseIdx, if_pos (by omega), h3]
    · intro i q kv hq hkv
      rw [hget] at hq
      rw [List.getElem?_eraseIdx] at hkv
      split at hq
      · rename_i hij; rw [if_pos hij] at hkv; exact h4 i q kv hq hkv
      · rename_i hij; rw [if_neg hij] at hkv; exact h4 _ q kv hq hkv
    · intro q hq
      obtain ⟨i, hi⟩ := Array.getElem?_of_mem hq
      obtain ⟨i', hi', _⟩ := horig i q hi
      exact h5 q (Array.mem_of_getElem? hi')
    · intro i k q q' hi hk' hb'
      obtain ⟨i1, e1, f1⟩ := horig i q hi
      obtain ⟨i2, e2, f2⟩ := horig k q' hk'
      have := h6 i1 i2 q q' e1 e2 hb'
      subst this
      rw [f1] at f2
      split at f2 <;> split at f2 <;> omega
    · exact hrun0 _ (by simp only [Builtin.delete_, Array.getElem?_map, h0, h0', h0t, Option.map_some, em, ek, Sem.run_bind, run_underlying hd, Result.andThen_ok, getObj_map h2, run_checkKey hdk hdesc, run_findKey hdk g5, setObj_map _ h2]; rfl)

omit C hn in
theorem entV_sound {i : TI} {cs : List AV} {M : AV → Prop} (h : entV i cs M) {v : Value} (hagg : isAggK i.kind = true → ∃ vs, v = .agg vs ∧ AllR s H.length w S cs vs.toList) (hone : isAggK i.kind = false → ∀ c, cs = [c] → VR s H.length w S c v) :
    ∃ x, VR s H.length w S x v ∧ M x := by
  unfold entV at h
  split at h
  · rename_i e
    obtain ⟨_, h⟩ := chk_inv h
    obtain ⟨vs, rfl, hr⟩ := hagg e
    exact ⟨_, by have := VR.agg hr.1 hr.2; simpa using this, h⟩
  · rename_i e
    split at h
    · rename_i c
      exact ⟨c, hone e c rfl, h⟩
    · exact h.elim

omit hn in
theorem den_lookup (hn : ThenS w s S H K fun v w' => next (a.put o.dst v) w') (hT : TabOk P T) {t : TypeId} {m k : Operand} {ok : Bool} (ho : o.op = .lookup t m k ok) (h : den P T (.lookup t m k ok) (ev E) H K) : Val P o a w fun v w' => next (a.put o.dst v) w' := by
  simp only [den, hlen_eq, hset_eq] at h
  split at h
  case h_2 => exact h.elim
  rename_i ti hti
  split at h
  case h_2 => exact h.elim
  rename_i k' e' hk
  obtain ⟨_, ⟨d, hd, hf⟩, _⟩ := hT t ti hti
  rw [hk] at hf
  have hf' : d = .map k' e' := hf
  subst hf'
  split at h
  case h_2 => exact h.elim
  rename_i tk te htk hte
  obtain ⟨_, ⟨dk, hdk, hfk⟩, _⟩ := hT k' tk htk
  obtain ⟨_, _, inf, z, hinf, hsz, hby, hz, hzc, hz1, hzs, hzo⟩ := hT e' te hte
  split at h
  case h_2 => exact h.elim
  rename_i kk id kv hkk hm hkv
  split at h
  case h_2 => exact h.elim
  rename_i kk' ν ev' kvs hb
  split at h
  case h_2 => exact h.elim
  rename_i key hkey
  obtain ⟨hck, hsome, hnone⟩ := chk_inv h
  simp only [Bool.and_eq_true] at hck
  obtain ⟨hsk, hsz1⟩ := hck
  obtain rfl := sameK_eq hsk
  have hdesc := keyK_desc hkk hfk
  obtain ⟨b, es, clock, h1, h2, h3, h4, h5, h6, h7⟩ := C.objs id _ hb
  have em : a.eval m = .map (some b) := by
    have hr := C.ev hm
    generalize a.eval m = q at hr
    cases hr with
    | map hlt he => rw [h1] at he; cases he; rfl
  have ek := (C.ev hkv).lit_inv
  rw [KK.of_val hkey] at ek
  have fin : ∀ (v : Value) (x : AV) (r : Bool), VR s H.length w S x v → K (okV ok x r) H → (Instr.lookup t (.map (some b)) (kk.val key) ok).run P w = .ok (if ok then .tuple #[v, .bool r] else v) w → Val P o a w fun v w' => next (a.put o.dst v) w' := by
    intro v x r hv hK hrun
    refine val_of (v := if ok then .tuple #[v, .bool r] else v) (w' := w) (by simp [execOp, ho, em, ek, hrun]) (hn (okV ok x r) _ ?_ hK)
    cases ok with
    | false => exact hv
    | true =>
      refine .tup (cs := [x, .pv (.lit (.bool r))]) (vs := [v, .bool r]) rfl fun j c u hc hu => ?_
      match j with
      | 0 => simp at hc hu; subst hc; subst hu; exact hv
      | 1 => simp at hc hu; subst hc; subst hu; exact .pv (.lit _ rfl)
      | j + 2 => simp at hc
  rcases find_spec (w := w) (S := S) (ev := ev') hdesc key es.toList kvs 0 (by rw [Array.length_toList, h3]) (fun j e kv he hkv => h4 j e kv (by rw [← Array.getElem?_toList]; exact he) hkv) with ⟨g1, g2, _, _⟩ | ⟨j, e, kv', g1, g2, g3, g4, g5, _, _⟩
  · have hzr : AllR s H.length w S te.zero z.cells.toList := by rw [← hzc]; exact AllR.const hz1
    obtain ⟨x, hx, hK⟩ := entV_sound (s := s) (w := w) (S := S) (H := H) (hnone g1) (v := z) (fun e => by
      rw [e] at hzo
      cases z <;> first | (simp [Value.oneCell'] at hzo; done) | exact ⟨_, rfl, hzr⟩ | skip
      all_goals (exfalso; simp [e, hzs.symm, Value.cells] at hsz1)) (fun e c hc => by
      rw [e] at hzo
      have := one_cells (v := z) (by simpa using hzo)
      rw [this, hc] at hzr
      exact (hzr.at_ (j := 0) rfl).elim fun u hu => by have := hu.1; simp at this; rw [this]; exact hu.2)
    refine fin z x false hx hK ?_
    simp only [Instr.lookup, Sem.run_bind, run_underlying hd, Result.andThen_ok, getObj_map h2, Sem.run_pure, run_checkKey hdk hdesc, run_findKey hdk g2, zeroValue, typeInfo, run_program, hinf, hz]
  · have he : es[j]? = some e := by rw [← Array.getElem?_toList]; exact g1
    rw [Nat.zero_add] at g5
    obtain ⟨hke, vs, hvl, hval, hrep⟩ := h4 j e kv' he g2
    have hall : AllR s H.length w S ((ev' kv'.2).map AV.pv) vs := ⟨by rw [hvl, List.length_map], fun i c v hc hv => by
      rw [List.getElem?_map] at hc
      cases hp : (ev' kv'.2)[i]? with
      | none => rw [hp] at hc; cases hc
      | some p =>
        rw [hp] at hc
        cases hc
        obtain ⟨u, hu, hr⟩ := hrep i p hp
        rw [hu] at hv
        cases hv
        exact .pv hr⟩
    have hent := hsome kv'.2 g4
    obtain ⟨x, hx, hK⟩ := entV_sound (s := s) (w := w) (S := S) (H := H) hent (v := e.val) (fun e1 => by
      rcases hval with ⟨h, _⟩ | h
      · exact ⟨_, h, by simpa using hall⟩
      · exfalso
        unfold entV at hent
        rw [e1] at hent
        have hlen := isLen_eq (chk_inv hent).1
        rw [List.length_map, ← hvl, h] at hlen
        rw [e1, ← hlen] at hsz1
        simp at hsz1) (fun e1 c hc => by
      rw [hc] at hall
      have hl1 : vs.length = 1 := hall.1
      rcases hval with ⟨_, h⟩ | h
      · exact absurd hl1 h
      · rw [h] at hall
        exact (hall.at_ (j := 0) rfl).elim fun u hu => by have := hu.1; simp at this; rw [this]; exact hu.2)
    refine fin e.val x true hx hK ?_
    simp only [Instr.lookup, Sem.run_bind, run_underlying hd, Result.andThen_ok, getObj_map h2, Sem.run_pure, run_checkKey hdk hdesc, run_findKey hdk g5]

end
end Go.Vx

namespace Go.Vx
open Go.RowKit (Below)

theorem run_sliceBound_in {P : Program} {w : World} {k : IntKind} {i : Int} {y : Nat} {code : BoundsCode} (h0 : 0 ≤ i) (h1 : i ≤ (y : Int)) : (Instr.sliceBound (.int k i) y code).run P w = .ok i.toNat w := by
  simp [Instr.sliceBound, asIntOf, h0, h1]

section
variable {P : Program} {T : Tab} {o : Oper} {a : Act} {w : World} {next : Act → World → Prop} {Q : Exit → Act → World → Prop}
variable {w0 : World} {F : Nat → Prop} {S0 S : Cells} {s : Nat → Value} {E : Env} {H : Heap} {K : AV → Heap → Prop}
variable (C : Conc w0 F S0 s S E H a.tmps w) (hn : Then w0 F S0 E a.tmps K fun v w' => next (a.put o.dst v) w')
include C

theorem optInt_sound {x : Option Operand} {dd n : Int} (h : optInt (ev E) x dd = some n) : (x = none ∧ n = dd) ∨ ∃ k y, x = some y ∧ a.eval y = .int k n := by
  unfold optInt at h
  split at h
  · cases h; exact .inl ⟨rfl, rfl⟩
  · rename_i y
    split at h
    · rename_i k m hm
      cases h
      exact .inr ⟨k, y, rfl, (C.ev hm).lit_inv⟩
    · cases h

theorem run_bounds {isS : Bool} {n cap : Nat} (hle : n ≤ cap) {lo hi : Option Operand} {l h : Int} (hlo : optInt (ev E) lo 0 = some l) (hhi : optInt (ev E) hi n = some h) (h0 : 0 ≤ l) (h1 : l ≤ h) (h2 : h ≤ (n : Int)) :
    (Instr.sliceBounds isS n cap (lo.map a.eval) (hi.map a.eval) none).run P w = .ok (l.toNat, h.toNat, cap) w := by
  rcases optInt_sound C hlo with ⟨rfl, rfl⟩ | ⟨k, y, rfl, ey⟩ <;> rcases optInt_sound C hhi with ⟨rfl, rfl⟩ | ⟨k', y', rfl, ey'⟩
  · simp [Instr.sliceBounds]
  · have e := run_sliceBound_in (P := P) (w := w) (k := k') (code := if isS then .sliceAcap else .sliceAlen) (show 0 ≤ h by omega) (show h ≤ (cap : Int) by omega)
    simp only [Instr.sliceBounds, Option.map_some, Option.map_none, ey', Sem.run_bind, e, Result.andThen_ok, Sem.run_pure]
    simp
  · have e := run_sliceBound_in (P := P) (w := w) (k := k) (code := .sliceB) h0 h1
    simp [Instr.sliceBounds, ey, e]
  · have e := run_sliceBound_in (P := P) (w := w) (k := k') (code := if isS then .sliceAcap else .sliceAlen) (show 0 ≤ h by omega) (show h ≤ (cap : Int) by omega)
    have e2 := run_sliceBound_in (P := P) (w := w) (k := k) (y := h.toNat) (code := .sliceB) h0 (by omega)
    simp only [Instr.sliceBounds, Option.map_some, ey, ey', Sem.run_bind, e, Result.andThen_ok, Sem.run_pure, Option.isSome_none]
    simp [e2]

include hn

omit hn in
theorem den_slice (hn : ThenS w s S H K fun v w' => next (a.put o.dst v) w') (hT : TabOk P T) {t : TypeId} {x : Operand} {lo hi mx : Option Operand} (ho : o.op = .slice t x lo hi mx) (h : den P T (.slice t x lo hi mx) (ev E) H K) : Val P o a w fun v w' => next (a.put o.dst v) w' := by
  cases mx with
  | some m => simp only [den, hlen_eq, hset_eq] at h
  | none =>
  simp only [den, hlen_eq, hset_eq] at h
  split at h
  case h_2 => exact h.elim
  rename_i ti hti
  obtain ⟨_, ⟨d, hd, hf⟩, _⟩ := hT t ti hti
  split at h
  · rename_i hk
    rw [hk] at hf
    have hf' : d = .string := hf
    subst hf'
    split at h
    case h_2 => exact h.elim
    rename_i b hx
    split at h
    case h_2 => exact h.elim
    rename_i l m hlo hhi
    obtain ⟨h0, h1, h2, h⟩ := h
    have ex := (C.ev hx).lit_inv
    have hb := run_bounds (P := P) C (isS := false) (n := b.size) (cap := b.size) (Nat.le_refl _) hlo hhi h0 h1 h2
    refine val_of (v := .string (b.extract l.toNat m.toNat)) (w' := w) ?_ (hn _ _ (.pv (.lit _ rfl)) h)
    simp [execOp, ho, ex, Instr.sliceAt, Instr.slice, run_underlying hd, hb]
  · rename_i e hk
    rw [hk] at hf
    have hf' : d = .slice e := hf
    subst hf'
    split at h
    case h_2 => exact h.elim
    rename_i te hte
    obtain ⟨_, _, inf, z, hinf, hsz, _⟩ := hT e te hte
    split at h
    case h_3 => exact h.elim
    · rename_i sz α enc dd xs hx
      split at h
      case h_2 => exact h.elim
      rename_i l m hlo hhi
      obtain ⟨hzz, h0, h1, h2, h⟩ := chk_inv h
      obtain rfl := Nat.eq_of_beq_eq_true hzz
      have hr := C.ev hx
      generalize hq : a.eval x = q at hr
      cases hr with
      | pv hp =>
        cases hp with
        | sl A n c _ _ _ _ _ u b off hnn hc hz hA hu hrr =>
          subst hnn
          have hb := run_bounds (P := P) C (isS := true) (n := xs.length) (cap := c) hc hlo hhi h0 h1 h2
          have hlen : ((xs.take m.toNat).drop l.toNat).length = m.toNat - l.toNat := by rw [List.length_drop, List.length_take]; omega
          have hgd : ∀ i, i < m.toNat - l.toNat → ((xs.take m.toNat).drop l.toNat).getD i dd = xs.getD (l.toNat + i) dd := by
            intro i hi
            simp only [List.getD_eq_getElem?_getD, List.getElem?_drop, List.getElem?_take]
            rw [if_pos (by omega)]
          have hrep : ∀ A' : Option Addr, (0 < m.toNat - l.toNat → A' = some ⟨b, off + l.toNat * te.size, none⟩) → Rep w S (.slice A' (m.toNat - l.toNat) (c - l.toNat)) (.sl te.size α enc dd ((xs.take m.toNat).drop l.toNat)) := by
            intro A' hA'
            refine .sl A' _ _ te.size α enc dd _ (fun i j => u (l.toNat + i) j) b (off + l.toNat * te.size) hlen.symm (by omega) (fun i hi => ?_) hA' (fun i j hi hj => ?_) (fun i j p hi hp => ?_)
            · rw [hgd i hi]; exact hz _ (by omega)
            · have := hu (l.toNat + i) j (by omega) hj
              rw [Nat.add_mul] at this
              rw [show off + l.toNat * te.size + i * te.size + j = off + (l.toNat * te.size + i * te.size) + j by omega]
              exact this
            · rw [hgd i hi] at hp
              exact hrr (l.toNat + i) j p (by omega) hp
          refine val_of (v := .slice (if c = l.toNat then A else A.map (·.add (l.toNat * inf.size))) (m.toNat - l.toNat) (c - l.toNat)) (w' := w) ?_ (hn _ _ (.pv (hrep _ ?_)) h)
          · simp [execOp, ho, hq, Instr.sliceAt, Instr.slice, run_underlying hd, hb, sizeOf, typeInfo, hinf]
          · intro hlt
            have hA' := hA (by omega)
            rw [if_neg (by omega), hA', Option.map_some, add_at, hsz]
    · rename_i id hx
      split at h
      case h_2 => exact h.elim
      rename_i ro e' sz α enc dd xs hb
      split at h
      case h_2 => exact h.elim
      rename_i l m hlo hhi
      obtain ⟨hzz, h0, h1, h2, h⟩ := chk_inv h
      obtain rfl := Nat.eq_of_beq_eq_true hzz
      have hr := C.ev hx
      have hid : id < H.length := (List.getElem?_eq_some_iff.1 hb).1
      obtain ⟨cs, ho1, _, _, _, _⟩ := C.objs id _ hb
      generalize hq : a.eval x = q at hr
      cases hr with
      | @own _ A n c hlt he =>
        rw [he] at ho1
        have key : n = xs.length ∧ n ≤ c ∧ (0 < n → ∃ g, A = some ⟨g, 0, none⟩) := by
          rcases ho1.2 with ⟨e1, e2⟩ | ⟨g, cap, cur, e1, _, _, hcap, _⟩
          · cases e1; exact ⟨e2.symm, Nat.le_refl _, fun h => absurd h (Nat.lt_irrefl _)⟩
          · cases e1; exact ⟨rfl, hcap, fun _ => ⟨g, rfl⟩⟩
        obtain ⟨rfl, hc, hA⟩ := key
        have hb := run_bounds (P := P) C (isS := true) (n := xs.length) (cap := c) hc hlo hhi h0 h1 h2
        refine val_of (v := .slice (if c = l.toNat then A else A.map (·.add (l.toNat * inf.size))) (m.toNat - l.toNat) (c - l.toNat)) (w' := w) ?_ (hn _ _ (.sub hid (by omega) fun hlen => ?_) h)
        · simp [execOp, ho, hq, Instr.sliceAt, Instr.slice, run_underlying hd, hb, sizeOf, typeInfo, hinf]
        · obtain ⟨g, rfl⟩ := hA (by omega)
          refine ⟨g, xs.length, c, he, by omega, ?_⟩
          rw [if_neg (by omega), Option.map_some, add_at, hsz, Nat.zero_add]
  · exact h.elim

end
end Go.Vx

