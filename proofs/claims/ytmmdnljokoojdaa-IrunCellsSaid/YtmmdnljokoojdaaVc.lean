/- Code, loops, regions that draw their order, contracts of functions. No condition: these are lemmas for the laws. -/
import Derived.Test.YtmmdnljokoojdaaVb
import Derived.Scope
import Derived.Still
import Derived.StillTail
import Derived.Orders
set_option linter.unusedVariables false
set_option linter.unusedSimpArgs false
namespace Go.Vx
open Go.RowKit (Below)

section
variable {P : Program} {T : Tab} {o : Oper} {a : Act} {w : World} {next : Act → World → Prop} {Q : Exit → Act → World → Prop}
variable {w0 : World} {F : Nat → Prop} {S0 S : Cells} {s : Nat → Value} {E : Env} {H : Heap} {K : AV → Heap → Prop}

theorem den_sound (hT : TabOk P T) (C : Conc w0 F S0 s S E H a.tmps w) (h : den P T o.op (ev E) H K) (hn : Then w0 F S0 E a.tmps K fun v w' => next (a.put o.dst v) w') : o.wp P a w next Q := by
  cases ho : o.op <;> rw [ho] at h <;> first
    | exact (den_move C (hn.still C) (.inl ho) h).wp
    | exact (den_pick C (hn.still C) ho h).wp
    | exact den_alloc C hn hT ho h
    | exact den_box C hn ho h
    | exact (den_build C (hn.still C) hT ho h).wp
    | exact (den_binOp C (hn.still C) hT ho h).wp
    | exact (den_unOp C (hn.still C) ho h).wp
    | exact (den_convert C (hn.still C) hT ho h).wp
    | exact (den_fieldAddr C (hn.still C) hT ho h).wp
    | exact (den_field C (hn.still C) hT ho h).wp
    | exact (den_load C (hn.still C) hT ho h).wp
    | exact den_store C hn hT ho h
    | exact (den_indexAddr C (hn.still C) hT ho h).wp
    | exact (den_index C (hn.still C) hT ho h).wp
    | exact (den_extract C (hn.still C) ho h).wp
    | exact (den_nilCheck C (hn.still C) ho h).wp
    | exact den_buildSlice C hn hT ho h
    | exact den_makeSlice C hn hT ho h
    | exact (den_slice C (hn.still C) hT ho h).wp
    | exact den_makeMap C hn hT ho h
    | exact den_mapUpdate C hn hT (.inl ho) h
    | exact den_mapUpdate C hn hT (.inr ho) h
    | exact (den_lookup C (hn.still C) hT ho h).wp
    | exact h.elim
    | skip
  case assign x => exact (den_move (T := T) (x := x) C (hn.still C) (.inr ho) h).wp
  case call c =>
  cases hc : c.callee with
  | value g => exact den_call C hn ho hc h
  | invoke r m => simp only [den, hlen_eq, hset_eq, hc] at h
  | builtin b =>
    cases b <;> first
      | exact (den_len C (hn.still C) hT ho hc h).wp
      | exact den_append C hn hT ho hc h
      | exact den_copy C hn hT ho hc h
      | exact den_delete C hn hT ho hc h
      | (simp only [den, hlen_eq, hset_eq, hc] at h; done)
end

/-- Operations one behind the other; 'all': the region's own, for guards. -/
def awpOp (P : Program) (T : Tab) (all : Array Oper) (o : Oper) (next : Env → Heap → (Env → Heap → Prop) → Prop) (E : Env) (H : Heap) (K : Env → Heap → Prop) : Prop :=
  match o.guard with
  | none => den P T o.op (ev E) H fun v H' => next (setD o.dst v E) H' K
  | some (j, want) =>
    match (all[j]?).bind (·.dst) with
    | some d =>
      match E.get d with
      | some (.pv (.lit (.bool t))) =>
        (t = want → den P T o.op (ev ((d, lb want) :: E)) H fun v H' => next (setD o.dst v ((d, lb want) :: E)) H' K) ∧
        (t = !want → next (setD o.dst (.tup []) ((d, lb (!want)) :: E)) H K)
      | some (.tup []) => next (setD o.dst (.tup []) E) H K
      | _ => False
    | none => False
/-- By the recursor itself: Lean's elaborator and its kernel then unfold it alike. -/
noncomputable def awpOps (P : Program) (T : Tab) (all : Array Oper) (l : List Oper) : Env → Heap → (Env → Heap → Prop) → Prop :=
  List.rec (motive := fun _ => Env → Heap → (Env → Heap → Prop) → Prop) (fun E H K => K E H) (fun o _ ih => awpOp P T all o ih) l
theorem awpOps_nil {P : Program} {T : Tab} {all : Array Oper} {E : Env} {H : Heap} {K : Env → Heap → Prop} : awpOps P T all [] E H K = K E H := rfl
theorem awpOps_cons {P : Program} {T : Tab} {all : Array Oper} {dst : Option Nat} {op : Op} {type : TypeId} {pos : String} {after : Array Edge} {guard : Option (Nat × Bool)} {rest : List Oper} {E : Env} {H : Heap} {K : Env → Heap → Prop} : awpOps P T all (⟨dst, op, type, pos, after, guard⟩ :: rest) E H K =
    match guard with
    | none => den P T op (ev E) H fun v H' => awpOps P T all rest (setD dst v E) H' K
    | some (j, want) =>
      match (all[j]?).bind (·.dst) with
      | some d =>
        match E.get d with
        | some (.pv (.lit (.bool t))) =>
          (t = want → den P T op (ev ((d, lb want) :: E)) H fun v H' => awpOps P T all rest (setD dst v ((d, lb want) :: E)) H' K) ∧
          (t = !want → awpOps P T all rest (setD dst (.tup []) ((d, lb (!want)) :: E)) H K)
        | some (.tup []) => awpOps P T all rest (setD dst (.tup []) E) H K
        | _ => False
      | none => False := rfl

/-- The state, under a post. -/
def Lift (w0 : World) (F : Nat → Prop) (S0 : Cells) (N : Nat) (Q : Exit → Env → Heap → Prop) : Exit → Act → World → Prop := fun e a w =>
  a.defers = [] ∧ a.tmps.size = N ∧ ∃ E H s S, Conc w0 F S0 s S E H a.tmps w ∧ Q e E H

def dstOk (N : Nat) (o : Oper) : Bool :=
  match o.dst with
  | some d => decide (d < N)
  | none => true

theorem Conc.lb {w0 w : World} {F : Nat → Prop} {S0 S : Cells} {s : Nat → Value} {E : Env} {H : Heap} {tm : Array Value} (C : Conc w0 F S0 s S E H tm w) {d : Nat} {t : Bool} (h : E.get d = some (.pv (.lit (.bool t)))) :
    tm[d]? = some (.bool t) ∧ Conc w0 F S0 s S ((d, Vx.lb t) :: E) H tm w := by
  obtain ⟨v, hv, hr⟩ := C.slots d _ h
  have e := hr.lit_inv
  subst e
  refine ⟨hv, ⟨?_, C.objs, C.apart, C.mine, C.lt, C.sub, C.new, C.keep, C.imm, C.grow, C.os, C.tape, C.output⟩⟩
  intro u b hb
  simp only [Env.get] at hb
  split at hb
  · rename_i e; subst e; cases hb; exact ⟨_, hv, .pv (.lit _ rfl)⟩
  · exact C.slots u b hb

theorem awpOps_sound {P : Program} {T : Tab} (hT : TabOk P T) {w0 : World} {F : Nat → Prop} {S0 : Cells} {N : Nat} {all : Array Oper} {Qa : Exit → Env → Heap → Prop} :
    ∀ (l : List Oper) {E : Env} {H : Heap} {a : Act} {w : World} {s : Nat → Value} {S : Cells}, l.all (dstOk N) = true → Conc w0 F S0 s S E H a.tmps w → a.defers = [] → a.tmps.size = N →
      awpOps P T all l E H (Qa .normal) → wpList P all (Lift w0 F S0 N Qa) l a w
  | [], E, H, a, w, s, S, _, C, hd, hN, h => ⟨hd, hN, E, H, s, S, C, h⟩
  | o :: rest, E, H, a, w, s, S, hall, C, hd, hN, h => by
    obtain ⟨dst, op, type, pos, after, guard⟩ := o
    rw [List.all_cons, Bool.and_eq_true] at hall
    have hdst : ∀ t, dst = some t → t < a.tmps.size := by
      intro t ht
      subst ht
      have hlt : t < N := of_decide_eq_true hall.1
      rw [hN]
      exact hlt
    have go : ∀ {E : Env}, Conc w0 F S0 s S E H a.tmps w → den P T op (ev E) H (fun v H' => awpOps P T all rest (setD dst v E) H' (Qa .normal)) →
        (⟨dst, op, type, pos, after, guard⟩ : Oper).wp P a w (wpList P all (Lift w0 F S0 N Qa) rest) (Lift w0 F S0 N Qa) := by
      intro E C h
      refine den_sound (o := ⟨dst, op, type, pos, after, guard⟩) hT C h ?_
      intro x H' v w' s' S' C' hv hk
      exact awpOps_sound hT rest hall.2 (C'.putD hdst hv) (by rw [put_defers]; exact hd) (by rw [put_size]; exact hN) hk
    have skip : ∀ {E : Env}, Conc w0 F S0 s S E H a.tmps w → awpOps P T all rest (setD dst (.tup []) E) H (Qa .normal) → wpList P all (Lift w0 F S0 N Qa) rest (a.put dst undef) w := by
      intro E C h
      exact awpOps_sound hT rest hall.2 (C.putD hdst (.tup (vs := []) rfl (fun j c v hc => by simp at hc))) (by rw [put_defers]; exact hd) (by rw [put_size]; exact hN) h
    unfold wpList
    cases guard with
    | none =>
      simp only [awpOps_cons] at h
      rw [if_pos (by simp [Region.wanted])]
      exact .inl (go C h)
    | some g =>
      obtain ⟨j, want⟩ := g
      simp only [awpOps_cons] at h
      split at h
      case h_2 => exact h.elim
      rename_i d hjd
      split at h
      · rename_i t ht
        obtain ⟨hv, C'⟩ := C.lb ht
        have hy : yielded all a.tmps j = some t := by simp [yielded, hjd, hv]
        by_cases htw : t = want
        · subst htw
          rw [if_pos (by simp [Region.wanted, hy])]
          exact .inl (go C' (h.1 rfl))
        · have htn : t = !want := by cases t <;> cases want <;> simp_all
          rw [if_neg (by simp [Region.wanted, hy, htw])]
          subst htn
          exact skip C' (h.2 rfl)
      · rename_i ht
        obtain ⟨v, hv, hr⟩ := C.slots d _ ht
        have hy : yielded all a.tmps j = none := by
          cases hr
          simp [yielded, hjd, hv]
        rw [if_neg (by simp [Region.wanted, hy])]
        exact skip C h
      · exact h.elim

/-- What is asked of a loop: of whatever state stands for this one. -/
structure LoopSem (P : Program) (N : Nat) (c : Code) (E : Env) (H : Heap) (Q : Exit → Env → Heap → Prop) : Prop where
  out : ∀ (w0 : World) (F : Nat → Prop) (S0 : Cells) (s : Nat → Value) (S : Cells) (a : Act) (w : World), Conc w0 F S0 s S E H a.tmps w → a.defers = [] → a.tmps.size = N → (Code.loop c).wp P (Lift w0 F S0 N Q) a w
structure DrawSem (P : Program) (N : Nat) (id : Nat) (ops : Array Oper) (E : Env) (H : Heap) (Q : Exit → Env → Heap → Prop) : Prop where
  out : ∀ (w0 : World) (F : Nat → Prop) (S0 : Cells) (s : Nat → Value) (S : Cells) (a : Act) (w : World), Conc w0 F S0 s S E H a.tmps w → a.defers = [] → a.tmps.size = N → (Code.region id ops true).wp P (Lift w0 F S0 N Q) a w

def awpCond (v : Option AV) (A B : Prop) : Prop :=
  match v with
  | some (.pv (.lit (.bool t))) => (t = true → A) ∧ (t = false → B)
  | _ => False
def seqQ (K : Env → Heap → Prop) (Q : Exit → Env → Heap → Prop) : Exit → Env → Heap → Prop := fun e E' H' => match e with
  | .normal => K E' H'
  | e => Q e E' H'
def blockQ (id : Nat) (Q : Exit → Env → Heap → Prop) : Exit → Env → Heap → Prop := fun e E' H' => match e with
  | .exit id' => if id' = id then Q .normal E' H' else Q (.exit id') E' H'
  | e => Q e E' H'
def scopeQ (Q : Exit → Env → Heap → Prop) : Exit → Env → Heap → Prop := fun e E' H' => match e with
  | .goto _ => False
  | e => Q e E' H'
def regionQ (P : Program) (T : Tab) (N : Nat) (id : Nat) (ops : Array Oper) (draw : Bool) (E : Env) (H : Heap) (Q : Exit → Env → Heap → Prop) : Prop :=
  match draw with
  | false => awpOps P T ops ops.toList E H (Q .normal)
  | true => DrawSem P N id ops E H Q
noncomputable def awp (P : Program) (T : Tab) (N : Nat) (c : Code) : Env → Heap → (Exit → Env → Heap → Prop) → Prop :=
  Code.rec (motive := fun _ => Env → Heap → (Exit → Env → Heap → Prop) → Prop)
    (skip := fun E H Q => Q .normal E H)
    (region := fun id ops draw E H Q => regionQ P T N id ops draw E H Q)
    (seq := fun _ _ iha ihb E H Q => iha E H (seqQ (fun E' H' => ihb E' H' Q) Q))
    (cond := fun c _ _ iha ihb E H Q => awpCond (ev E c) (iha E H Q) (ihb E H Q))
    (block := fun id _ ih E H Q => ih E H (blockQ id Q))
    (loop := fun c _ E H Q => LoopSem P N c E H Q)
    (rangeFunc := fun _ _ _ _ _ _ _ _ _ => False)
    (exit := fun id E H Q => Q (.exit id) E H)
    (scope := fun _ ih E H Q => ih E H (scopeQ Q))
    (label := fun _ E H Q => Q .normal E H)
    (goto := fun _ _ _ _ => False)
    (ret := fun E H Q => Q .ret E H)
    (refuse := fun _ _ _ _ => False) c

section
variable {P : Program} {T : Tab} {N : Nat} {E : Env} {H : Heap} {Q : Exit → Env → Heap → Prop}
theorem awp_seq {a b : Code} : awp P T N (.seq a b) E H Q = awp P T N a E H (fun e E' H' => match e with
    | .normal => awp P T N b E' H' Q
    | e => Q e E' H') := rfl
theorem awp_cond {c : Operand} {a b : Code} : awp P T N (.cond c a b) E H Q = match ev E c with
    | some (.pv (.lit (.bool t))) => (t = true → awp P T N a E H Q) ∧ (t = false → awp P T N b E H Q)
    | _ => False := rfl
theorem awp_block {id : Nat} {c : Code} : awp P T N (.block id c) E H Q = awp P T N c E H (fun e E' H' => match e with
    | .exit id' => if id' = id then Q .normal E' H' else Q (.exit id') E' H'
    | e => Q e E' H') := rfl
end

/-- All slots that code writes are there. -/
def codeOk (N : Nat) : Code → Bool
  | .seq a b => codeOk N a && codeOk N b
  | .cond _ a b => codeOk N a && codeOk N b
  | .block _ c => codeOk N c
  | .loop c => codeOk N c
  | .scope c => codeOk N c
  | .region _ ops _ => ops.toList.all (dstOk N)
  | _ => true

theorem awp_sound {P : Program} {T : Tab} (hT : TabOk P T) {w0 : World} {F : Nat → Prop} {S0 : Cells} {N : Nat} : ∀ (c : Code) {Qa : Exit → Env → Heap → Prop} {E : Env} {H : Heap} {a : Act} {w : World} {s : Nat → Value} {S : Cells},
    codeOk N c = true → Conc w0 F S0 s S E H a.tmps w → a.defers = [] → a.tmps.size = N → awp P T N c E H Qa → c.wp P (Lift w0 F S0 N Qa) a w
  | .skip, Qa, E, H, a, w, s, S, _, C, hd, hN, h => wp_skip ⟨hd, hN, E, H, s, S, C, h⟩
  | .label _, Qa, E, H, a, w, s, S, _, C, hd, hN, h => wp_label ⟨hd, hN, E, H, s, S, C, h⟩
  | .exit _, Qa, E, H, a, w, s, S, _, C, hd, hN, h => wp_exit ⟨hd, hN, E, H, s, S, C, h⟩
  | .ret, Qa, E, H, a, w, s, S, _, C, hd, hN, h => wp_ret ⟨hd, hN, E, H, s, S, C, h⟩
  | .seq x y, Qa, E, H, a, w, s, S, hc, C, hd, hN, h => by
    simp only [codeOk, Bool.and_eq_true] at hc
    rw [awp_seq] at h
    refine wp_seq (wp_mono (awp_sound hT x hc.1 C hd hN h) ?_)
    rintro e a' w' ⟨hd', hN', E', H', s', S', C', hq⟩
    cases e with
    | normal => exact awp_sound hT y hc.2 C' hd' hN' hq
    | _ => exact ⟨hd', hN', E', H', s', S', C', hq⟩
  | .cond c x y, Qa, E, H, a, w, s, S, hc, C, hd, hN, h => by
    simp only [codeOk, Bool.and_eq_true] at hc
    rw [awp_cond] at h
    split at h
    · rename_i t ht
      have e := (C.ev ht).lit_inv
      exact wp_cond_split e (fun ht => awp_sound hT x hc.1 C hd hN (h.1 ht)) (fun ht => awp_sound hT y hc.2 C hd hN (h.2 ht))
    · exact h.elim
  | .block id c, Qa, E, H, a, w, s, S, hc, C, hd, hN, h => by
    simp only [codeOk] at hc
    rw [awp_block] at h
    refine wp_block (wp_mono (awp_sound hT c hc C hd hN h) ?_)
    rintro e a' w' ⟨hd', hN', E', H', s', S', C', hq⟩
    cases e with
    | exit id' =>
      simp only [Exit.inBlock]
      simp only at hq
      split at hq
      · rename_i e; rw [if_pos e]; exact ⟨hd', hN', E', H', s', S', C', hq⟩
      · rename_i e; rw [if_neg e]; exact ⟨hd', hN', E', H', s', S', C', hq⟩
    | _ => exact ⟨hd', hN', E', H', s', S', C', hq⟩
  | .loop c, Qa, E, H, a, w, s, S, hc, C, hd, hN, h => h.out w0 F S0 s S a w C hd hN
  | .region id ops draw, Qa, E, H, a, w, s, S, hc, C, hd, hN, h => by
    cases draw with
    | false => exact wp_region_list (awpOps_sound hT ops.toList hc C hd hN h)
    | true => exact h.out w0 F S0 s S a w C hd hN
  | .rangeFunc .., Qa, E, H, a, w, s, S, hc, C, hd, hN, h => h.elim
  | .scope c, Qa, E, H, a, w, s, S, hc, C, hd, hN, h => by
    simp only [codeOk] at hc
    refine wp_scope_straight (wp_mono (awp_sound hT c hc C hd hN (h : awp P T N c E H (scopeQ Qa))) ?_)
    rintro e a' w' ⟨hd', hN', E', H', s', S', C', hq⟩
    cases e <;> first | exact hq.elim | exact ⟨hd', hN', E', H', s', S', C', hq⟩
  | .goto .., Qa, E, H, a, w, s, S, hc, C, hd, hN, h => h.elim
  | .refuse .., Qa, E, H, a, w, s, S, hc, C, hd, hN, h => h.elim

/-- What holds of code, from whatever state stands for this one. -/
structure Tri (P : Program) (N : Nat) (c : Code) (E : Env) (H : Heap) (Q : Exit → Env → Heap → Prop) : Prop where
  out : ∀ (w0 : World) (F : Nat → Prop) (S0 : Cells) (s : Nat → Value) (S : Cells) (a : Act) (w : World), Conc w0 F S0 s S E H a.tmps w → a.defers = [] → a.tmps.size = N → c.wp P (Lift w0 F S0 N Q) a w
theorem Tri.of {P : Program} {T : Tab} (hT : TabOk P T) {N : Nat} {c : Code} {E : Env} {H : Heap} {Q : Exit → Env → Heap → Prop} (hc : codeOk N c = true) (h : awp P T N c E H Q) : Tri P N c E H Q :=
  ⟨fun w0 F S0 s S a w C hd hN => awp_sound hT c hc C hd hN h⟩

/-- The first k parts of a row of code; what then stands is given to Mid. -/
noncomputable def awpTo (P : Program) (T : Tab) (N : Nat) (Mid : Env → Heap → Prop) (k : Nat) : Code → Env → Heap → (Exit → Env → Heap → Prop) → Prop :=
  Nat.rec (motive := fun _ => Code → Env → Heap → (Exit → Env → Heap → Prop) → Prop) (fun _ E H _ => Mid E H)
    (fun _ ih c E H Q => match c with
      | .seq a b => awp P T N a E H (seqQ (fun E' H' => ih b E' H' Q) Q)
      | _ => False) k
def restC : Nat → Code → Code
  | 0, c => c
  | k + 1, .seq _ b => restC k b
  | _ + 1, c => c

theorem awpTo_sound {P : Program} {T : Tab} (hT : TabOk P T) {w0 : World} {F : Nat → Prop} {S0 : Cells} {N : Nat} {Mid : Env → Heap → Prop} {Q : Exit → Env → Heap → Prop} : ∀ (k : Nat) (c : Code) {E : Env} {H : Heap} {a : Act} {w : World} {s : Nat → Value} {S : Cells},
    codeOk N c = true → Conc w0 F S0 s S E H a.tmps w → a.defers = [] → a.tmps.size = N → awpTo P T N Mid k c E H Q →
    (∀ (E' : Env) (H' : Heap) (a' : Act) (w' : World) (s' : Nat → Value) (S' : Cells), Conc w0 F S0 s' S' E' H' a'.tmps w' → a'.defers = [] → a'.tmps.size = N → Mid E' H' → (restC k c).wp P (Lift w0 F S0 N Q) a' w') → c.wp P (Lift w0 F S0 N Q) a w
  | 0, c, E, H, a, w, s, S, _, C, hd, hN, h, hM => hM E H a w s S C hd hN h
  | k + 1, .seq x y, E, H, a, w, s, S, hc, C, hd, hN, h, hM => by
    simp only [codeOk, Bool.and_eq_true] at hc
    refine wp_seq (wp_mono (awp_sound hT x hc.1 C hd hN h) ?_)
    rintro e a' w' ⟨hd', hN', E', H', s', S', C', hq⟩
    cases e with
    | normal => exact awpTo_sound hT k y hc.2 C' hd' hN' hq hM
    | _ => exact ⟨hd', hN', E', H', s', S', C', hq⟩
  | k + 1, .skip, E, H, a, w, s, S, _, C, hd, hN, h, hM => h.elim
  | k + 1, .label _, E, H, a, w, s, S, _, C, hd, hN, h, hM => h.elim
  | k + 1, .exit _, E, H, a, w, s, S, _, C, hd, hN, h, hM => h.elim
  | k + 1, .ret, E, H, a, w, s, S, _, C, hd, hN, h, hM => h.elim
  | k + 1, .cond .., E, H, a, w, s, S, _, C, hd, hN, h, hM => h.elim
  | k + 1, .block .., E, H, a, w, s, S, _, C, hd, hN, h, hM => h.elim
  | k + 1, .loop .., E, H, a, w, s, S, _, C, hd, hN, h, hM => h.elim
  | k + 1, .region .., E, H, a, w, s, S, _, C, hd, hN, h, hM => h.elim
  | k + 1, .rangeFunc .., E, H, a, w, s, S, _, C, hd, hN, h, hM => h.elim
  | k + 1, .scope .., E, H, a, w, s, S, _, C, hd, hN, h, hM => h.elim
  | k + 1, .goto .., E, H, a, w, s, S, _, C, hd, hN, h, hM => h.elim
  | k + 1, .refuse .., E, H, a, w, s, S, _, C, hd, hN, h, hM => h.elim

/-- A CUT: behind the first k parts the state is one of these; from there on once for all. -/
theorem cut_rule {P : Program} {T : Tab} (hT : TabOk P T) {N : Nat} {c : Code} (hc : codeOk N c = true) {E : Env} {H : Heap} {Q : Exit → Env → Heap → Prop} (k : Nat) {X : Type _} (φ : X → Prop) (EH : X → Env × Heap)
    (h : awpTo P T N (fun E' H' => ∃ x, φ x ∧ Sub E' H' (EH x).1 (EH x).2) k c E H Q) (hr : ∀ x, φ x → Tri P N (restC k c) (EH x).1 (EH x).2 Q) : Tri P N c E H Q := by
  constructor
  intro w0 F S0 s S a w C hd hN
  refine awpTo_sound hT k c hc C hd hN h ?_
  rintro E' H' a' w' s' S' C' hd' hN' ⟨x, hx, hsub⟩
  obtain ⟨s'', C''⟩ := C'.anew hsub
  exact (hr x hx).out _ _ _ _ _ _ _ C'' hd' hN'

end Go.Vx

namespace Go.Vx
open Go.RowKit (Below)

/-- Operations that turn nothing. -/
def stillOp : Op → Bool
  | .move _ | .assign _ | .pick .. | .build .. | .binOp .. | .unOp .. | .convert .. | .fieldAddr .. | .field .. | .load .. | .indexAddr .. | .index .. | .extract .. | .nilCheck .. | .lookup .. | .slice .. => true
  | .call c => match c.callee with
    | .builtin .len => true
    | _ => false
  | _ => false

theorem Val.still {P : Program} {o : Oper} {a : Act} {w : World} {K : Act → Prop} (h : Val P o a w fun v w' => w' = w ∧ K (a.put o.dst v)) : o.still P a w K := by
  obtain ⟨v, w', h1, h2, h3⟩ := h
  unfold Oper.still
  rw [h1]
  exact ⟨h2, h3⟩

section
variable {P : Program} {T : Tab} {o : Oper} {a : Act} {w : World}
variable {w0 : World} {F : Nat → Prop} {S0 S : Cells} {s : Nat → Value} {E : Env} {H : Heap} {K : AV → Heap → Prop}

theorem den_still (hT : TabOk P T) (C : Conc w0 F S0 s S E H a.tmps w) (hs : stillOp o.op = true) (h : den P T o.op (ev E) H K) {K' : Act → Prop} (hn : ∀ x v, VR s H.length w S x v → K x H → K' (a.put o.dst v)) : o.still P a w K' := by
  have hn' : ThenS w s S H K fun v w' => (fun (a' : Act) (w' : World) => w' = w ∧ K' a') (a.put o.dst v) w' := fun x v h1 h2 => ⟨rfl, hn x v h1 h2⟩
  cases ho : o.op <;> rw [ho] at h hs <;> first
    | exact (den_move (next := fun a' w' => w' = w ∧ K' a') C hn' (.inl ho) h).still
    | exact (den_pick (next := fun a' w' => w' = w ∧ K' a') C hn' ho h).still
    | exact (den_build (next := fun a' w' => w' = w ∧ K' a') C hn' hT ho h).still
    | exact (den_binOp (next := fun a' w' => w' = w ∧ K' a') C hn' hT ho h).still
    | exact (den_unOp (next := fun a' w' => w' = w ∧ K' a') C hn' ho h).still
    | exact (den_convert (next := fun a' w' => w' = w ∧ K' a') C hn' hT ho h).still
    | exact (den_fieldAddr (next := fun a' w' => w' = w ∧ K' a') C hn' hT ho h).still
    | exact (den_field (next := fun a' w' => w' = w ∧ K' a') C hn' hT ho h).still
    | exact (den_load (next := fun a' w' => w' = w ∧ K' a') C hn' hT ho h).still
    | exact (den_indexAddr (next := fun a' w' => w' = w ∧ K' a') C hn' hT ho h).still
    | exact (den_index (next := fun a' w' => w' = w ∧ K' a') C hn' hT ho h).still
    | exact (den_extract (next := fun a' w' => w' = w ∧ K' a') C hn' ho h).still
    | exact (den_nilCheck (next := fun a' w' => w' = w ∧ K' a') C hn' ho h).still
    | exact (den_slice (next := fun a' w' => w' = w ∧ K' a') C hn' hT ho h).still
    | exact (den_lookup (next := fun a' w' => w' = w ∧ K' a') C hn' hT ho h).still
    | (simp [stillOp] at hs; done)
    | skip
  case assign x => exact (den_move (next := fun a' w' => w' = w ∧ K' a') (T := T) (x := x) C hn' (.inr ho) h).still
  case call c =>
  cases hc : c.callee with
  | value f => simp [stillOp, hc] at hs
  | invoke r m => simp [stillOp, hc] at hs
  | builtin b =>
    cases b <;> first
      | exact (den_len (next := fun a' w' => w' = w ∧ K' a') C hn' hT ho hc h).still
      | (simp [stillOp, hc] at hs; done)
end

theorem Conc.drew {w0 w : World} {F : Nat → Prop} {S0 S : Cells} {s : Nat → Value} {E : Env} {H : Heap} {tm : Array Value} (C : Conc w0 F S0 s S E H tm w) (n : Nat) : Conc w0 F S0 s S E H tm { w with drawn := n } := by
  refine C.step none (grown_draw rfl rfl rfl rfl) (fun _ _ h => by cases h) (fun _ h => by cases h) (fun _ _ => rfl) (Nat.le_refl _) (fun i o hi ho => .inr (.inl ⟨ho, fun b _ h => by cases h⟩)) (fun i o hi ho => ?_) (fun i j b hij hi hj bi bj hl => ?_)
  · have := (List.getElem?_eq_some_iff.1 ho).1; omega
  · obtain ⟨o, ho, _⟩ := hj
    have := (List.getElem?_eq_some_iff.1 ho).1; omega

section
variable {P : Program} {T : Tab} {w0 : World} {F : Nat → Prop} {S0 : Cells} {N : Nat} {all : Array Oper}

theorem awpStill_sound (hT : TabOk P T) : ∀ (l rest : List Oper) {E : Env} {H : Heap} {K : Env → Heap → Prop} {a : Act} {w : World} {s : Nat → Value} {S : Cells} {M : Act → Prop}, l.all (dstOk N) = true → l.all (fun o => stillOp o.op) = true → Conc w0 F S0 s S E H a.tmps w → a.defers = [] → a.tmps.size = N →
    awpOps P T all (l ++ rest) E H K → (∀ (a' : Act) (E' : Env), a'.defers = [] → a'.tmps.size = N → Conc w0 F S0 s S E' H a'.tmps w → awpOps P T all rest E' H K → M a') → wpStill P all w M l a
  | [], rest, E, H, K, a, w, s, S, M, _, _, C, hd, hN, h, hM => hM a E hd hN C h
  | o :: l, rest, E, H, K, a, w, s, S, M, hall, hst, C, hd, hN, h, hM => by
    obtain ⟨dst, op, type, pos, after, guard⟩ := o
    rw [List.all_cons, Bool.and_eq_true] at hall hst
    have hdst : ∀ t, dst = some t → t < a.tmps.size := by
      intro t ht
      subst ht
      have hlt : t < N := of_decide_eq_true hall.1
      rw [hN]
      exact hlt
    have go : ∀ {E : Env}, Conc w0 F S0 s S E H a.tmps w → den P T op (ev E) H (fun v H' => awpOps P T all (l ++ rest) (setD dst v E) H' K) →
        (⟨dst, op, type, pos, after, guard⟩ : Oper).still P a w (wpStill P all w M l) := by
      intro E C h
      refine den_still (o := ⟨dst, op, type, pos, after, guard⟩) hT C hst.1 h ?_
      intro x v hv hk
      exact awpStill_sound hT l rest hall.2 hst.2 (C.putD hdst hv) (by rw [put_defers]; exact hd) (by rw [put_size]; exact hN) hk hM
    have skip : ∀ {E : Env}, Conc w0 F S0 s S E H a.tmps w → awpOps P T all (l ++ rest) (setD dst (.tup []) E) H K → wpStill P all w M l (a.put dst undef) := by
      intro E C h
      exact awpStill_sound hT l rest hall.2 hst.2 (C.putD hdst (.tup (vs := []) rfl (fun j c v hc => by simp at hc))) (by rw [put_defers]; exact hd) (by rw [put_size]; exact hN) h hM
    unfold wpStill
    simp only [List.cons_append] at h
    cases guard with
    | none =>
      simp only [awpOps_cons] at h
      rw [if_pos (by simp [Region.wanted])]
      exact go C h
    | some g =>
      obtain ⟨j, want⟩ := g
      simp only [awpOps_cons] at h
      split at h
      case h_2 => exact h.elim
      rename_i d hjd
      split at h
      · rename_i t ht
        obtain ⟨hv, C'⟩ := C.lb ht
        have hy : yielded all a.tmps j = some t := by simp [yielded, hjd, hv]
        by_cases htw : t = want
        · subst htw
          rw [if_pos (by simp [Region.wanted, hy])]
          exact go C' (h.1 rfl)
        · have htn : t = !want := by cases t <;> cases want <;> simp_all
          rw [if_neg (by simp [Region.wanted, hy, htw])]
          subst htn
          exact skip C' (h.2 rfl)
      · rename_i ht
        obtain ⟨v, hv, hr⟩ := C.slots d _ ht
        have hy : yielded all a.tmps j = none := by
          cases hr
          simp [yielded, hjd, hv]
        rw [if_neg (by simp [Region.wanted, hy])]
        exact skip C h
      · exact h.elim
end

/-- A region that draws its order, whose operations turn nothing. -/
theorem draw_still {P : Program} {T : Tab} (hT : TabOk P T) {N : Nat} {id : Nat} {ops : Array Oper} {E : Env} {H : Heap} {Q : Exit → Env → Heap → Prop} (hm : P.follows .mixedOrders = true)
    (hc : (Region.lexB .any ops && ops.toList.all (dstOk N) && ops.toList.all (fun o => stillOp o.op)) = true) (h : awpOps P T ops ops.toList E H (Q .normal)) : DrawSem P N id ops E H Q := by
  constructor
  intro w0 F S0 s S a w C hd hN
  simp only [Bool.and_eq_true] at hc
  refine wp_region_still hm hc.1.1 (awpStill_sound (N := N) (w0 := w0) (F := F) (S0 := S0) hT ops.toList [] hc.1.2 hc.2 (C.drew (w.drawn + 1)) hd hN (by rw [List.append_nil]; exact h) ?_)
  intro a' E' hd' hN' C' h'
  exact ⟨hd', hN', E', H, s, S, C', h'⟩

/-- A region that draws its order: what turns nothing (n operations), then the others one behind the other. -/
theorem draw_tail {P : Program} {T : Tab} (hT : TabOk P T) {N : Nat} {id : Nat} {ops : Array Oper} {E : Env} {H : Heap} {Q : Exit → Env → Heap → Prop} (hm : P.follows .mixedOrders = true) (n : Nat)
    (hc : (Region.lexTailB .any ops n && ops.toList.all (dstOk N) && (ops.toList.take n).all (fun o => stillOp o.op)) = true) (h : awpOps P T ops ops.toList E H (Q .normal)) : DrawSem P N id ops E H Q := by
  constructor
  intro w0 F S0 s S a w C hd hN
  simp only [Bool.and_eq_true] at hc
  have hall := hc.1.2
  rw [← List.take_append_drop n ops.toList, List.all_append, Bool.and_eq_true] at hall
  have e : ops = ops.toList.toArray := by simp
  have key : (Code.region id ops.toList.toArray true).wp P (Lift w0 F S0 N Q) a w := by
    refine wp_region_still_tail n hm (by simpa using hc.1.1) ?_
    refine awpStill_sound (N := N) (w0 := w0) (F := F) (S0 := S0) (T := T) (K := Q .normal) hT (ops.toList.take n) (ops.toList.drop n) hall.1 hc.2 (C.drew (w.drawn + 1)) hd hN (by rw [List.take_append_drop]; simpa using h) ?_
    intro a' E' hd' hN' C' h'
    exact awpOps_sound hT (ops.toList.drop n) hall.2 C' hd' hN' h'
  rwa [← e] at key

end Go.Vx

namespace Go.Vx
open Go.RowKit (Below)

theorem awpOp_sound {P : Program} {T : Tab} (hT : TabOk P T) {w0 : World} {F : Nat → Prop} {S0 : Cells} {N : Nat} {all : Array Oper} {Q : Exit → Act → World → Prop} {o : Oper} {next : Env → Heap → (Env → Heap → Prop) → Prop} {K : Env → Heap → Prop} {M : Act → World → Prop}
    {E : Env} {H : Heap} {a : Act} {w : World} {s : Nat → Value} {S : Cells} (ho : dstOk N o = true) (C : Conc w0 F S0 s S E H a.tmps w) (hd : a.defers = []) (hN : a.tmps.size = N) (h : awpOp P T all o next E H K)
    (hM : ∀ (E' : Env) (H' : Heap) (a' : Act) (w' : World) (s' : Nat → Value) (S' : Cells), Conc w0 F S0 s' S' E' H' a'.tmps w' → a'.defers = [] → a'.tmps.size = N → next E' H' K → M a' w') :
    if Region.wanted o (yielded all a.tmps) then o.wp P a w M Q ∨ (o.asks P a w ∧ LetsOut Q) else M (a.put o.dst undef) w := by
  obtain ⟨dst, op, type, pos, after, guard⟩ := o
  have hdst : ∀ t, dst = some t → t < a.tmps.size := by
    intro t ht
    subst ht
    have hlt : t < N := of_decide_eq_true ho
    rw [hN]
    exact hlt
  have go : ∀ {E : Env}, Conc w0 F S0 s S E H a.tmps w → den P T op (ev E) H (fun v H' => next (setD dst v E) H' K) →
      (⟨dst, op, type, pos, after, guard⟩ : Oper).wp P a w M Q := by
    intro E C h
    refine den_sound (o := ⟨dst, op, type, pos, after, guard⟩) hT C h ?_
    intro x H' v w' s' S' C' hv hk
    exact hM _ _ _ _ _ _ (C'.putD hdst hv) (by rw [put_defers]; exact hd) (by rw [put_size]; exact hN) hk
  have skip : ∀ {E : Env}, Conc w0 F S0 s S E H a.tmps w → next (setD dst (.tup []) E) H K → M (a.put dst undef) w := by
    intro E C h
    exact hM _ _ _ _ _ _ (C.putD hdst (.tup (vs := []) rfl (fun j c v hc => by simp at hc))) (by rw [put_defers]; exact hd) (by rw [put_size]; exact hN) h
  unfold awpOp at h
  cases guard with
  | none =>
    simp only at h
    rw [if_pos (by simp [Region.wanted])]
    exact .inl (go C h)
  | some g =>
    obtain ⟨j, want⟩ := g
    simp only at h
    split at h
    case h_2 => exact h.elim
    rename_i d hjd
    split at h
    · rename_i t ht
      obtain ⟨hv, C'⟩ := C.lb ht
      have hy : yielded all a.tmps j = some t := by simp [yielded, hjd, hv]
      by_cases htw : t = want
      · subst htw
        rw [if_pos (by simp [Region.wanted, hy])]
        exact .inl (go C' (h.1 rfl))
      · have htn : t = !want := by cases t <;> cases want <;> simp_all
        rw [if_neg (by simp [Region.wanted, hy, htw])]
        subst htn
        exact skip C' (h.2 rfl)
    · rename_i ht
      obtain ⟨v, hv, hr⟩ := C.slots d _ ht
      have hy : yielded all a.tmps j = none := by
        cases hr
        simp [yielded, hjd, hv]
      rw [if_neg (by simp [Region.wanted, hy])]
      exact skip C h
    · exact h.elim

def allIn (p : Nat → Prop) (l : List Nat) : Prop := List.rec (motive := fun _ => Prop) True (fun i _ ih => p i ∧ ih) l
theorem allIn_mem {p : Nat → Prop} : ∀ {l : List Nat}, allIn p l → ∀ i ∈ l, p i
  | [], _, i, hi => by cases hi
  | x :: l, h, i, hi => by
    rcases List.mem_cons.1 hi with rfl | hi
    · exact h.1
    · exact allIn_mem (l := l) h.2 i hi

/-! What may come next, reckoned on lists -/
def nthB (d : Bool) : List Bool → Nat → Bool
  | [], _ => d
  | b :: _, 0 => b
  | _ :: l, n + 1 => nthB d l n
theorem nthB_getD {d : Bool} : ∀ (l : List Bool) (i : Nat), nthB d l i = l.getD i d
  | [], i => by simp [nthB]
  | b :: l, 0 => rfl
  | b :: l, n + 1 => by rw [nthB, nthB_getD l n]; rfl
theorem nthB_arr {d : Bool} (a : Array Bool) (i : Nat) : nthB d a.toList i = a.getD i d := by
  rw [nthB_getD, List.getD_eq_getElem?_getD, Array.getD_eq_getD_getElem?, Array.getElem?_toList]
def setB : List Bool → Nat → List Bool
  | [], _ => []
  | _ :: l, 0 => true :: l
  | b :: l, n + 1 => b :: setB l n
theorem setB_set : ∀ (l : List Bool) (i : Nat), setB l i = l.set i true
  | [], i => by cases i <;> rfl
  | b :: l, 0 => rfl
  | b :: l, n + 1 => by rw [setB, setB_set l n]; rfl
def falses : Nat → List Bool
  | 0 => []
  | n + 1 => false :: falses n
theorem falses_eq : ∀ n, falses n = List.replicate n false
  | 0 => rfl
  | n + 1 => by rw [falses, falses_eq n]; rfl
def bindsE (e : Edge) : Bool := Region.binds .any e
def allA (l : List Bool) : List Edge → Bool
  | [] => true
  | e :: es => match !bindsE e || nthB false l e.on with
    | true => allA l es
    | false => false
def rdyGo (l : List Bool) : Nat → List Oper → List Nat
  | _, [] => []
  | i, o :: os => match !nthB true l i && allA l o.after.toList with
    | true => i :: rdyGo l (i + 1) os
    | false => rdyGo l (i + 1) os
theorem allA_eq {a : Array Bool} : ∀ (es : List Edge), allA a.toList es = es.all fun e => !Region.binds .any e || a.getD e.on false
  | [] => rfl
  | e :: es => by
    rw [allA, List.all_cons, nthB_arr, ← allA_eq es, bindsE]
    cases (!Region.binds .any e || a.getD e.on false) <;> simp
theorem rdyGo_eq {ops : Array Oper} {a : Array Bool} : ∀ (os : List Oper) (n : Nat), (∀ j, os[j]? = ops[n + j]?) → rdyGo a.toList n os = (List.range' n os.length).filter fun i =>
    !a.getD i true && ((ops[i]?).map (·.after.all fun e => !Region.binds .any e || a.getD e.on false)).getD false
  | [], n, _ => rfl
  | o :: os, n, h => by
    have h0 : ops[n]? = some o := by simpa using (h 0).symm
    rw [rdyGo, List.length_cons, List.range'_succ, List.filter_cons, nthB_arr, allA_eq, rdyGo_eq os (n + 1) (fun j => by have := h (j + 1); simpa [Nat.add_assoc, Nat.add_comm 1 j] using this)]
    have e : ((ops[n]?).map (·.after.all fun e => !Region.binds .any e || a.getD e.on false)).getD false = o.after.toList.all fun e => !Region.binds .any e || a.getD e.on false := by
      rw [h0]; simp
    rw [e]
    cases (!a.getD n true && o.after.toList.all fun e => !Region.binds .any e || a.getD e.on false) <;> rfl
theorem rdy_eq {ops : Array Oper} {a : Array Bool} : rdyGo a.toList 0 ops.toList = Region.ready .any ops a := by
  rw [rdyGo_eq (ops := ops) ops.toList 0 (fun j => by simp), Region.ready, List.range_eq_range']
  simp
def isNil : List Nat → Bool
  | [] => true
  | _ => false
theorem isNil_eq {l : List Nat} : isNil l = true ↔ l = [] := by cases l <;> simp [isNil]
def nthO : List Oper → Nat → Option Oper
  | [], _ => none
  | o :: _, 0 => some o
  | _ :: os, n + 1 => nthO os n
theorem nthO_eq : ∀ (os : List Oper) (i : Nat), nthO os i = os[i]?
  | [], i => by simp [nthO]
  | o :: os, 0 => rfl
  | o :: os, n + 1 => by rw [nthO, nthO_eq os n]; rfl

/-- One of those that may come next, each of them; none: the end. -/
def nextAny (ops : List Oper) (l : List Nat) (one : Nat → Oper → Prop) (K : Prop) : Prop :=
  match l with
  | [] => K
  | l => allIn (fun i => match nthO ops i with
    | some o => one i o
    | none => False) l
/-- The operations in every order that the region may draw. -/
noncomputable def awpAny (P : Program) (T : Tab) (ops : Array Oper) (n : Nat) : List Bool → Env → Heap → (Env → Heap → Prop) → Prop :=
  Nat.rec (motive := fun _ => List Bool → Env → Heap → (Env → Heap → Prop) → Prop)
    (fun l E H K => chk (isNil (rdyGo l 0 ops.toList)) (K E H))
    (fun _ ih l E H K => nextAny ops.toList (rdyGo l 0 ops.toList) (fun i o => awpOp P T ops o (ih (setB l i)) E H K) (K E H)) n

theorem awpAny_sound {P : Program} {T : Tab} (hT : TabOk P T) {w0 : World} {F : Nat → Prop} {S0 : Cells} {N : Nat} {ops : Array Oper} {Q : Exit → Act → World → Prop} {K : Env → Heap → Prop} (hall : ops.toList.all (dstOk N) = true)
    (hK : ∀ (E' : Env) (H' : Heap) (a' : Act) (w' : World) (s' : Nat → Value) (S' : Cells), Conc w0 F S0 s' S' E' H' a'.tmps w' → a'.defers = [] → a'.tmps.size = N → K E' H' → Q .normal a' w') :
    ∀ (n : Nat) (listed : Array Bool) {E : Env} {H : Heap} {a : Act} {w : World} {s : Nat → Value} {S : Cells}, Conc w0 F S0 s S E H a.tmps w → a.defers = [] → a.tmps.size = N → awpAny P T ops n listed.toList E H K → wpAny P .any ops Q n listed a w
  | 0, listed, E, H, a, w, s, S, C, hd, hN, h => by
    obtain ⟨h1, h2⟩ := chk_inv (K := K E H) h
    rw [rdy_eq] at h1
    exact ⟨isNil_eq.1 h1, hK _ _ _ _ _ _ C hd hN h2⟩
  | n + 1, listed, E, H, a, w, s, S, C, hd, hN, h => by
    have h : nextAny ops.toList (rdyGo listed.toList 0 ops.toList) (fun i o => awpOp P T ops o (awpAny P T ops n (setB listed.toList i)) E H K) (K E H) := h
    rw [rdy_eq] at h
    unfold nextAny at h
    split at h
    · rename_i he
      exact ⟨fun _ => hK _ _ _ _ _ _ C hd hN h, fun i hi => by rw [he] at hi; cases hi⟩
    · rename_i l hne
      refine ⟨fun he => absurd he hne, fun i hi => ?_⟩
      have h3 := allIn_mem h i hi
      unfold wpOp
      rw [nthO_eq, Array.getElem?_toList] at h3
      cases ho : ops[i]? with
      | none => simp only [ho] at h3
      | some o =>
        simp only [ho] at h3
        refine awpOp_sound (N := N) hT (List.all_eq_true.1 hall o (by rw [Array.mem_toList_iff]; exact Array.mem_of_getElem? ho)) C hd hN h3 ?_
        intro E' H' a' w' s' S' C' hd' hN' hk
        refine awpAny_sound hT hall hK n _ C' hd' hN' ?_
        rwa [Array.toList_setIfInBounds, ← setB_set]

/-- A region that draws its order: every order leads to what stands for (Em, Hm). -/
theorem draw_any {P : Program} {T : Tab} (hT : TabOk P T) {N : Nat} {id : Nat} {ops : Array Oper} {E : Env} {H : Heap} {Q : Exit → Env → Heap → Prop} (hm : P.follows .mixedOrders = true) (Em : Env) (Hm : Heap)
    (hc : ops.toList.all (dstOk N) = true) (h : awpAny P T ops ops.size (falses ops.size) E H fun E' H' => Sub E' H' Em Hm) (hq : Q .normal Em Hm) : DrawSem P N id ops E H Q := by
  constructor
  intro w0 F S0 s S a w C hd hN
  refine wp_region_any hm (awpAny_sound (N := N) (w0 := w0) (F := F) (S0 := S0) (E := E) (H := H) (K := fun E' H' => Sub E' H' Em Hm) hT hc ?_ _ _ (C.drew (w.drawn + 1)) hd hN (by rw [falses_eq] at h; rwa [Array.toList_replicate]))
  intro E' H' a' w' s' S' C' hd' hN' hsub
  obtain ⟨s'', C''⟩ := C'.anew hsub
  exact ⟨hd', hN', Em, Hm, s'', S', C'', hq⟩
theorem DrawSem.sub {P : Program} {N : Nat} {id : Nat} {ops : Array Oper} {E E0 : Env} {H H0 : Heap} {Q : Exit → Env → Heap → Prop} (hsub : Sub E H E0 H0) (h : DrawSem P N id ops E0 H0 Q) : DrawSem P N id ops E H Q :=
  ⟨fun w0 F S0 s S a w C hd hN => by
    obtain ⟨s', C'⟩ := C.anew hsub
    exact h.out _ _ _ _ _ _ _ C' hd hN⟩
/-- A region's operations, by its number. -/
def findR (n : Nat) : Code → Option (Array Oper)
  | .region id ops _ => match Nat.beq id n with
    | true => some ops
    | false => none
  | .seq a b => match findR n a with
    | some o => some o
    | none => findR n b
  | .cond _ a b => match findR n a with
    | some o => some o
    | none => findR n b
  | .block _ c => findR n c
  | .loop c => findR n c
  | _ => none
def regionOf (n : Nat) (c : Code) : Array Oper := (findR n c).getD #[]
end Go.Vx

namespace Go.Vx
open Go.RowKit (Below)

/-- A LOOP: the states at its head, by what they hang on; a measure; the round. -/
theorem loop_ruleS {P : Program} {N : Nat} {c : Code} {E : Env} {H : Heap} {Q : Exit → Env → Heap → Prop}
    {X : Type _} (Inv : X → Prop) (EH : X → Env × Heap) (m : X → Nat) (x0 : X) (h0 : Inv x0) (start : Sub E H (EH x0).1 (EH x0).2)
    (round : ∀ x, Inv x → Tri P N c (EH x).1 (EH x).2 fun e E' H' => match e with
      | .normal => ∃ x', m x' < m x ∧ Inv x' ∧ Sub E' H' (EH x').1 (EH x').2
      | e => Q e E' H') : LoopSem P N c E H Q := by
  constructor
  intro w0 F S0 s S a w C hd hN
  have key : ∀ (n : Nat) (x : X) (s : Nat → Value) (S : Cells) (a : Act) (w : World), m x < n → Inv x → Conc w0 F S0 s S (EH x).1 (EH x).2 a.tmps w → a.defers = [] → a.tmps.size = N →
      Code.rounds P c (Lift w0 F S0 N Q) n a w := by
    intro n
    induction n with
    | zero => intro x s S a w h; omega
    | succ n ih =>
      intro x s S a w hm hx C hd hN
      rw [rounds_succ]
      refine wp_mono ((round x hx).out _ _ _ _ _ _ _ C hd hN) ?_
      rintro e a' w' ⟨hd', hN', E', H', s', S', C', hq⟩
      cases e with
      | normal =>
        obtain ⟨x', hlt, hx', hsub⟩ := hq
        obtain ⟨s'', C''⟩ := C'.anew hsub
        exact ih x' s'' S' a' w' (by omega) hx' C'' hd' hN'
      | _ => exact ⟨hd', hN', E', H', s', S', C', hq⟩
  obtain ⟨s', C'⟩ := C.anew start
  exact wp_loop_rounds (m x0 + 1) (key _ x0 s' S a w (Nat.lt_succ_self _) h0 C' hd hN)

theorem loop_rule {P : Program} {T : Tab} (hT : TabOk P T) {N : Nat} {c : Code} (hc : codeOk N c = true) {E : Env} {H : Heap} {Q : Exit → Env → Heap → Prop}
    {X : Type _} (Inv : X → Prop) (EH : X → Env × Heap) (m : X → Nat) (x0 : X) (h0 : Inv x0) (start : Sub E H (EH x0).1 (EH x0).2)
    (round : ∀ x, Inv x → awp P T N c (EH x).1 (EH x).2 fun e E' H' => match e with
      | .normal => ∃ x', m x' < m x ∧ Inv x' ∧ Sub E' H' (EH x').1 (EH x').2
      | e => Q e E' H') : LoopSem P N c E H Q :=
  loop_ruleS Inv EH m x0 h0 start fun x hx => Tri.of hT hc (round x hx)

end Go.Vx

namespace Go.Vx
open Go.RowKit (Below)

def params : Nat → List AV → Env
  | _, [] => []
  | k, a :: as => (k, a) :: params (k + 1) as

theorem params_get : ∀ (as : List AV) (k t : Nat) (a : AV), (params k as).get t = some a → ∃ j, t = k + j ∧ as[j]? = some a
  | [], k, t, a, h => by cases h
  | b :: as, k, t, a, h => by
    simp only [params, Env.get] at h
    split at h
    · rename_i e; cases h; exact ⟨0, e, rfl⟩
    · obtain ⟨j, e, hj⟩ := params_get as (k + 1) t a h
      exact ⟨j + 1, by omega, by simpa using hj⟩

/-- What a result is, in this state. -/
def resV (T : Tab) (E : Env) (H : Heap) (x : ResultVar) (K : AV → Prop) : Prop :=
  match x with
  | .tmp t => match E.get t with
    | some a => K a
    | none => False
  | .cell p t => match E.get p, T.get t with
    | some (.ptr id o), some i => match H[id]? with
      | some (.box cs) => takeV i cs o K
      | _ => False
    | _, _ => False

def resL (T : Tab) (E : Env) (H : Heap) : List ResultVar → (List AV → Prop) → Prop
  | [], K => K []
  | x :: xs, K => resV T E H x fun a => resL T E H xs fun as => K (a :: as)

def RetOk (T : Tab) (rs : List ResultVar) (E : Env) (H : Heap) (r : AV) : Prop :=
  match rs with
  | [x] => resV T E H x fun a => FitA H a r
  | xs => match r with
    | .tup bs => resL T E H xs fun as => FitAL H as bs
    | _ => False

section
variable {P : Program} {T : Tab} {w0 w : World} {F : Nat → Prop} {S0 S : Cells} {s : Nat → Value} {E : Env} {H : Heap} {tm : Array Value}

def resRun (tm : Array Value) : ResultVar → Sem Value
  | .tmp t => pure (tm.getD t undef)
  | .cell a t => do loadVar t (← asAddr (tm.getD a undef))

theorem resV_sound (hT : TabOk P T) (C : Conc w0 F S0 s S E H tm w) {x : ResultVar} {K : AV → Prop} (h : resV T E H x K) : ∃ a v, (resRun tm x).run P w = .ok v w ∧ VR s H.length w S a v ∧ K a := by
  unfold resV at h
  split at h
  · rename_i t
    split at h
    · rename_i a ha
      obtain ⟨v, hv, hr⟩ := C.slots t a ha
      refine ⟨a, v, ?_, hr, h⟩
      simp [resRun, hv]
    · exact h.elim
  · rename_i p t
    split at h
    · rename_i id o i hp hi
      obtain ⟨u, hu, hr⟩ := C.slots p _ hp
      split at h
      · rename_i cs hb
        obtain ⟨b, tt, vs, h1, h2, h3, h4, h5⟩ := C.objs id _ hb
        obtain ⟨y, v, hrun, hv, hk⟩ := run_loadVar_cells (b := b) (off := 0) hT hi (⟨h3, h4⟩ : AllR s H.length w S cs vs) (fun j v hj => by simp [World.cell?, h2, hj]) h
        rw [Nat.zero_add] at hrun
        cases hr with
        | ptr hlt he =>
          rw [h1] at he
          cases he
          exact ⟨y, v, by simp [resRun, hu, asAddr, hrun], hv, hk⟩
      · exact h.elim
    · exact h.elim

theorem resL_sound (hT : TabOk P T) (C : Conc w0 F S0 s S E H tm w) : ∀ {xs : List ResultVar} {K : List AV → Prop}, resL T E H xs K →
    ∃ as vs, (xs.mapM (m := Sem) (resRun tm)).run P w = .ok vs w ∧ AllR s H.length w S as vs ∧ K as ∧ vs.length = xs.length
  | [], K, h => ⟨[], [], rfl, AllR.nil, h, rfl⟩
  | x :: xs, K, h => by
    obtain ⟨a, v, h1, h2, h3⟩ := resV_sound hT C h
    obtain ⟨as, vs, g1, g2, g3, g4⟩ := resL_sound hT C h3
    exact ⟨a :: as, v :: vs, by simp [List.mapM_cons, h1, g1], AllR.cons h2 g2, g3, by simp [g4]⟩

theorem results_eq (fn : Func) (tm : Array Value) : results fn tm = (do let vs ← fn.results.mapM (resRun tm); pure (if h : vs.size = 1 then vs[0] else .tuple vs)) := by
  unfold results
  congr 1

theorem RetOk_sound (hT : TabOk P T) {fn : Func} (C : Conc w0 F S0 s S E H tm w) {r : AV} (h : RetOk T fn.results.toList E H r) :
    ∃ v s' S' H', (results fn tm).run P w = .ok v w ∧ Conc w0 F S0 s' S' E H' tm w ∧ VR noS 0 w S' r v := by
  have hrun : ∀ vs, (fn.results.toList.mapM (m := Sem) (resRun tm)).run P w = .ok vs w → (results fn tm).run P w = .ok (if h : vs.length = 1 then vs[0] else .tuple vs.toArray) w := by
    intro vs hvs
    rw [results_eq]
    simp only [Sem.run_bind, Array.mapM_eq_mapM_toList, Sem.run_map, hvs, Result.andThen_ok, Sem.run_pure]
    simp
  have many : ∀ bs, fn.results.toList.length ≠ 1 → r = .tup bs → resL T E H fn.results.toList (fun as => FitAL H as bs) →
      ∃ v s' S' H', (results fn tm).run P w = .ok v w ∧ Conc w0 F S0 s' S' E H' tm w ∧ VR noS 0 w S' r v := by
    rintro bs hne rfl h
    obtain ⟨as, vs, h1, h2, h3, h4⟩ := resL_sound hT C h
    obtain ⟨S', m, C', f⟩ := Conc.frzAL as C
    have hb := f bs h3 vs h2
    refine ⟨.tuple vs.toArray, s, S', _, ?_, C', .tup hb.1 hb.2⟩
    rw [hrun vs h1, dif_neg (by omega)]
  match hrs : fn.results.toList with
  | [x] =>
    rw [hrs] at h
    obtain ⟨a, v, h1, h2, h3⟩ := resV_sound hT C h
    obtain ⟨S', m, C', f⟩ := C.frzA a
    refine ⟨v, s, S', _, ?_, C', f r h3 v h2⟩
    have := hrun [v] (by rw [hrs]; simp [List.mapM_cons, h1])
    simpa using this
  | [] =>
    rw [hrs] at h
    simp only [RetOk] at h
    split at h
    · rename_i bs
      exact many bs (by rw [hrs]; simp) rfl (by rw [hrs]; exact h)
    · exact h.elim
  | x :: y :: zs =>
    rw [hrs] at h
    simp only [RetOk] at h
    split at h
    · rename_i bs
      exact many bs (by rw [hrs]; simp) rfl (by rw [hrs]; exact h)
    · exact h.elim
end

/-! ### Functions that turn what they are handed -/
def idV (k : Nat) : AObj → AV
  | .box _ => .ptr k 0
  | .map _ _ _ _ => .map k
  | _ => .own k
theorem idV_inv {s : Nat → Value} {n : Nat} {w : World} {S : Cells} {i : Nat} {y : AObj} {v : Value} (h : VR s n w S (idV i y) v) : s i = v := by
  cases y <;> simp only [idV] at h <;> cases h <;> assumption
def pins (s : Nat → Value) : Nat → Heap → Heap
  | _, [] => []
  | k, o :: H => .pin (s k) (idV k o) :: pins s (k + 1) H
def pinsOk (r : Ren) (H2 : Heap) (s : Nat → Value) : Nat → Heap → List Nat → Prop
  | _, [], _ => True
  | k, o :: Hc, q :: qs => (match H2[q]? with
    | some (.pin v b) => v = s k ∧ matchV r (idV k o) (some b)
    | _ => False) ∧ pinsOk r H2 s (k + 1) Hc qs
  | _, _ :: _, [] => False

def compsOf (rs : List ResultVar) (x : AV) : Option (List AV) :=
  match rs with
  | [_] => some [x]
  | _ => match x with
    | .tup xs => some xs
    | _ => none

def RetImp (T : Tab) (rs : List ResultVar) (E : Env) (H2 : Heap) (s : Nat → Value) (Hc : Heap) (x : AV) (H' : Heap) : Prop :=
  match compsOf rs x with
  | some xs => resL T E H2 rs fun as => ∃ (r : Ren) (qs : List Nat), nodupD r H' = true ∧ matchC r xs as ∧ matchH r H2 r H' ∧ pinsOk r H2 s 0 Hc qs
  | none => False

theorem pins_get (s : Nat → Value) : ∀ (H : Heap) (k i : Nat), (pins s k H)[i]? = (H[i]?).map fun o => AObj.pin (s (k + i)) (idV (k + i) o)
  | [], k, i => by simp [pins]
  | o :: H, k, 0 => by simp [pins]
  | o :: H, k, i + 1 => by
    simp only [pins, List.getElem?_cons_succ]
    rw [pins_get s H (k + 1) i, show k + 1 + i = k + (i + 1) by omega]

theorem pinsOk_get {r : Ren} {H2 : Heap} {s : Nat → Value} : ∀ (Hc : Heap) (k : Nat) (qs : List Nat), pinsOk r H2 s k Hc qs → ∀ (i : Nat) (o : AObj), Hc[i]? = some o → ∃ (q : Nat) (b : AV), H2[q]? = some (AObj.pin (s (k + i)) b) ∧ matchV r (idV (k + i) o) (some b)
  | [], k, qs, _, i, o, h => by simp at h
  | x :: Hc, k, [], hp, i, o, h => hp.elim
  | x :: Hc, k, q :: qs, hp, 0, o, h => by
    simp at h
    subst h
    have h1 := hp.1
    split at h1
    · rename_i v b hq
      obtain ⟨rfl, h2⟩ := h1
      exact ⟨q, b, hq, h2⟩
    · exact h1.elim
  | x :: Hc, k, q :: qs, hp, i + 1, o, h => by
    have := pinsOk_get Hc (k + 1) qs hp.2 i o (by simpa using h)
    rwa [show k + 1 + i = k + (i + 1) by omega] at this

def noPin : Heap → Bool
  | [] => true
  | .pin _ _ :: _ => false
  | _ :: H => noPin H
theorem noPin_get : ∀ {H : Heap}, noPin H = true → ∀ (i : Nat) (v : Value) (a : AV), H[i]? ≠ some (.pin v a)
  | [], _, i, v, a => by simp
  | x :: H, hd, 0, v, a => by
    intro h
    simp at h
    subst h
    simp [noPin] at hd
  | x :: H, hd, i + 1, v, a => by
    have := noPin_get (H := H) (by cases x <;> first | exact hd | simp [noPin] at hd) i v a
    simpa using this

theorem imp_ruleS {P : Program} {T : Tab} (hT : TabOk P T) {f : FuncId} {fn : Func} {c : Code} (hf : P.funcs[f]? = some fn) (hb : fn.body = some c) (hname : (fn.name == "runtime.NumGoroutine") = false)
    {as : List AV} {Hc : Heap} {x : AV} {H' : Heap} (hN : as.length ≤ fn.ntmps) (hle : Hc.length ≤ H'.length) (hnd : (noDead Hc && noPin Hc) = true)
    (h : ∀ s : Nat → Value, Tri P fn.ntmps c (params 0 as) (Hc ++ pins s 0 Hc) fun e E H2 => match e with
      | .ret => RetImp T fn.results.toList E H2 s Hc x H'
      | .normal => RetImp T fn.results.toList E H2 s Hc x H'
      | _ => False) : ImpCall P f as Hc x H' := by
  simp only [Bool.and_eq_true] at hnd
  refine ⟨⟨fn, hf, hname, by rw [hb]; rfl⟩, hle, fun w S s vs C0 hr => ?_⟩
  let s0 : Nat → Value := fun i => if i < Hc.length then s i else .bool false
  have hs0 : ∀ i, i < Hc.length → s0 i = s i := fun i hi => by simp only [s0]; rw [if_pos hi]
  have hlen : (Hc ++ pins s 0 Hc).length = Hc.length + (pins s 0 Hc).length := List.length_append
  have hget : ∀ (i : Nat) (o : AObj), (Hc ++ pins s 0 Hc)[i]? = some o → (i < Hc.length ∧ Hc[i]? = some o) ∨ (Hc.length ≤ i ∧ ∃ k y, Hc[k]? = some y ∧ o = .pin (s k) (idV k y)) := by
    intro i o ho
    by_cases hi : i < Hc.length
    · rw [List.getElem?_append_left hi] at ho; exact .inl ⟨hi, ho⟩
    · rw [List.getElem?_append_right (by omega), pins_get] at ho
      obtain ⟨y, h1, h2⟩ := Option.map_eq_some_iff.1 ho
      exact .inr ⟨by omega, _, y, h1, by rw [← h2, Nat.zero_add]⟩
  have hlive : ∀ i, live (Hc ++ pins s 0 Hc) i → ∀ b, blk (s0 i) = some b → i < Hc.length ∧ live Hc i ∧ blk (s i) = some b := by
    rintro i ⟨o, ho, hd⟩ b hb
    rcases hget i o ho with ⟨h1, h2⟩ | ⟨h1, _⟩
    · exact ⟨h1, ⟨o, h2, hd⟩, by rw [← hs0 i h1]; exact hb⟩
    · simp only [s0] at hb
      rw [if_neg (by omega)] at hb
      cases hb
  have C : Conc w (Fof s Hc) S s0 S (params 0 as) (Hc ++ pins s 0 Hc) (vs.toArray ++ Array.replicate (fn.ntmps - vs.toArray.size) undef) w := by
    refine ⟨?_, ?_, ?_, ?_, C0.lt, fun _ _ h => h, fun _ _ h => .inl h, fun _ _ _ => rfl, fun _ _ _ => rfl, Nat.le_refl _, rfl, rfl, rfl⟩
    · intro t a ha
      obtain ⟨j, rfl, hj⟩ := params_get as 0 t a ha
      obtain ⟨v, hv, hrv⟩ := hr.at_ hj
      refine ⟨v, ?_, hrv.mono (by omega) hs0 (fun _ _ h => h) (fun _ _ _ => rfl)⟩
      have hlt := (List.getElem?_eq_some_iff.1 hv).1
      rw [Nat.zero_add, Array.getElem?_append_left (by simpa using hlt)]
      simpa using hv
    · intro i o ho
      rcases hget i o ho with ⟨h1, h2⟩ | ⟨h1, k, y, h2, rfl⟩
      · exact (C0.objs i o h2).mono (by omega) hs0 (fun _ _ _ => rfl) h1 (fun _ _ => rfl)
      · have hk := (List.getElem?_eq_some_iff.1 h2).1
        refine ⟨by simp only [s0]; rw [if_neg (by omega)], ?_⟩
        have ho := C0.objs k y h2
        have hkn : k < (Hc ++ pins s 0 Hc).length := by omega
        cases y with
        | dead => exact absurd rfl (noDead_get hnd.1 k _ h2)
        | pin v a => exact absurd h2 (noPin_get hnd.2 k v a)
        | box cs =>
          obtain ⟨b, t, us, g1, _⟩ := ho
          rw [g1]
          exact .ptr hkn ((hs0 k hk).trans g1)
        | map kk ν ev kvs =>
          obtain ⟨b, es, clock, g1, _⟩ := ho
          rw [g1]
          exact .map hkn ((hs0 k hk).trans g1)
        | row ro e sz α enc d xs =>
          obtain ⟨cs, g1, _⟩ := ho
          have e : ∃ A m c, s k = .slice A m c := by
            rcases g1.2 with ⟨e, _⟩ | ⟨g, cap, cur, e, _⟩
            · exact ⟨_, _, _, e⟩
            · exact ⟨_, _, _, e⟩
          obtain ⟨A, m, c', e⟩ := e
          rw [e]
          exact .own hkn ((hs0 k hk).trans e)
    · intro i j b hi hj bi bj
      obtain ⟨_, h1, h2⟩ := hlive i hi b bi
      obtain ⟨_, h3, h4⟩ := hlive j hj b bj
      exact C0.apart i j b h1 h3 h2 h4
    · intro i b hi bi
      obtain ⟨_, h1, h2⟩ := hlive i hi b bi
      exact .inl ⟨i, h1, h2⟩
  refine calls_of_wp hf hb (wp_mono ((h s).out _ _ _ _ _ _ _ C rfl ?_) ?_)
  · have := hr.1
    simp
    omega
  · rintro e a w' ⟨hd, hsz, E, H2, s2, S2, C', hq⟩
    have fin : RetImp T fn.results.toList E H2 s Hc x H' → a.defers = [] ∧ ∃ v, (results fn a.tmps).run P w' = .ok v w' ∧ ∃ (v' : Value) (s' : Nat → Value) (S' : Cells), Ending.returned v = .returned v' ∧
        Conc w (Fof s Hc) S s' S' [] H' #[] w' ∧ VR s' H'.length w' S' x v' ∧ ∀ i, i < Hc.length → s' i = s i := by
      intro hret
      unfold RetImp at hret
      split at hret
      case h_2 => exact hret.elim
      rename_i xs hxs
      obtain ⟨as', vs', h1, h2, ⟨r, qs, hn1, hm, hH, hp⟩, h4⟩ := resL_sound hT C' hret
      have hrl := (matchH_get hH).1
      have C2 : Conc w (Fof s Hc) S (ren s2 r) S2 [] H' a.tmps w' := C'.renewD hn1 True.intro hH
      have C3 : Conc w (Fof s Hc) S (ren s2 r) S2 [] H' #[] w' := ⟨fun t a h => (by cases h), C2.objs, C2.apart, C2.mine, C2.lt, C2.sub, C2.new, C2.keep, C2.imm, C2.grow, C2.os, C2.tape, C2.output⟩
      have hv := matchC_sound hrl.symm hm h2
      have hs' : ∀ i, i < Hc.length → ren s2 r i = s i := by
        intro i hi
        have hx := List.getElem?_eq_getElem hi
        obtain ⟨q, b, g1, g2⟩ := pinsOk_get Hc 0 qs hp i _ hx
        rw [Nat.zero_add] at g1 g2
        have g3 := matchV_sound hrl.symm g2 (C'.objs q _ g1).2
        generalize Hc[i] = y at g3
        exact idV_inv g3
      have hrun : (results fn a.tmps).run P w' = .ok (if h : vs'.length = 1 then vs'[0] else .tuple vs'.toArray) w' := by
        rw [results_eq]
        simp only [Sem.run_bind, Array.mapM_eq_mapM_toList, Sem.run_map, h1, Result.andThen_ok, Sem.run_pure]
        simp
      refine ⟨hd, _, hrun, _, ren s2 r, S2, rfl, C3, ?_, hs'⟩
      unfold compsOf at hxs
      split at hxs
      · rename_i rv hrs
        cases hxs
        rw [hrs] at h4
        obtain ⟨v', rfl⟩ := List.length_eq_one_iff.1 h4
        obtain ⟨u, hu, hru⟩ := hv.at_ (j := 0) rfl
        simp at hu
        subst hu
        simpa using hru
      · rename_i hne
        split at hxs
        · cases hxs
          rw [dif_neg]
          · exact .tup hv.1 hv.2
          · intro e1
            rw [e1] at h4
            obtain ⟨rv, hrv⟩ := List.length_eq_one_iff.1 h4.symm
            exact hne rv hrv
        · cases hxs
    cases e with
    | normal => exact fin hq
    | ret => exact fin hq
    | exit id => exact hq.elim
    | goto l => exact hq.elim
    | panic ch => exact hq.elim
    | outgrown => exact hq.elim

theorem imp_rule {P : Program} {T : Tab} (hT : TabOk P T) {f : FuncId} {fn : Func} {c : Code} (hf : P.funcs[f]? = some fn) (hb : fn.body = some c) (hname : (fn.name == "runtime.NumGoroutine") = false)
    (hc : codeOk fn.ntmps c = true) {as : List AV} {Hc : Heap} {x : AV} {H' : Heap} (hN : as.length ≤ fn.ntmps) (hle : Hc.length ≤ H'.length) (hnd : (noDead Hc && noPin Hc) = true)
    (h : ∀ s : Nat → Value, awp P T fn.ntmps c (params 0 as) (Hc ++ pins s 0 Hc) fun e E H2 => match e with
      | .ret => RetImp T fn.results.toList E H2 s Hc x H'
      | .normal => RetImp T fn.results.toList E H2 s Hc x H'
      | _ => False) : ImpCall P f as Hc x H' :=
  imp_ruleS hT hf hb hname hN hle hnd fun s => Tri.of hT hc (h s)

/-- A PURE FUNCTION's CONTRACT, out of its code. -/
theorem pure_ruleS {P : Program} {T : Tab} (hT : TabOk P T) {f : FuncId} {fn : Func} {c : Code} (hf : P.funcs[f]? = some fn) (hb : fn.body = some c) (hname : (fn.name == "runtime.NumGoroutine") = false)
    {as : List AV} {r : AV} (hN : as.length ≤ fn.ntmps)
    (h : Tri P fn.ntmps c (params 0 as) [] fun e E H => match e with
      | .ret => RetOk T fn.results.toList E H r
      | .normal => RetOk T fn.results.toList E H r
      | _ => False) : PureCall P f as r := by
  refine ⟨⟨fn, hf, hname, by rw [hb]; rfl⟩, fun w S vs hS hr => ?_⟩
  have C : Conc w (fun _ => False) S noS S (params 0 as) [] (vs.toArray ++ Array.replicate (fn.ntmps - vs.toArray.size) undef) w := by
    refine ⟨?_, fun i o ho => by simp at ho, ?_, ?_, hS, fun _ _ h => h, fun _ _ h => .inl h, fun _ _ _ => rfl, fun _ _ _ => rfl, Nat.le_refl _, rfl, rfl, rfl⟩
    · intro t a ha
      obtain ⟨j, rfl, hj⟩ := params_get as 0 t a ha
      obtain ⟨v, hv, hrv⟩ := hr.at_ hj
      refine ⟨v, ?_, hrv⟩
      have hlt := (List.getElem?_eq_some_iff.1 hv).1
      rw [Nat.zero_add, Array.getElem?_append_left (by simpa using hlt)]
      simpa using hv
    · rintro i j b ⟨o, ho, _⟩
      simp at ho
    · rintro i b ⟨o, ho, _⟩
      simp at ho
  refine calls_of_wp hf hb (wp_mono (h.out _ _ _ _ _ _ _ C rfl ?_) ?_)
  · have := hr.1
    simp
    omega
  · rintro e a w' ⟨hd, hsz, E, H, s, S', C', hq⟩
    have fin : RetOk T fn.results.toList E H r → a.defers = [] ∧ ∃ v, (results fn a.tmps).run P w' = .ok v w' ∧ ∃ (v' : Value) (S' : Cells), Ending.returned v = .returned v' ∧ (∀ b o, S b o → S' b o) ∧ (∀ b o, S' b o → b < w'.heap.size) ∧
        (∀ b o, S' b o → S b o ∨ w.heap.size ≤ b) ∧ VR noS 0 w' S' r v' ∧ Below w.heap.size w w' := by
      intro hret
      obtain ⟨v, s1, S1, H1, hrun, C1, hv⟩ := RetOk_sound hT C' hret
      refine ⟨hd, v, hrun, v, S1, rfl, C1.sub, C1.lt, fun b o hb => ?_, hv, ⟨C1.os, C1.tape, C1.output, C1.grow, fun k hk => C1.keep k hk (fun h => h)⟩⟩
      rcases C1.new b o hb with h | h | h
      · exact .inl h
      · exact h.elim
      · exact .inr h
    cases e with
    | normal => exact fin hq
    | ret => exact fin hq
    | exit id => exact hq.elim
    | goto l => exact hq.elim
    | panic ch => exact hq.elim
    | outgrown => exact hq.elim

theorem pure_rule {P : Program} {T : Tab} (hT : TabOk P T) {f : FuncId} {fn : Func} {c : Code} (hf : P.funcs[f]? = some fn) (hb : fn.body = some c) (hname : (fn.name == "runtime.NumGoroutine") = false)
    (hc : codeOk fn.ntmps c = true) {as : List AV} {r : AV} (hN : as.length ≤ fn.ntmps)
    (h : awp P T fn.ntmps c (params 0 as) [] fun e E H => match e with
      | .ret => RetOk T fn.results.toList E H r
      | .normal => RetOk T fn.results.toList E H r
      | _ => False) : PureCall P f as r :=
  pure_ruleS hT hf hb hname hN (Tri.of hT hc h)

end Go.Vx

namespace Go.Vx

/-- A type's row of the table, out of two closed facts. -/
theorem TOk.of {P : Program} {t : TypeId} {i : TI} {d : TypeDesc} (hu : i.el = true → 0 < i.size ∧ 0 < i.bytes ∧ ∀ x, (i.enc x).length = i.size) (hd : P.underlying t = some d) (hf : i.kind.fits d)
    (hi : (P.info? t).map (fun inf => (inf.size, inf.bytes, inf.zero.map fun z => (z.cells.toList.map constCell, z.cells.toList.all (·.oneCell'), z.cells.size, z.oneCell'))) = some (i.size, i.bytes, some (i.zero, true, i.size, !isAggK i.kind))) : TOk P t i := by
  refine ⟨hu, ⟨d, hd, hf⟩, ?_⟩
  obtain ⟨inf, h1, h2⟩ := Option.map_eq_some_iff.1 hi
  simp only [Prod.mk.injEq] at h2
  obtain ⟨h3, h4, h5⟩ := h2
  obtain ⟨z, h6, h7⟩ := Option.map_eq_some_iff.1 h5
  simp only [Prod.mk.injEq] at h7
  exact ⟨inf, z, h1, h3, h4, h6, h7.1, h7.2.1, h7.2.2.1, h7.2.2.2⟩

/-- The body of a function of the translation. -/
def bodyOf (f : Func) : Code := match f.body with
  | some c => c
  | none => .skip

end Go.Vx

namespace Go.Vx
open Go.RowKit (Below)

theorem Tri.seq {P : Program} {T : Tab} (hT : TabOk P T) {N : Nat} {a b : Code} {E : Env} {H : Heap} {Q : Exit → Env → Heap → Prop} (hb : codeOk N b = true)
    (h : Tri P N a E H (seqQ (fun E' H' => awp P T N b E' H' Q) Q)) : Tri P N (.seq a b) E H Q := by
  constructor
  intro w0 F S0 s S x w C hd hN
  refine wp_seq (wp_mono (h.out _ _ _ _ _ _ _ C hd hN) ?_)
  rintro e a' w' ⟨hd', hN', E', H', s', S', C', hq⟩
  cases e with
  | normal => exact awp_sound hT b hb C' hd' hN' hq
  | _ => exact ⟨hd', hN', E', H', s', S', C', hq⟩
theorem Tri.block {P : Program} {N : Nat} {id : Nat} {c : Code} {E : Env} {H : Heap} {Q : Exit → Env → Heap → Prop} (h : Tri P N c E H (blockQ id Q)) : Tri P N (.block id c) E H Q := by
  constructor
  intro w0 F S0 s S x w C hd hN
  refine wp_block (wp_mono (h.out _ _ _ _ _ _ _ C hd hN) ?_)
  rintro e a' w' ⟨hd', hN', E', H', s', S', C', hq⟩
  cases e with
  | exit id' =>
    simp only [Exit.inBlock]
    simp only [blockQ] at hq
    split at hq
    · rename_i e; rw [if_pos e]; exact ⟨hd', hN', E', H', s', S', C', hq⟩
    · rename_i e; rw [if_neg e]; exact ⟨hd', hN', E', H', s', S', C', hq⟩
  | _ => exact ⟨hd', hN', E', H', s', S', C', hq⟩
theorem Tri.scope {P : Program} {N : Nat} {c : Code} {E : Env} {H : Heap} {Q : Exit → Env → Heap → Prop} (h : Tri P N c E H (scopeQ Q)) : Tri P N (.scope c) E H Q := by
  constructor
  intro w0 F S0 s S a w C hd hN
  refine wp_scope_straight (wp_mono (h.out _ _ _ _ _ _ _ C hd hN) ?_)
  rintro e a' w' ⟨hd', hN', E', H', s', S', C', hq⟩
  cases e <;> first | exact hq.elim | exact ⟨hd', hN', E', H', s', S', C', hq⟩
def scopeC : Code → Code
  | .scope c => c
  | c => c
/-- A pure function of scalars that returns true, as the rows want it. -/
theorem pure_true {P : Program} {f : FuncId} {xs : List Value} (h : PureCall P f (xs.map fun v => .pv (.lit v)) (lb true)) (W : World) (hx : ∀ v ∈ xs, v.oneCell' = true) :
    Calls P f xs.toArray W fun e W' => e = .returned (.bool true) ∧ Below W.heap.size W W' := by
  refine (h.2 W (fun _ _ => False) xs (fun _ _ h => h.elim) ⟨by simp, fun j c v hc hv => ?_⟩).mono ?_
  · rw [List.getElem?_map, hv] at hc
    cases hc
    exact .pv (.lit v (hx v (List.mem_of_getElem? hv)))
  · rintro e W' ⟨v, S', rfl, _, _, _, hv, hb⟩
    exact ⟨by rw [hv.lit_inv], hb⟩
end Go.Vx

