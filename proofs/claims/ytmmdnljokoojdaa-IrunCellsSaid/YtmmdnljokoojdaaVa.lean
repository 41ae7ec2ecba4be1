/- What the abstract states are, and what one instruction does to them. No condition: these are lemmas for the laws. -/
import Derived.Calls
import Derived.Below
import Derived.Laws.AppendOwn
import Derived.Laws.OwnMore
import Derived.Laws.Rows
import Derived.Laws.Tables
import Derived.Maps.AppendAt
import Derived.WalkKit
import Derived.KernelRfl
import Derived.Great.BuildSlice
set_option linter.unusedVariables false
set_option linter.unusedSimpArgs false
namespace Go.Vx

/-- Values without identity: scalars, and slices that are only read (told by their elements' cells). -/
inductive PV : Type 1
  | lit (v : Value)
  | sl (sz : Nat) (α : Type) (enc : α → List PV) (d : α) (xs : List α)

/-- What a slot or a cell holds: a pure value, nil, or something of the call's own, by its number. -/
inductive AV : Type 1
  | pv (p : PV)
  | nil
  | own (id : Nat)
  | ptr (id off : Nat)
  | eptr (id i sz off : Nat)
  | sub (id off sz len : Nat)
  | rptr (cells : List PV) (off : Nat)
  | map (id : Nat)
  | agg (cells : List AV)
  | tup (vs : List AV)

/-- The kinds of keys of maps. -/
inductive KK
  | int (k : IntKind)
  | str
@[reducible] def KK.T : KK → Type
  | .int _ => Int
  | .str => ByteArray
def KK.val : (kk : KK) → kk.T → Value
  | .int k, x => .int k x
  | .str, x => .string x

/-- What the call has made (or was handed): variables in memory, rows, maps. -/
inductive AObj : Type 1
  | dead
  | box (cells : List AV)
  | row (ro : Bool) (e : TypeId) (sz : Nat) (α : Type) (enc : α → List PV) (d : α) (xs : List α)
  | map (kk : KK) (ν : Type) (ev : ν → List PV) (kvs : List (kk.T × ν))
  | pin (v : Value) (a : AV)

abbrev Env := List (Nat × AV)
abbrev Heap := List AObj
abbrev Cells := Nat → Nat → Prop

def Env.get (E : Env) (s : Nat) : Option AV :=
  match E with
  | [] => none
  | (t, v) :: r => if s = t then some v else Env.get r s

def setD (d : Option Nat) (v : AV) (E : Env) : Env :=
  match d with
  | some s => (s, v) :: E
  | none => E

/-! ### What pure values are in a world; S: cells that nobody writes any more -/

inductive Rep (w : World) (S : Cells) : Value → PV → Prop
  | lit (v : Value) (h : v.oneCell' = true) : Rep w S v (.lit v)
  | sl (A : Option Addr) (n c sz : Nat) (α : Type) (enc : α → List PV) (d : α) (xs : List α) (u : Nat → Nat → Value) (b o : Nat)
      (hn : n = xs.length) (hc : n ≤ c)
      (hz : ∀ i, i < n → (enc (xs.getD i d)).length = sz)
      (hA : 0 < n → A = some ⟨b, o, none⟩)
      (hu : ∀ i j, i < n → j < sz → S b (o + i * sz + j) ∧ w.cell? ⟨b, o + i * sz + j, none⟩ = some (u i j))
      (hr : ∀ i j p, i < n → (enc (xs.getD i d))[j]? = some p → Rep w S (u i j) p) :
      Rep w S (.slice A n c) (.sl sz α enc d xs)

theorem Rep.mono {w w' : World} {S S' : Cells} (hs : ∀ b o, S b o → S' b o) (hw : ∀ b o, S b o → w'.cell? ⟨b, o, none⟩ = w.cell? ⟨b, o, none⟩) {v : Value} {p : PV} (h : Rep w S v p) : Rep w' S' v p := by
  induction h with
  | lit v h => exact .lit v h
  | sl A n c sz α enc d xs u b o hn hc hz hA hu hr ih =>
    exact .sl A n c sz α enc d xs u b o hn hc hz hA (fun i j hi hj => ⟨hs _ _ (hu i j hi hj).1, (hw _ _ (hu i j hi hj).1).trans (hu i j hi hj).2⟩) ih

theorem Rep.oneCell {w : World} {S : Cells} {v : Value} {p : PV} (h : Rep w S v p) : v.oneCell' = true := by
  cases h with
  | lit v h => exact h
  | sl => rfl

/-! ### Values; s: what stands for the numbered things; n: how many there are -/
inductive VR (s : Nat → Value) (n : Nat) (w : World) (S : Cells) : AV → Value → Prop
  | pv {p v} (h : Rep w S v p) : VR s n w S (.pv p) v
  | nil : VR s n w S .nil (.slice none 0 0)
  | own {i A m c} (hi : i < n) (h : s i = .slice A m c) : VR s n w S (.own i) (.slice A m c)
  | ptr {i off b} (hi : i < n) (h : s i = .pointer (some ⟨b, 0, none⟩)) : VR s n w S (.ptr i off) (.pointer (some ⟨b, off, none⟩))
  | eptr {i k sz off b m c} (hi : i < n) (h : s i = .slice (some ⟨b, 0, none⟩) m c) : VR s n w S (.eptr i k sz off) (.pointer (some ⟨b, k * sz + off, none⟩))
  | sub {i o sz len A c'} (hi : i < n) (hc : len ≤ c') (hA : 0 < len → ∃ (b m c : Nat), s i = .slice (some ⟨b, 0, none⟩) m c ∧ o + len ≤ m ∧ A = some ⟨b, o * sz, none⟩) : VR s n w S (.sub i o sz len) (.slice A len c')
  | rptr {cs : List PV} {off b o : Nat} (u : Nat → Value) (h : ∀ (j : Nat) (p : PV), cs[j]? = some p → S b (o + j) ∧ w.cell? ⟨b, o + j, none⟩ = some (u j) ∧ Rep w S (u j) p) :
      VR s n w S (.rptr cs off) (.pointer (some ⟨b, o + off, none⟩))
  | map {i b} (hi : i < n) (h : s i = .map (some b)) : VR s n w S (.map i) (.map (some b))
  | agg {cs : List AV} {vs : List Value} (hl : vs.length = cs.length) (h : ∀ (j : Nat) (c : AV) (v : Value), cs[j]? = some c → vs[j]? = some v → VR s n w S c v) : VR s n w S (.agg cs) (.agg vs.toArray)
  | tup {cs : List AV} {vs : List Value} (hl : vs.length = cs.length) (h : ∀ (j : Nat) (c : AV) (v : Value), cs[j]? = some c → vs[j]? = some v → VR s n w S c v) : VR s n w S (.tup cs) (.tuple vs.toArray)

theorem VR.mono {s s' : Nat → Value} {n n' : Nat} {w w' : World} {S S' : Cells} (hn : n ≤ n') (hs : ∀ i, i < n → s' i = s i) (hS : ∀ b o, S b o → S' b o)
    (hw : ∀ b o, S b o → w'.cell? ⟨b, o, none⟩ = w.cell? ⟨b, o, none⟩) {a : AV} {v : Value} (h : VR s n w S a v) : VR s' n' w' S' a v := by
  induction h with
  | pv h => exact .pv (h.mono hS hw)
  | nil => exact .nil
  | own hi h => exact .own (by omega) ((hs _ hi).trans h)
  | ptr hi h => exact .ptr (by omega) ((hs _ hi).trans h)
  | eptr hi h => exact .eptr (by omega) ((hs _ hi).trans h)
  | sub hi hc hA => exact .sub (by omega) hc (fun h => let ⟨b, m, c, h1, h2, h3⟩ := hA h; ⟨b, m, c, (hs _ hi).trans h1, h2, h3⟩)
  | rptr u h => exact .rptr u fun j p hj => ⟨hS _ _ (h j p hj).1, (hw _ _ (h j p hj).1).trans (h j p hj).2.1, (h j p hj).2.2.mono hS hw⟩
  | map hi h => exact .map (by omega) ((hs _ hi).trans h)
  | agg hl h ih => exact .agg hl ih
  | tup hl h ih => exact .tup hl ih

def isCell : AV → Bool
  | .agg _ | .tup _ => false
  | _ => true
theorem VR.oneCell {s : Nat → Value} {n : Nat} {w : World} {S : Cells} {a : AV} {v : Value} (h : VR s n w S a v) (hc : isCell a = true) : v.oneCell' = true := by
  cases h <;> first | rfl | (simp [isCell] at hc; done) | exact Rep.oneCell ‹_›

/-! ### Objects -/
def blk : Value → Option Nat
  | .pointer (some a) => some a.block
  | .slice (some a) _ _ => some a.block
  | .map (some b) => some b
  | _ => none

/-- A map's entries. -/
def EntR (w : World) (S : Cells) (kk : KK) {ν : Type} (ev : ν → List PV) (e : MapEntry) (kv : kk.T × ν) : Prop :=
  e.key = kk.val kv.1 ∧ ∃ vs : List Value, vs.length = (ev kv.2).length ∧ (e.val = .agg vs.toArray ∧ vs.length ≠ 1 ∨ vs = [e.val]) ∧ ∀ (j : Nat) (p : PV), (ev kv.2)[j]? = some p → ∃ v : Value, vs[j]? = some v ∧ Rep w S v p

def OR (s : Nat → Value) (n : Nat) (w : World) (S : Cells) (i : Nat) : AObj → Prop
  | .dead => True
  | .box cs => ∃ (b : Nat) (t : TypeId) (vs : List Value), s i = .pointer (some ⟨b, 0, none⟩) ∧ w.heap[b]? = some (.cells (List.toArray vs) t (0, 0)) ∧ vs.length = cs.length ∧
      (∀ (j : Nat) (c : AV) (v : Value), cs[j]? = some c → vs[j]? = some v → VR s n w S c v) ∧ ∀ o, ¬ S b o
  | .row ro e sz _ enc d xs => ∃ cs : List Value, w.ownsRow 0 e sz (s i) xs.length cs ∧ 0 < sz ∧ (∀ k, k < xs.length → (enc (xs.getD k d)).length = sz) ∧
      (∀ (k j : Nat) (p : PV), k < xs.length → (enc (xs.getD k d))[j]? = some p → ∃ v : Value, cs[k * sz + j]? = some v ∧ Rep w S v p) ∧
      (∀ b o, blk (s i) = some b → S b o → ro = true ∧ o < xs.length * sz)
  | .pin v a => s i = .bool false ∧ VR s n w S a v
  | .map kk ν ev kvs => ∃ (b : Nat) (es : Array MapEntry) (clock : Nat), s i = .map (some b) ∧ w.heap[b]? = some (.map es clock) ∧ es.size = kvs.length ∧
      (∀ (j : Nat) (e : MapEntry) (kv : kk.T × ν), es[j]? = some e → kvs[j]? = some kv → EntR w S kk ev e kv) ∧ (∀ e : MapEntry, e ∈ es → e.born < clock) ∧ (∀ (j k : Nat) (e e' : MapEntry), es[j]? = some e → es[k]? = some e' → e.born = e'.born → j = k) ∧ ∀ o, ¬ S b o

/-- The block of a numbered thing, if it has one, is there. -/
theorem OR.lt {s : Nat → Value} {n : Nat} {w : World} {S : Cells} {i : Nat} {o : AObj} (h : OR s n w S i o) (ho : o ≠ .dead) {b : Nat} (hb : blk (s i) = some b) : b < w.heap.size := by
  cases o with
  | dead => exact absurd rfl ho
  | box cs =>
    obtain ⟨b', t, vs, h1, h2, _⟩ := h
    rw [h1] at hb
    cases hb
    exact (Array.getElem?_eq_some_iff.1 h2).1
  | row ro e sz α enc d xs =>
    obtain ⟨cs, h1, _⟩ := h
    rcases h1.2 with ⟨h2, _⟩ | ⟨g, cap, cur, h2, _, h3, _⟩
    · rw [h2] at hb; cases hb
    · rw [h2] at hb; cases hb
      exact (Array.getElem?_eq_some_iff.1 h3).1
  | pin v a =>
    rw [h.1] at hb
    cases hb
  | map kk ν ev kvs =>
    obtain ⟨b', es, clock, h1, h2, _⟩ := h
    rw [h1] at hb
    cases hb
    exact (Array.getElem?_eq_some_iff.1 h2).1

theorem EntR.mono {w w' : World} {S S' : Cells} (hS : ∀ b o, S b o → S' b o) (hw : ∀ b o, S b o → w'.cell? ⟨b, o, none⟩ = w.cell? ⟨b, o, none⟩) {kk : KK} {ν : Type} {ev : ν → List PV} {e : MapEntry} {kv : kk.T × ν}
    (h : EntR w S kk ev e kv) : EntR w' S' kk ev e kv := by
  obtain ⟨h1, vs, h2, h3, h4⟩ := h
  exact ⟨h1, vs, h2, h3, fun j p hj => let ⟨v, a, r⟩ := h4 j p hj; ⟨v, a, r.mono hS hw⟩⟩

/-- A thing whose block has not turned. -/
theorem OR.mono {s s' : Nat → Value} {n n' : Nat} {w w' : World} {S : Cells} (hn : n ≤ n') (hs : ∀ i, i < n → s' i = s i)
    (hw : ∀ b o, S b o → w'.cell? ⟨b, o, none⟩ = w.cell? ⟨b, o, none⟩) {i : Nat} {o : AObj} (hi : i < n) (hb : ∀ b, blk (s i) = some b → w'.heap[b]? = w.heap[b]?) (h : OR s n w S i o) : OR s' n' w' S i o := by
  cases o with
  | dead => exact True.intro
  | box cs =>
    obtain ⟨b, t, vs, h1, h2, h3, h4, h5⟩ := h
    exact ⟨b, t, vs, (hs i hi).trans h1, (hb b (by rw [h1]; rfl)).trans h2, h3, fun j c v hc hv => (h4 j c v hc hv).mono hn hs (fun _ _ h => h) hw, h5⟩
  | row ro e sz α enc d xs =>
    obtain ⟨cs, h1, h0, h2, h3, h4⟩ := h
    refine ⟨cs, ?_, h0, h2, fun k j p hk hp => let ⟨v, a, r⟩ := h3 k j p hk hp; ⟨v, a, r.mono (fun _ _ h => h) hw⟩, by rw [hs i hi]; exact h4⟩
    rw [hs i hi]
    refine ⟨h1.1, ?_⟩
    rcases h1.2 with h2 | ⟨g, cap, cur, e1, e2, e3, e4⟩
    · exact .inl h2
    · exact .inr ⟨g, cap, cur, e1, e2, (hb g (by rw [e1]; rfl)).trans e3, e4⟩
  | pin v a => exact ⟨(hs i hi).trans h.1, h.2.mono hn hs (fun _ _ h => h) hw⟩
  | map kk ν ev kvs =>
    obtain ⟨b, es, clock, h1, h2, h3, h4, h5, h6, h7⟩ := h
    exact ⟨b, es, clock, (hs i hi).trans h1, (hb b (by rw [h1]; rfl)).trans h2, h3, fun j e kv he hk => (h4 j e kv he hk).mono (fun _ _ h => h) hw, h5, h6, h7⟩

def live (H : Heap) (i : Nat) : Prop := ∃ o, H[i]? = some o ∧ o ≠ .dead

/-- THE STATE: slots, things, cells that nobody writes; w0: the world at the call; F: blocks of w0 that the call may write. -/
structure Conc (w0 : World) (F : Nat → Prop) (S0 : Cells) (s : Nat → Value) (S : Cells) (E : Env) (H : Heap) (tm : Array Value) (w : World) : Prop where
  slots : ∀ t a, E.get t = some a → ∃ v, tm[t]? = some v ∧ VR s H.length w S a v
  objs : ∀ i o, H[i]? = some o → OR s H.length w S i o
  apart : ∀ i j b, live H i → live H j → blk (s i) = some b → blk (s j) = some b → i = j
  mine : ∀ i b, live H i → blk (s i) = some b → F b ∨ w0.heap.size ≤ b
  lt : ∀ b o, S b o → b < w.heap.size
  sub : ∀ b o, S0 b o → S b o
  new : ∀ b o, S b o → S0 b o ∨ F b ∨ w0.heap.size ≤ b
  keep : ∀ b, b < w0.heap.size → ¬ F b → w.heap[b]? = w0.heap[b]?
  imm : ∀ b o, S0 b o → w.cell? ⟨b, o, none⟩ = w0.cell? ⟨b, o, none⟩
  grow : w0.heap.size ≤ w.heap.size
  os : w.os = w0.os
  tape : w.tape = w0.tape
  output : w.output = w0.output

section
variable {w0 w w' : World} {F : Nat → Prop} {S0 S : Cells} {s s' : Nat → Value} {E : Env} {H H' : Heap} {tm : Array Value}

/-- Cells that nobody writes, over a step that turns one row, of which they are told, and makes new blocks. -/
theorem Conc.stay (C : Conc w0 F S0 s S E H tm w) {row : Option Nat} (hg : w.grownBy w' row) (hrow : ∀ b o, row = some b → S b o → w'.cell? ⟨b, o, none⟩ = w.cell? ⟨b, o, none⟩) :
    ∀ b o, S b o → w'.cell? ⟨b, o, none⟩ = w.cell? ⟨b, o, none⟩ := by
  intro b o hb
  by_cases h : row = some b
  · exact hrow b o h hb
  · have := hg.block b (C.lt b o hb) (fun e => h e.symm)
    simp [World.cell?, this]

/-- A STEP: one row turns (or none), new blocks are made; of each thing is told what has become of it. -/
theorem Conc.step (C : Conc w0 F S0 s S E H tm w) (row : Option Nat) (hg : w.grownBy w' row)
    (hrow : ∀ b o, row = some b → S b o → w'.cell? ⟨b, o, none⟩ = w.cell? ⟨b, o, none⟩)
    (hF : ∀ b, row = some b → F b ∨ w0.heap.size ≤ b)
    (hs : ∀ i, i < H.length → s' i = s i) (hl : H.length ≤ H'.length)
    (hold : ∀ i o, i < H.length → H'[i]? = some o → o = .dead ∨ (H[i]? = some o ∧ ∀ b, blk (s i) = some b → row ≠ some b) ∨ (live H i ∧ OR s' H'.length w' S i o))
    (hnew : ∀ i o, H.length ≤ i → H'[i]? = some o → OR s' H'.length w' S i o ∧ ∀ b, blk (s' i) = some b → w.heap.size ≤ b ∨ row = some b)
    (hap : ∀ i j b, i < j → live H' i → live H' j → blk (s' i) = some b → blk (s' j) = some b → H.length ≤ j → False) :
    Conc w0 F S0 s' S E H' tm w' := by
  have hstay := C.stay hg hrow
  have hlive : ∀ i, i < H.length → live H' i → live H i := by
    rintro i hi ⟨o, ho, hd⟩
    rcases hold i o hi ho with h | ⟨h, _⟩ | ⟨h, _⟩
    · exact absurd h hd
    · exact ⟨o, h, hd⟩
    · exact h
  have hlen : ∀ i, live H' i → i < H'.length := fun i ⟨o, ho, _⟩ => (List.getElem?_eq_some_iff.1 ho).1
  have hap' : ∀ i j b, i < j → live H' i → live H' j → blk (s' i) = some b → blk (s' j) = some b → False := by
    intro i j b hij hi hj bi bj
    by_cases hj' : H.length ≤ j
    · exact hap i j b hij hi hj bi bj hj'
    · have h1 : i < H.length := by omega
      have h2 : j < H.length := by omega
      rw [hs i h1] at bi
      rw [hs j h2] at bj
      have := C.apart i j b (hlive i h1 hi) (hlive j h2 hj) bi bj
      omega
  refine ⟨?_, ?_, ?_, ?_, ?_, C.sub, C.new, ?_, ?_, Nat.le_trans C.grow hg.size, hg.os.trans C.os, hg.tape.trans C.tape, hg.output.trans C.output⟩
  · intro t a ha
    obtain ⟨v, hv, hr⟩ := C.slots t a ha
    exact ⟨v, hv, hr.mono hl hs (fun _ _ h => h) hstay⟩
  · intro i o ho
    by_cases hi : i < H.length
    · rcases hold i o hi ho with rfl | ⟨h1, h2⟩ | ⟨_, h⟩
      · exact True.intro
      · by_cases hd : o = .dead
        · subst hd; exact True.intro
        · exact (C.objs i o h1).mono hl hs hstay hi fun b hb => hg.block b ((C.objs i o h1).lt hd hb) (fun e => h2 b hb e.symm)
      · exact h
    · exact (hnew i o (by omega) ho).1
  · intro i j b hi hj bi bj
    rcases Nat.lt_trichotomy i j with h | h | h
    · exact (hap' i j b h hi hj bi bj).elim
    · exact h
    · exact (hap' j i b h hj hi bj bi).elim
  · intro i b hi hb
    by_cases hlt : i < H.length
    · rw [hs i hlt] at hb
      exact C.mine i b (hlive i hlt hi) hb
    · obtain ⟨o, ho, hd⟩ := hi
      rcases (hnew i o (by omega) ho).2 b hb with h | h
      · have := C.grow
        exact .inr (by omega)
      · exact hF b h
  · intro b o hb
    exact Nat.lt_of_lt_of_le (C.lt b o hb) hg.size
  · intro b hb hf
    rw [← C.keep b hb hf]
    refine hg.block b (Nat.lt_of_lt_of_le hb C.grow) fun e => ?_
    rcases hF b e.symm with h | h
    · exact hf h
    · omega
  · intro b o hb
    exact (hstay b o (C.sub b o hb)).trans (C.imm b o hb)
end

end Go.Vx

namespace Go.Vx

/-! ### What is told of types -/
inductive TK where
  | int (k : IntKind)
  | bool
  | string
  | slice (e : TypeId)
  | struct (fs : List (Nat × TypeId))
  | array (n : Nat) (e : TypeId)
  | map (k e : TypeId)
  | other

def isAggK : TK → Bool
  | .struct _ | .array _ _ => true
  | _ => false

structure TI : Type 1 where
  kind : TK
  size : Nat
  bytes : Nat
  zero : List AV
  el : Bool := false
  α : Type := Unit
  enc : α → List PV
  d : α

abbrev Tab := List (Nat × TI)
def Tab.get (T : Tab) (t : TypeId) : Option TI :=
  match T with
  | [] => none
  | (s, i) :: r => if t = s then some i else Tab.get r t

def constCell : Value → AV
  | .slice none 0 0 => .nil
  | v => .pv (.lit v)

def TK.fits : TK → TypeDesc → Prop
  | .int k, d => d = .int k
  | .bool, d => d = .bool
  | .string, d => d = .string
  | .slice e, d => d = .slice e
  | .struct fs, d => ∃ fields : Array Field, d = .struct fields ∧ fields.toList.map (fun f => (f.offset, f.type)) = fs
  | .array n e, d => d = .array n e
  | .map k e, d => d = .map k e
  | .other, d => match d with
    | .struct _ | .array _ _ => False
    | _ => True

structure TOk (P : Program) (t : TypeId) (i : TI) : Prop where
  uni : i.el = true → 0 < i.size ∧ 0 < i.bytes ∧ ∀ x, (i.enc x).length = i.size
  und : ∃ d, P.underlying t = some d ∧ i.kind.fits d
  info : ∃ inf z, P.info? t = some inf ∧ inf.size = i.size ∧ inf.bytes = i.bytes ∧ inf.zero = some z ∧ z.cells.toList.map constCell = i.zero ∧ z.cells.toList.all (·.oneCell') = true ∧ z.cells.size = i.size ∧ z.oneCell' = !isAggK i.kind

def TabOk (P : Program) (T : Tab) : Prop := ∀ t i, T.get t = some i → TOk P t i

theorem TabOk.nil (P : Program) : TabOk P [] := fun t i h => by cases h
theorem TabOk.cons {P : Program} {t : TypeId} {i : TI} {T : Tab} (h : TOk P t i) (hT : TabOk P T) : TabOk P ((t, i) :: T) := by
  intro u j hj
  unfold Tab.get at hj
  split at hj
  · rename_i e; subst e; cases hj; exact h
  · exact hT u j hj

/-! ### Operands -/
def constV : Value → Option AV
  | .slice none 0 0 => some .nil
  | .agg cs => if cs.toList.all (·.oneCell') then some (.agg (cs.toList.map constCell)) else none
  | .tuple _ => none
  | v => some (.pv (.lit v))

def ev (E : Env) : Operand → Option AV
  | .tmp t => E.get t
  | .const v => constV v
  | .global g => some (.pv (.lit (.pointer (some ⟨g, 0, none⟩))))
  | .func f => some (.pv (.lit (.func (.func f) #[] #[])))

theorem VR.constCell {s : Nat → Value} {n : Nat} {w : World} {S : Cells} (v : Value) (h : v.oneCell' = true) : VR s n w S (constCell v) v := by
  unfold Vx.constCell
  split
  · exact .nil
  · exact .pv (.lit _ h)

theorem VR.constV {s : Nat → Value} {n : Nat} {w : World} {S : Cells} {v : Value} {a : AV} (h : constV v = some a) : VR s n w S a v := by
  unfold Vx.constV at h
  split at h
  · cases h; exact .nil
  · rename_i cs
    split at h
    · rename_i hc
      cases h
      have := VR.agg (s := s) (n := n) (w := w) (S := S) (cs := cs.toList.map Vx.constCell) (vs := cs.toList) (by simp) (by
        intro j c v hj hv
        rw [List.getElem?_map, hv] at hj
        cases hj
        exact VR.constCell v (List.all_eq_true.1 hc v (List.mem_of_getElem? hv)))
      simpa using this
    · cases h
  · cases h
  · rename_i h1 h2 h3
    cases h
    refine .pv (.lit _ ?_)
    cases v <;> first | rfl | exact absurd rfl (h2 _) | exact absurd rfl (h3 _)

theorem Conc.ev {w0 w : World} {F : Nat → Prop} {S0 S : Cells} {s : Nat → Value} {E : Env} {H : Heap} {a : Act} (C : Conc w0 F S0 s S E H a.tmps w) {x : Operand} {v : AV} (h : Vx.ev E x = some v) :
    VR s H.length w S v (a.eval x) := by
  cases x with
  | tmp t =>
    obtain ⟨u, hu, hr⟩ := C.slots t v h
    have : a.eval (.tmp t) = u := by simp [Act.eval, hu]
    rw [this]; exact hr
  | const c => exact VR.constV h
  | global g => cases h; exact .pv (.lit _ rfl)
  | func f => cases h; exact .pv (.lit _ rfl)

/-! ### Scalars -/
def lt' (k : IntKind) (n : Int) : AV := .pv (.lit (.int k n))
def lb (b : Bool) : AV := .pv (.lit (.bool b))

/-- Are two strings the same? -/
def strEq (x y : ByteArray) : Bool := x.toList == y.toList
theorem toList_loop (s : ByteArray) : ∀ (n i : Nat) (r : List UInt8), s.size - i = n → ByteArray.toList.loop s i r = r.reverse ++ s.data.toList.drop i := by
  intro n
  induction n with
  | zero =>
    intro i r h
    rw [ByteArray.toList.loop]
    have h1 : ¬ i < s.size := by omega
    have h2 : s.data.toList.drop i = [] := List.drop_eq_nil_of_le (by simp only [Array.length_toList]; exact Nat.le_of_not_lt h1)
    rw [if_neg h1, h2, List.append_nil]
  | succ n ih =>
    intro i r h
    rw [ByteArray.toList.loop]
    have h1 : i < s.size := by omega
    rw [if_pos h1, ih (i + 1) _ (by omega), List.reverse_cons, List.append_assoc]
    have h2 : i < s.data.toList.length := by simpa using h1
    rw [List.drop_eq_getElem_cons h2]
    simp only [ByteArray.get!, List.cons_append, List.nil_append]
    have h3 : i < s.data.size := h1
    simp [Array.getElem!_eq_getD]
    rw [Array.getElem?_eq_getElem h3]; rfl
theorem toList_eq (s : ByteArray) : s.toList = s.data.toList := by
  rw [ByteArray.toList, toList_loop s (s.size - 0) 0 [] rfl]; rfl
theorem strEq_iff {x y : ByteArray} : strEq x y = true ↔ x = y := by
  unfold strEq
  rw [toList_eq, toList_eq, beq_iff_eq]
  constructor
  · intro h
    cases x; cases y
    exact congrArg ByteArray.mk (Array.ext' h)
  · intro h; rw [h]
theorem strEq_not {x y : ByteArray} : strEq x y = false ↔ x ≠ y := by rw [← Bool.not_eq_true, Ne, strEq_iff]
theorem strEq_self (x : ByteArray) : strEq x x = true := strEq_iff.2 rfl

/-- An operation on two scalars: what must hold (if anything), and what comes. -/
def binV (op : BinOp) (a b : Value) : Option (Option Prop × Value) :=
  match a, b with
  | .int k x, .int k' y =>
    match op with
    | .shl => some (some (0 ≤ y), .int k (k.wrap (x * 2 ^ (min y.toNat k.bits))))
    | .shr => some (some (0 ≤ y), .int k (x.fdiv (2 ^ (min y.toNat k.bits))))
    | _ =>
      if k = k' then
        match op with
        | .add => some (none, .int k (k.wrap (x + y)))
        | .sub => some (none, .int k (k.wrap (x - y)))
        | .mul => some (none, .int k (k.wrap (x * y)))
        | .quo => some (some (y ≠ 0), .int k (k.wrap (x.tdiv y)))
        | .rem => some (some (y ≠ 0), .int k (x.tmod y))
        | .and => some (none, .int k (k.wrap ((BitVec.ofInt k.bits x &&& BitVec.ofInt k.bits y).toNat)))
        | .or => some (none, .int k (k.wrap ((BitVec.ofInt k.bits x ||| BitVec.ofInt k.bits y).toNat)))
        | .xor => some (none, .int k (k.wrap ((BitVec.ofInt k.bits x ^^^ BitVec.ofInt k.bits y).toNat)))
        | .eql => some (none, .bool (x == y))
        | .neq => some (none, .bool (x != y))
        | .lss => some (none, .bool (decide (x < y)))
        | .leq => some (none, .bool (decide (x ≤ y)))
        | .gtr => some (none, .bool (decide (x > y)))
        | .geq => some (none, .bool (decide (x ≥ y)))
        | _ => none
      else none
  | .string x, .string y =>
    match op with
    | .add => some (some (x.size + y.size ≤ 9223372036854775807), .string (x ++ y))
    | .eql => some (none, .bool (strEq x y))
    | .neq => some (none, .bool (!strEq x y))
    | .lss => some (none, .bool (Op.bytesLess x.toList y.toList))
    | .gtr => some (none, .bool (!(Op.bytesLess x.toList y.toList || x.toList == y.toList)))
    | .leq => some (none, .bool (Op.bytesLess x.toList y.toList || x.toList == y.toList))
    | .geq => some (none, .bool (!(Op.bytesLess x.toList y.toList)))
    | _ => none
  | _, _ => none

def under (c : Option Prop) (K : Prop) : Prop :=
  match c with
  | none => K
  | some p => p ∧ K

theorem run_binV {P : Program} {w : World} {op : BinOp} {t : TypeId} {a b : Value} {c : Option Prop} {v : Value} (h : binV op a b = some (c, v)) (hc : ∀ p, c = some p → p) :
    (binOp op t a b).run P w = .ok v w ∧ v.oneCell' = true := by
  unfold binV at h
  split at h
  · rename_i k x k' y
    split at h
    · cases h
      have := hc _ rfl
      have h' : ¬ y < 0 := by omega
      exact ⟨by simp [binOp, Op.shift, h'], rfl⟩
    · cases h
      have := hc _ rfl
      have h' : ¬ y < 0 := by omega
      exact ⟨by simp [binOp, Op.shift, h'], rfl⟩
    · split at h
      · rename_i hk
        subst hk
        split at h <;> first
          | (cases h; refine ⟨?_, rfl⟩; first
              | (simp [binOp, Op.intArith, Op.intBits, Op.intCmp]; done)
              | (have h0 : ¬ y = 0 := hc _ rfl; simp [binOp, Op.intDiv, h0]; done))
          | cases h
      · cases h
  · rename_i x y
    split at h <;> first
      | (cases h; refine ⟨?_, rfl⟩; first
          | (simp [binOp, Op.stringOp, strEq]; done)
          | (have h0 : x.size + y.size ≤ 9223372036854775807 := hc _ rfl
             have h1 : ¬ (((x.size + y.size : Nat) : Int) > IntKind.i64.max) := by simp [IntKind.max, IntKind.signed, IntKind.bits]; omega
             simp only [binOp, Op.stringOp, if_neg h1]; rfl))
      | cases h
  · cases h

end Go.Vx

namespace Go.Vx

/-! ### Lists of cells -/
def cellsOf : AV → List AV
  | .agg cs => cs
  | v => [v]

def setRange {α : Type _} (cs : List α) (off : Nat) (vs : List α) : List α := cs.take off ++ vs ++ cs.drop (off + vs.length)

theorem setRange_length {α : Type _} {cs vs : List α} {off : Nat} (h : off + vs.length ≤ cs.length) : (setRange cs off vs).length = cs.length := by
  simp [setRange]; omega

theorem getElem?_setRange {α : Type _} {cs vs : List α} {off : Nat} (h : off + vs.length ≤ cs.length) (j : Nat) :
    (setRange cs off vs)[j]? = if j < off then cs[j]? else if j < off + vs.length then vs[j - off]? else cs[j]? := by
  unfold setRange
  split
  · rename_i hj
    rw [List.append_assoc, List.getElem?_append_left (by simp; omega), List.getElem?_take, if_pos hj]
  · rename_i hj
    split
    · rename_i hk
      rw [List.getElem?_append_left (by simp; omega), List.getElem?_append_right (by simp; omega)]
      simp
      congr 1
      omega
    · rename_i hk
      rw [List.getElem?_append_right (by simp; omega), List.getElem?_drop]
      simp
      congr 1
      omega

theorem foldl_set {vs : List Value} : ∀ (cs : Array Value) (off k : Nat), off + k + vs.length ≤ cs.size →
    ((vs.zipIdx k).foldl (fun (a : Array Value) (x : Value × Nat) => a.setIfInBounds (off + x.2) x.1) cs).toList = setRange cs.toList (off + k) vs := by
  induction vs with
  | nil => intro cs off k h; simp [setRange]
  | cons v vs ih =>
    intro cs off k h
    simp only [List.length_cons] at h
    rw [List.zipIdx_cons, List.foldl_cons, ih _ _ _ (by simp; omega)]
    apply List.ext_getElem?
    intro j
    rw [getElem?_setRange (by simp; omega), getElem?_setRange (by simp; omega)]
    simp only [Array.toList_setIfInBounds, List.length_cons]
    by_cases h1 : j < off + k
    · simp [h1, show j < off + (k + 1) by omega, show off + k ≠ j by omega]
    · by_cases h2 : j = off + k
      · subst h2
        simp [show off + k < off + (k + 1) by omega, List.getElem?_set]
        omega
      · by_cases h3 : j < off + (k + 1) + vs.length
        · simp [h1, show ¬ j < off + (k + 1) by omega, h3, show j < off + k + (vs.length + 1) by omega]
          obtain ⟨m, rfl⟩ : ∃ m, j = off + (k + 1) + m := ⟨j - (off + (k + 1)), by omega⟩
          simp [show off + (k + 1) + m - (off + k) = m + 1 by omega]
        · simp [h1, show ¬ j < off + (k + 1) by omega, h3, show ¬ j < off + k + (vs.length + 1) by omega, show off + k ≠ j by omega]

/-- Values stand for what is told of them, place by place. -/
def AllR (s : Nat → Value) (n : Nat) (w : World) (S : Cells) (cs : List AV) (vs : List Value) : Prop :=
  vs.length = cs.length ∧ ∀ (j : Nat) (c : AV) (v : Value), cs[j]? = some c → vs[j]? = some v → VR s n w S c v

section
variable {s : Nat → Value} {n : Nat} {w : World} {S : Cells}

theorem AllR.nil : AllR s n w S [] [] := ⟨rfl, fun j c v h => by simp at h⟩
theorem AllR.cons {c : AV} {cs : List AV} {v : Value} {vs : List Value} (h : VR s n w S c v) (hs : AllR s n w S cs vs) : AllR s n w S (c :: cs) (v :: vs) := by
  refine ⟨by simp [hs.1], fun j d u hd hu => ?_⟩
  cases j with
  | zero => simp at hd hu; subst hd; subst hu; exact h
  | succ j => exact hs.2 j d u (by simpa using hd) (by simpa using hu)
theorem AllR.inv {c : AV} {cs : List AV} {vs : List Value} (h : AllR s n w S (c :: cs) vs) : ∃ v vs', vs = v :: vs' ∧ VR s n w S c v ∧ AllR s n w S cs vs' := by
  cases vs with
  | nil => have := h.1; simp at this
  | cons v vs => exact ⟨v, vs, rfl, h.2 0 c v rfl rfl, by have := h.1; simpa using this, fun j d u hd hu => h.2 (j + 1) d u (by simpa using hd) (by simpa using hu)⟩
theorem AllR.inv0 {vs : List Value} (h : AllR s n w S [] vs) : vs = [] := List.eq_nil_of_length_eq_zero h.1
theorem AllR.at_ {cs : List AV} {vs : List Value} (h : AllR s n w S cs vs) {j : Nat} {c : AV} (hc : cs[j]? = some c) : ∃ v, vs[j]? = some v ∧ VR s n w S c v := by
  have hj := (List.getElem?_eq_some_iff.1 hc).1
  have : vs[j]? = some (vs[j]'(by rw [h.1]; exact hj)) := List.getElem?_eq_getElem _
  exact ⟨_, this, h.2 j c _ hc this⟩
theorem AllR.set_ {cs ds : List AV} {vs us : List Value} (h : AllR s n w S cs vs) (g : AllR s n w S ds us) {off : Nat} (hl : off + ds.length ≤ cs.length) : AllR s n w S (setRange cs off ds) (setRange vs off us) := by
  have hl' : off + us.length ≤ vs.length := by rw [g.1, h.1]; exact hl
  refine ⟨by rw [setRange_length hl', setRange_length hl, h.1], fun j c v hc hv => ?_⟩
  rw [getElem?_setRange hl] at hc
  rw [getElem?_setRange hl', g.1] at hv
  by_cases h1 : j < off
  · rw [if_pos h1] at hc hv; exact h.2 _ _ _ hc hv
  · rw [if_neg h1] at hc hv
    by_cases h2 : j < off + ds.length
    · rw [if_pos h2] at hc hv; exact g.2 _ _ _ hc hv
    · rw [if_neg h2] at hc hv; exact h.2 _ _ _ hc hv
theorem AllR.sub {cs : List AV} {vs : List Value} (h : AllR s n w S cs vs) (o k : Nat) : AllR s n w S ((cs.drop o).take k) ((vs.drop o).take k) := by
  refine ⟨by simp [h.1], fun j c v hc hv => ?_⟩
  rw [List.getElem?_take] at hc hv
  split at hc
  · rename_i hj
    rw [if_pos hj] at hv
    rw [List.getElem?_drop] at hc hv
    exact h.2 _ _ _ hc hv
  · cases hc
theorem AllR.mono {s' : Nat → Value} {n' : Nat} {w' : World} {S' : Cells} (hn : n ≤ n') (hs : ∀ i, i < n → s' i = s i) (hS : ∀ b o, S b o → S' b o)
    (hw : ∀ b o, S b o → w'.cell? ⟨b, o, none⟩ = w.cell? ⟨b, o, none⟩) {cs : List AV} {vs : List Value} (h : AllR s n w S cs vs) : AllR s' n' w' S' cs vs :=
  ⟨h.1, fun j c v hc hv => (h.2 j c v hc hv).mono hn hs hS hw⟩
theorem AllR.const {vs : List Value} (h : vs.all (·.oneCell') = true) : AllR s n w S (vs.map constCell) vs := by
  refine ⟨by simp, fun j c v hc hv => ?_⟩
  rw [List.getElem?_map, hv] at hc
  cases hc
  exact VR.constCell v (List.all_eq_true.1 h v (List.mem_of_getElem? hv))

/-- A value's cells. -/
theorem VR.cells {a : AV} {v : Value} (h : VR s n w S a v) (ht : ∀ vs, a ≠ .tup vs) : AllR s n w S (cellsOf a) v.cells.toList := by
  have one : ∀ {a : AV} {v : Value}, VR s n w S a v → v.cells = #[v] → cellsOf a = [a] → AllR s n w S (cellsOf a) v.cells.toList := by
    intro a v h e1 e2
    rw [e1, e2]
    exact AllR.cons h AllR.nil
  cases h with
  | agg hl h => exact ⟨hl, h⟩
  | tup hl h => exact absurd rfl (ht _)
  | pv h =>
    refine one (.pv h) ?_ rfl
    have h1 : v.oneCell' = true := h.oneCell
    cases v <;> first | rfl | (simp [Value.oneCell'] at h1)
  | nil => exact one .nil rfl rfl
  | own a b => exact one (.own a b) rfl rfl
  | ptr a b => exact one (.ptr a b) rfl rfl
  | eptr a b => exact one (.eptr a b) rfl rfl
  | sub a b c => exact one (.sub a b c) rfl rfl
  | rptr u h => exact one (.rptr u h) rfl rfl
  | map a b => exact one (.map a b) rfl rfl

theorem VR.isCells {a : AV} {v : Value} (h : VR s n w S a v) (hc : (cellsOf a).all isCell = true) : v.cells.toList.all (·.oneCell') = true := by
  have ht : ∀ vs, a ≠ .tup vs := by rintro vs rfl; simp [cellsOf, isCell] at hc
  have hr := h.cells ht
  rw [List.all_eq_true] at hc ⊢
  intro u hu
  obtain ⟨j, hj⟩ := List.getElem?_of_mem hu
  obtain ⟨c, hcj⟩ : ∃ c, (cellsOf a)[j]? = some c := ⟨(cellsOf a)[j]'(by rw [← hr.1]; exact (List.getElem?_eq_some_iff.1 hj).1), List.getElem?_eq_getElem _⟩
  exact (hr.2 j c u hcj hj).oneCell (hc c (List.mem_of_getElem? hcj))
end

/-! ### Parts of a literal -/
def fillParts (place : Nat → Option (Nat × Nat)) (cs : List AV) : List (Nat × AV) → Option (List AV)
  | [] => some cs
  | (i, v) :: rest =>
    match place i with
    | none => none
    | some (off, size) => if (cellsOf v).length = size ∧ off + size ≤ cs.length then fillParts place (setRange cs off (cellsOf v)) rest else none

theorem fill_parts {s : Nat → Value} {n : Nat} {w : World} {S : Cells} {place : Nat → Option (Nat × Nat)} : ∀ (parts : List (Nat × AV)) (vals : List (Nat × Value)) (cs out : List AV) (vs : Array Value),
    parts.length = vals.length → (∀ (j i : Nat) (a : AV) (k : Nat) (v : Value), parts[j]? = some (i, a) → vals[j]? = some (k, v) → i = k ∧ VR s n w S a v ∧ ∀ us, a ≠ .tup us) → AllR s n w S cs vs.toList → fillParts place cs parts = some out →
    ∃ us, Instr.fill place vs vals = some us ∧ AllR s n w S out us.toList
  | [], [], cs, out, vs, _, _, hr, h => by cases h; exact ⟨vs, rfl, hr⟩
  | (i, a) :: parts, (k, v) :: vals, cs, out, vs, hl, hp, hr, h => by
    obtain ⟨e, hv, ht⟩ := hp 0 i a k v rfl rfl
    subst e
    unfold fillParts at h
    cases hpl : place i with
    | none => simp [hpl] at h
    | some q =>
      obtain ⟨off, size⟩ := q
      simp only [hpl] at h
      split at h
      · rename_i hc
        have hcs := hv.cells ht
        have hvs : vs.size = cs.length := by rw [← Array.length_toList]; exact hr.1
        have hc1 := hc.1
        have hc2 := hc.2
        have hsz : v.cells.size = size := by rw [← Array.length_toList, hcs.1]; exact hc.1
        have hfit : off + 0 + v.cells.toList.length ≤ vs.size := by rw [Array.length_toList]; omega
        have hf := foldl_set (vs := v.cells.toList) vs off 0 hfit
        have hvl : v.cells.toList.length = v.cells.size := Array.length_toList
        have hset : AllR s n w S (setRange cs off (cellsOf a)) ((v.cells.toList.zipIdx 0).foldl (fun (a : Array Value) (x : Value × Nat) => a.setIfInBounds (off + x.2) x.1) vs).toList := by
          rw [hf]
          exact hr.set_ hcs (by rw [hc.1]; exact hc.2)
        obtain ⟨us, h1, h2⟩ := fill_parts parts vals _ out _ (by simpa using hl) (fun j i' a' k' v' h1 h2 => hp (j + 1) i' a' k' v' (by simpa using h1) (by simpa using h2)) hset h
        refine ⟨us, ?_, h2⟩
        unfold Instr.fill
        simp only [hpl]
        rw [if_neg (by simp [hsz]; omega)]
        rw [← h1]
        congr 1
        rw [← Array.foldl_toList, Array.toList_zipIdx]
      · cases h
  | [], _ :: _, _, _, _, hl, _, _, _ => by simp at hl
  | _ :: _, [], _, _, _, hl, _, _, _ => by simp at hl

end Go.Vx

namespace Go.Vx
open Go.RowKit (Below)

/-! ### Pure readings of what the call holds -/
def FitP (H : Heap) (a : AV) (q : PV) : Prop :=
  match a with
  | .pv p => p = q
  | .nil => match q with
    | .sl _ _ _ _ xs => xs = []
    | _ => False
  | .own i => match H[i]? with
    | some (.row _ _ sz α enc d xs) => PV.sl sz α enc d xs = q
    | _ => False
  | .sub i o sz len => match H[i]? with
    | some (.row _ _ sz' α enc d xs) => sz' = sz ∧ o + len ≤ xs.length ∧ PV.sl sz' α enc d ((xs.drop o).take len) = q
    | _ => False
  | _ => False

def FitC (H : Heap) (a b : AV) : Prop :=
  match b with
  | .pv q => FitP H a q
  | .nil => match a with
    | .nil => True
    | _ => False
  | _ => False

/-- Told by the recursor, so that the elaborator and the kernel unfold it alike. -/
noncomputable def FitL (H : Heap) (as : List AV) : List AV → Prop :=
  List.rec (motive := fun _ => List AV → Prop) (fun bs => match bs with
    | [] => True
    | _ => False) (fun a _ ih bs => match bs with
    | b :: bs => FitC H a b ∧ ih bs
    | [] => False) as

noncomputable def FitA (H : Heap) (a b : AV) : Prop :=
  match b with
  | .agg bs => match a with
    | .agg as => FitL H as bs
    | _ => False
  | b => FitC H a b

noncomputable def FitAL (H : Heap) (as : List AV) : List AV → Prop :=
  List.rec (motive := fun _ => List AV → Prop) (fun bs => match bs with
    | [] => True
    | _ => False) (fun a _ ih bs => match bs with
    | b :: bs => FitA H a b ∧ ih bs
    | [] => False) as

def frz1 (H : Heap) (i : Nat) : Heap :=
  match H[i]? with
  | some (.row _ e sz α enc d xs) => H.set i (.row true e sz α enc d xs)
  | _ => H
def frzC (H : Heap) : AV → Heap
  | .own i => frz1 H i
  | .sub i _ _ _ => frz1 H i
  | _ => H
def frzL (H : Heap) : List AV → Heap
  | [] => H
  | a :: as => frzL (frzC H a) as
def frzA (H : Heap) : AV → Heap
  | .agg cs => frzL H cs
  | a => frzC H a
def frzAL (H : Heap) : List AV → Heap
  | [] => H
  | a :: as => frzAL (frzA H a) as

def flatC : AV → Bool
  | .pv (.lit _) => true
  | _ => false
def flat1 : AV → Bool
  | .agg cs => cs.all flatC
  | a => flatC a
def flatV : AV → Bool
  | .tup vs => vs.all flat1
  | a => flat1 a

def noS : Nat → Value := fun _ => undef

/-- A function that the translation has. -/
def isFn (P : Program) (f : FuncId) : Prop := ∃ fn, P.funcs[f]? = some fn ∧ (fn.name == "runtime.NumGoroutine") = false ∧ fn.body.isNone = false

/-- THE CONTRACT OF A PURE CALL: whatever values stand for these, in whatever world: it returns what stands for r; what was is as it was. -/
def PureCall (P : Program) (f : FuncId) (as : List AV) (r : AV) : Prop :=
  isFn P f ∧ ∀ (w : World) (S : Cells) (vs : List Value), (∀ b o, S b o → b < w.heap.size) → AllR noS 0 w S as vs →
    Calls P f vs.toArray w fun e w' => ∃ (v : Value) (S' : Cells), e = .returned v ∧ (∀ b o, S b o → S' b o) ∧ (∀ b o, S' b o → b < w'.heap.size) ∧ (∀ b o, S' b o → S b o ∨ w.heap.size ≤ b) ∧
      VR noS 0 w' S' r v ∧ Below w.heap.size w w'

section
variable {w0 w w' : World} {F : Nat → Prop} {S0 S : Cells} {s : Nat → Value} {E : Env} {H : Heap} {tm : Array Value}

/-- What a row's value is, told as a pure one. -/
theorem Rep.of_row {sz : Nat} {α : Type} {enc : α → List PV} {d : α} {xs : List α} {e : TypeId} {v : Value} {cs : List Value} (ho : w.ownsRow 0 e sz v xs.length cs) (h0 : 0 < sz)
    (hz : ∀ k, k < xs.length → (enc (xs.getD k d)).length = sz) (hr : ∀ (k j : Nat) (p : PV), k < xs.length → (enc (xs.getD k d))[j]? = some p → ∃ u : Value, cs[k * sz + j]? = some u ∧ Rep w S u p)
    (hS : ∀ b o, blk v = some b → o < xs.length * sz → S b o) : Rep w S v (.sl sz α enc d xs) := by
  rcases ho.2 with ⟨rfl, hn⟩ | ⟨g, cap, cur, rfl, _, hg, hcap, hmax, hsz, htk⟩
  · refine .sl none 0 0 sz α enc d xs (fun _ _ => undef) 0 0 hn.symm (by omega) (fun i hi => hz i (by omega)) (by omega) (by omega) (by intro i j p hi; omega)
  · have hcell : ∀ i j, i < xs.length → j < sz → i * sz + j < xs.length * sz := fun i j hi hj => by
      have : (i + 1) * sz ≤ xs.length * sz := Nat.mul_le_mul_right _ hi
      rw [Nat.add_mul, Nat.one_mul] at this
      omega
    have hlen : cs.length = xs.length * sz := ho.1
    refine .sl (some ⟨g, 0, none⟩) xs.length cap sz α enc d xs (fun i j => cs.getD (i * sz + j) undef) g 0 rfl hcap hz (fun _ => rfl) (fun i j hi hj => ?_) (fun i j p hi hp => ?_)
    · have hlt := hcell i j hi hj
      refine ⟨by rw [Nat.zero_add]; exact hS g _ rfl hlt, ?_⟩
      have hc := ho.cells (g := g) rfl (i * sz + j) (cs.getD (i * sz + j) undef) (by rw [List.getD_eq_getElem?_getD, List.getElem?_eq_getElem (by omega)]; rfl)
      have ha : (⟨g, 0, none⟩ : Addr).add (i * sz + j) = ⟨g, 0 + i * sz + j, none⟩ := by
        unfold Addr.add
        split
        · rename_i h; simp; try omega
        · simp; try omega
      rwa [ha] at hc
    · obtain ⟨u, hu, hru⟩ := hr i j p hi hp
      rw [List.getD_eq_getElem?_getD, hu]
      exact hru

/-- What a slice of a row's value is, told as a pure one. -/
theorem Rep.of_sub {sz : Nat} {α : Type} {enc : α → List PV} {d : α} {xs : List α} {e : TypeId} {v : Value} {cs : List Value} {o len : Nat} {A : Option Addr} {c' : Nat} (ho : w.ownsRow 0 e sz v xs.length cs) (h0 : 0 < sz)
    (hz : ∀ k, k < xs.length → (enc (xs.getD k d)).length = sz) (hr : ∀ (k j : Nat) (p : PV), k < xs.length → (enc (xs.getD k d))[j]? = some p → ∃ u : Value, cs[k * sz + j]? = some u ∧ Rep w S u p)
    (hS : ∀ b o, blk v = some b → o < xs.length * sz → S b o) (hol : o + len ≤ xs.length) (hc : len ≤ c') (hA : 0 < len → ∃ (b m c : Nat), v = .slice (some ⟨b, 0, none⟩) m c ∧ o + len ≤ m ∧ A = some ⟨b, o * sz, none⟩) :
    Rep w S (.slice A len c') (.sl sz α enc d ((xs.drop o).take len)) := by
  have hlen : ((xs.drop o).take len).length = len := by rw [List.length_take, List.length_drop]; omega
  have hget : ∀ i, i < len → ((xs.drop o).take len).getD i d = xs.getD (o + i) d := fun i hi => by
    simp only [List.getD_eq_getElem?_getD, List.getElem?_take, if_pos hi, List.getElem?_drop]
  rcases Nat.eq_zero_or_pos len with hl0 | hl0
  · subst hl0
    exact .sl A 0 c' sz α enc d _ (fun _ _ => undef) 0 0 hlen.symm hc (fun i hi => absurd hi (Nat.not_lt_zero _)) (fun h => absurd h (Nat.lt_irrefl _)) (fun i j hi => absurd hi (Nat.not_lt_zero _)) (fun i j p hi => absurd hi (Nat.not_lt_zero _))
  · obtain ⟨b, m, c, hv, hm, rfl⟩ := hA hl0
    subst hv
    have hcell : ∀ i j, i < xs.length → j < sz → i * sz + j < xs.length * sz := fun i j hi hj => by
      have : (i + 1) * sz ≤ xs.length * sz := Nat.mul_le_mul_right _ hi
      rw [Nat.add_mul, Nat.one_mul] at this
      omega
    have hcl : cs.length = xs.length * sz := ho.1
    refine .sl (some ⟨b, o * sz, none⟩) len c' sz α enc d _ (fun i j => cs.getD ((o + i) * sz + j) undef) b (o * sz) hlen.symm hc (fun i hi => by rw [hget i hi]; exact hz (o + i) (by omega)) (fun _ => rfl) (fun i j hi hj => ?_) (fun i j p hi hp => ?_)
    · have hlt := hcell (o + i) j (by omega) hj
      have e1 : o * sz + i * sz + j = (o + i) * sz + j := by rw [Nat.add_mul]
      rw [e1]
      refine ⟨hS b _ rfl hlt, ?_⟩
      have hc := ho.cells (g := b) rfl ((o + i) * sz + j) (cs.getD ((o + i) * sz + j) undef) (by rw [List.getD_eq_getElem?_getD, List.getElem?_eq_getElem (by omega)]; rfl)
      have ha : (⟨b, 0, none⟩ : Addr).add ((o + i) * sz + j) = ⟨b, (o + i) * sz + j, none⟩ := by
        unfold Addr.add
        split
        · rename_i h; simp; try omega
        · simp; try omega
      rwa [ha] at hc
    · rw [hget i hi] at hp
      obtain ⟨u, hu, hru⟩ := hr (o + i) j p (by omega) hp
      show Rep w S (cs.getD ((o + i) * sz + j) undef) p
      rw [List.getD_eq_getElem?_getD, hu]
      exact hru

theorem Conc.frz1 (C : Conc w0 F S0 s S E H tm w) (i : Nat) : ∃ S', (∀ b o, S b o → S' b o) ∧ Conc w0 F S0 s S' E (Vx.frz1 H i) tm w ∧ (∀ b o, S' b o → S b o ∨ ∃ j, live H j ∧ blk (s j) = some b) ∧
    ∀ ro e sz α enc d xs, H[i]? = some (.row ro e sz α enc d xs) → Rep w S' (s i) (.sl sz α enc d xs) ∧ ∀ (o len : Nat) (A : Option Addr) (c' : Nat), o + len ≤ xs.length → len ≤ c' →
      (0 < len → ∃ (b m c : Nat), s i = .slice (some ⟨b, 0, none⟩) m c ∧ o + len ≤ m ∧ A = some ⟨b, o * sz, none⟩) → Rep w S' (.slice A len c') (.sl sz α enc d ((xs.drop o).take len)) := by
  unfold Vx.frz1
  cases hi : H[i]? with
  | none => exact ⟨S, fun _ _ h => h, C, fun _ _ h => .inl h, fun ro e sz α enc d xs h => by cases h⟩
  | some x =>
    cases x with
    | dead => exact ⟨S, fun _ _ h => h, C, fun _ _ h => .inl h, fun ro e sz α enc d xs h => by cases h⟩
    | box cs => exact ⟨S, fun _ _ h => h, C, fun _ _ h => .inl h, fun ro e sz α enc d xs h => by cases h⟩
    | map kk ν ev kvs => exact ⟨S, fun _ _ h => h, C, fun _ _ h => .inl h, fun ro e sz α enc d xs h => by cases h⟩
    | pin v a => exact ⟨S, fun _ _ h => h, C, fun _ _ h => .inl h, fun ro e sz α enc d xs h => by cases h⟩
    | row ro e sz α enc d xs =>
      obtain ⟨cs, h1, h0, h2, h3, h4⟩ := C.objs i _ hi
      have hiH : i < H.length := (List.getElem?_eq_some_iff.1 hi).1
      have hliv : live H i := ⟨_, hi, by simp⟩
      let S' : Cells := fun b o => S b o ∨ (blk (s i) = some b ∧ o < xs.length * sz)
      have hS : ∀ b o, S b o → S' b o := fun _ _ h => .inl h
      have hget : ∀ j : Nat, (H.set i (.row true e sz α enc d xs))[j]? = if i = j then some (.row true e sz α enc d xs) else H[j]? := by
        intro j
        rw [List.getElem?_set]
        by_cases h : i = j
        · rw [if_pos h, if_pos h, if_pos (h ▸ hiH)]
        · rw [if_neg h, if_neg h]
      have hlive : ∀ j, live (H.set i (.row true e sz α enc d xs)) j → live H j := by
        rintro j ⟨o, ho, hd⟩
        rw [hget] at ho
        split at ho
        · rename_i h; subst h; exact hliv
        · exact ⟨o, ho, hd⟩
      refine ⟨S', hS, ⟨?_, ?_, ?_, ?_, ?_, ?_, ?_, C.keep, C.imm, C.grow, C.os, C.tape, C.output⟩, ?_, ?_⟩
      · intro t a ha
        obtain ⟨v, hv, hr⟩ := C.slots t a ha
        exact ⟨v, hv, hr.mono (by simp) (fun _ _ => rfl) hS (fun _ _ _ => rfl)⟩
      · intro j o ho
        rw [hget] at ho
        have other : ∀ b, live H j → i ≠ j → blk (s j) = some b → ∀ k, S' b k → S b k := by
          intro b hj hne hb k hk
          rcases hk with hk | ⟨hk, _⟩
          · exact hk
          · exact absurd (C.apart i j b hliv hj hk hb) hne
        split at ho
        · rename_i hij
          subst hij
          cases ho
          refine ⟨cs, h1, h0, h2, fun k j p hk hp => let ⟨v, a, r⟩ := h3 k j p hk hp; ⟨v, a, r.mono hS (fun _ _ _ => rfl)⟩, ?_⟩
          intro b o hb hk
          rcases hk with hk | ⟨_, hk⟩
          · exact ⟨rfl, (h4 b o hb hk).2⟩
          · exact ⟨rfl, hk⟩
        · rename_i hij
          have hj := C.objs j o ho
          cases o with
          | dead => exact True.intro
          | box cs' =>
            obtain ⟨b, t, vs, g1, g2, g3, g4, g5⟩ := hj
            exact ⟨b, t, vs, g1, g2, g3, fun k c v hc hv => (g4 k c v hc hv).mono (by simp) (fun _ _ => rfl) hS (fun _ _ _ => rfl), fun k hk => g5 k (other b ⟨_, ho, by simp⟩ hij (by rw [g1]; rfl) k hk)⟩
          | row ro' e' sz' α' enc' d' xs' =>
            obtain ⟨cs', g1, g0, g2, g3, g4⟩ := hj
            exact ⟨cs', g1, g0, g2, fun k j p hk hp => let ⟨v, a, r⟩ := g3 k j p hk hp; ⟨v, a, r.mono hS (fun _ _ _ => rfl)⟩, fun b k hb hk => g4 b k hb (other b ⟨_, ho, by simp⟩ hij hb k hk)⟩
          | pin v a => exact ⟨hj.1, hj.2.mono (by simp) (fun _ _ => rfl) hS (fun _ _ _ => rfl)⟩
          | map kk ν ev kvs =>
            obtain ⟨b, es, clock, g1, g2, g3, g4, g5, g6, g7⟩ := hj
            exact ⟨b, es, clock, g1, g2, g3, fun k e' kv he hk => (g4 k e' kv he hk).mono hS (fun _ _ _ => rfl), g5, g6, fun k hk => g7 k (other b ⟨_, ho, by simp⟩ hij (by rw [g1]; rfl) k hk)⟩
      · exact fun j k b hj hk bj bk => C.apart j k b (hlive j hj) (hlive k hk) bj bk
      · exact fun j b hj hb => C.mine j b (hlive j hj) hb
      · intro b o hb
        rcases hb with hb | ⟨hb, _⟩
        · exact C.lt b o hb
        · exact (C.objs i _ hi).lt (by simp) hb
      · exact fun b o hb => .inl (C.sub b o hb)
      · intro b o hb
        rcases hb with hb | ⟨hb, _⟩
        · exact C.new b o hb
        · exact .inr (C.mine i b hliv hb)
      · intro b o hb
        rcases hb with hb | ⟨hb, _⟩
        · exact .inl hb
        · exact .inr ⟨i, hliv, hb⟩
      · intro ro' e' sz' α' enc' d' xs' h
        cases h
        exact ⟨Rep.of_row h1 h0 h2 (fun k j p hk hp => let ⟨v, a, r⟩ := h3 k j p hk hp; ⟨v, a, r.mono hS (fun _ _ _ => rfl)⟩) (fun b o hb ho => .inr ⟨hb, ho⟩),
          fun o len A c' hol hc hA => Rep.of_sub h1 h0 h2 (fun k j p hk hp => let ⟨v, a, r⟩ := h3 k j p hk hp; ⟨v, a, r.mono hS (fun _ _ _ => rfl)⟩) (fun b o hb ho => .inr ⟨hb, ho⟩) hol hc hA⟩

theorem length_frz1 (H : Heap) (i : Nat) : (Vx.frz1 H i).length = H.length := by
  unfold Vx.frz1
  split <;> simp

/-- Freezing keeps every row what it is. -/
theorem row_frz1 {H : Heap} {i j : Nat} {ro : Bool} {e : TypeId} {sz : Nat} {α : Type} {enc : α → List PV} {d : α} {xs : List α} (h : H[j]? = some (.row ro e sz α enc d xs)) :
    ∃ ro', (Vx.frz1 H i)[j]? = some (.row ro' e sz α enc d xs) := by
  unfold Vx.frz1
  split
  · rename_i ro' e' sz' α' enc' d' xs' hi
    rw [List.getElem?_set]
    by_cases hij : i = j
    · subst hij
      rw [if_pos rfl, if_pos (List.getElem?_eq_some_iff.1 h).1]
      rw [h] at hi
      cases hi
      exact ⟨true, rfl⟩
    · rw [if_neg hij]; exact ⟨ro, h⟩
  · exact ⟨ro, h⟩

theorem FitP.frz1 {H : Heap} {a : AV} {q : PV} (h : FitP H a q) (i : Nat) : FitP (Vx.frz1 H i) a q := by
  unfold FitP at h ⊢
  split at h
  · exact h
  · exact h
  · rename_i j
    split at h
    · rename_i ro e sz α enc d xs hj
      obtain ⟨ro', h'⟩ := row_frz1 (i := i) hj
      rw [h']
      exact h
    · exact h.elim
  · rename_i j o sz len
    split at h
    · rename_i ro e sz α enc d xs hj
      obtain ⟨ro', h'⟩ := row_frz1 (i := i) hj
      rw [h']
      exact h
    · exact h.elim
  · exact h
end

end Go.Vx

namespace Go.Vx
open Go.RowKit (Below)

section
variable {w0 w w' : World} {F : Nat → Prop} {S0 S : Cells} {s : Nat → Value} {E : Env} {H : Heap} {tm : Array Value}

theorem live_frz1 {H : Heap} {i j : Nat} (h : live (Vx.frz1 H i) j) : live H j := by
  obtain ⟨o, ho, hd⟩ := h
  unfold Vx.frz1 at ho
  split at ho
  · rename_i ro e sz α enc d xs hi
    rw [List.getElem?_set] at ho
    split at ho
    · rename_i hij; subst hij; exact ⟨_, hi, by simp⟩
    · exact ⟨o, ho, hd⟩
  · exact ⟨o, ho, hd⟩

/-- S' has S, and cells of what the call owns. -/
def More (H : Heap) (s : Nat → Value) (S S' : Cells) : Prop := (∀ b o, S b o → S' b o) ∧ ∀ b o, S' b o → S b o ∨ ∃ j, live H j ∧ blk (s j) = some b
theorem More.refl : More H s S S := ⟨fun _ _ h => h, fun _ _ h => .inl h⟩
theorem More.trans {H' : Heap} {S' S'' : Cells} (h : More H s S S') (k : More H' s S' S'') (hl : ∀ j, live H' j → live H j) : More H s S S'' :=
  ⟨fun b o x => k.1 b o (h.1 b o x), fun b o x => by
    rcases k.2 b o x with y | ⟨j, hj, hb⟩
    · exact h.2 b o y
    · exact .inr ⟨j, hl j hj, hb⟩⟩

theorem length_frzC (H : Heap) (a : AV) : (frzC H a).length = H.length := by
  cases a <;> first | rfl | exact length_frz1 _ _
theorem live_frzC {H : Heap} {a : AV} {j : Nat} (h : live (frzC H a) j) : live H j := by
  cases a <;> first | exact h | exact live_frz1 h
theorem FitC.frz1 {H : Heap} {a b : AV} (h : FitC H a b) (i : Nat) : FitC (Vx.frz1 H i) a b := by
  unfold FitC at h ⊢
  split at h
  · exact h.frz1 _
  · exact h
  · exact h
theorem FitC.frzC {H : Heap} {a b : AV} (h : FitC H a b) (c : AV) : FitC (Vx.frzC H c) a b := by
  unfold Vx.frzC
  split
  · exact h.frz1 _
  · exact h.frz1 _
  · exact h

theorem Conc.frzC (C : Conc w0 F S0 s S E H tm w) (a : AV) : ∃ S', More H s S S' ∧ Conc w0 F S0 s S' E (Vx.frzC H a) tm w ∧
    ∀ b, FitC H a b → ∀ v, VR s H.length w S a v → VR noS 0 w S' b v := by
  have pure_ : ∀ (S' : Cells) b, (∀ i, a ≠ .own i) → (∀ i o sz len, a ≠ .sub i o sz len) → FitC H a b → ∀ v, VR s H.length w S' a v → VR noS 0 w S' b v := by
    intro S' b hno hno2 hf v hv
    unfold FitC at hf
    split at hf
    · rename_i q
      unfold FitP at hf
      split at hf
      · subst hf
        cases hv with
        | pv h => exact .pv h
      · split at hf
        · subst hf
          cases hv
          exact .pv (.sl none 0 0 _ _ _ _ [] (fun _ _ => undef) 0 0 rfl (Nat.le_refl _) (by omega) (by omega) (by omega) (by intro i j p hi; omega))
        · exact hf.elim
      · exact absurd rfl (hno _)
      · exact absurd rfl (hno2 _ _ _ _)
      · exact hf.elim
    · split at hf
      · cases hv; exact .nil
      · exact hf.elim
    · exact hf.elim
  by_cases ho : ∃ i, a = .own i
  · obtain ⟨i, rfl⟩ := ho
    obtain ⟨S', h1, h2, h3, h4⟩ := C.frz1 i
    refine ⟨S', ⟨h1, h3⟩, h2, fun b hf v hv => ?_⟩
    unfold FitC at hf
    split at hf
    · simp only [FitP] at hf
      split at hf
      · rename_i ro e sz α enc d xs hi
        subst hf
        cases hv with
        | own hlt he =>
          have := (h4 _ _ _ _ _ _ _ hi).1
          rw [he] at this
          exact .pv this
      · exact hf.elim
    · exact hf.elim
    · exact hf.elim
  by_cases ho2 : ∃ i o sz len, a = .sub i o sz len
  · obtain ⟨i, o, sz0, len, rfl⟩ := ho2
    obtain ⟨S', h1, h2, h3, h4⟩ := C.frz1 i
    refine ⟨S', ⟨h1, h3⟩, h2, fun b hf v hv => ?_⟩
    unfold FitC at hf
    split at hf
    · simp only [FitP] at hf
      split at hf
      · rename_i ro e sz α enc d xs hi
        obtain ⟨rfl, hol, hf⟩ := hf
        subst hf
        cases hv with
        | sub hlt hc hA => exact .pv ((h4 _ _ _ _ _ _ _ hi).2 o len _ _ hol hc hA)
      · exact hf.elim
    · exact hf.elim
    · exact hf.elim
  · have hno : ∀ i, a ≠ .own i := fun i e => ho ⟨i, e⟩
    have hno2 : ∀ i o sz len, a ≠ .sub i o sz len := fun i o sz len e => ho2 ⟨i, o, sz, len, e⟩
    have e : Vx.frzC H a = H := by cases a <;> first | rfl | exact absurd rfl (hno _) | exact absurd rfl (hno2 _ _ _ _)
    rw [e]
    exact ⟨S, More.refl, C, fun b hf v hv => pure_ S b hno hno2 hf v hv⟩

theorem length_frzL : ∀ (as : List AV) (H : Heap), (frzL H as).length = H.length
  | [], H => rfl
  | a :: as, H => (length_frzL as _).trans (length_frzC H a)
theorem live_frzL : ∀ (as : List AV) {H : Heap} {j : Nat}, live (frzL H as) j → live H j
  | [], H, j, h => h
  | a :: as, H, j, h => live_frzC (live_frzL as h)
theorem FitC.frzL {a b : AV} : ∀ (cs : List AV) {H : Heap}, FitC H a b → FitC (Vx.frzL H cs) a b
  | [], H, h => h
  | c :: cs, H, h => FitC.frzL cs (h.frzC c)
theorem FitL.frzC : ∀ {as bs : List AV} {H : Heap} (c : AV), FitL H as bs → FitL (Vx.frzC H c) as bs
  | [], [], H, c, h => h
  | a :: as, b :: bs, H, c, h => ⟨h.1.frzC c, FitL.frzC c h.2⟩
  | [], _ :: _, _, _, h => h.elim
  | _ :: _, [], _, _, h => h.elim
theorem FitL.frzL {as bs : List AV} : ∀ (cs : List AV) {H : Heap}, FitL H as bs → FitL (Vx.frzL H cs) as bs
  | [], H, h => h
  | c :: cs, H, h => FitL.frzL cs (h.frzC c)

theorem Conc.frzL : ∀ (as : List AV) {S : Cells} {H : Heap} (C : Conc w0 F S0 s S E H tm w), ∃ S', More H s S S' ∧ Conc w0 F S0 s S' E (Vx.frzL H as) tm w ∧
    ∀ bs, FitL H as bs → ∀ vs, AllR s H.length w S as vs → AllR noS 0 w S' bs vs
  | [], S, H, C => ⟨S, More.refl, C, fun bs hf vs hv => by
      cases bs with
      | nil => rw [hv.inv0]; exact AllR.nil
      | cons => exact hf.elim⟩
  | a :: as, S, H, C => by
    obtain ⟨S1, m1, C1, f1⟩ := C.frzC a
    obtain ⟨S2, m2, C2, f2⟩ := Conc.frzL as C1
    refine ⟨S2, m1.trans m2 fun j h => live_frzC h, C2, fun bs hf vs hv => ?_⟩
    cases bs with
    | nil => exact hf.elim
    | cons b bs =>
      obtain ⟨v, vs', rfl, hv1, hv2⟩ := hv.inv
      have h2 := f2 bs (FitL.frzC (as := as) (bs := bs) a hf.2) vs' ((hv2.mono (Nat.le_of_eq (length_frzC H a).symm) (fun _ _ => rfl) m1.1 (fun _ _ _ => rfl)))
      exact AllR.cons ((f1 b hf.1 v hv1).mono (Nat.le_refl _) (fun _ _ => rfl) m2.1 (fun _ _ _ => rfl)) h2

theorem frzA_or (a : AV) : (∀ H, frzA H a = frzC H a) ∨ ∃ cs, ∀ H, frzA H a = frzL H cs := by
  cases a <;> first | exact .inl fun _ => rfl | exact .inr ⟨_, fun _ => rfl⟩
theorem length_frzA (H : Heap) (a : AV) : (frzA H a).length = H.length := by
  rcases frzA_or a with h | ⟨cs, h⟩
  · rw [h]; exact length_frzC H _
  · rw [h]; exact length_frzL _ H
theorem live_frzA {H : Heap} {a : AV} {j : Nat} (h : live (frzA H a) j) : live H j := by
  rcases frzA_or a with e | ⟨cs, e⟩
  · rw [e] at h; exact live_frzC h
  · rw [e] at h; exact live_frzL _ h
theorem FitA.frzA {H : Heap} {a b : AV} (h : FitA H a b) (c : AV) : FitA (Vx.frzA H c) a b := by
  have hC : ∀ {x y : AV}, FitC H x y → FitC (Vx.frzA H c) x y := by
    intro x y hxy
    rcases frzA_or c with e | ⟨cs, e⟩
    · rw [e]; exact hxy.frzC _
    · rw [e]; exact hxy.frzL _
  have hL : ∀ {x y : List AV}, FitL H x y → FitL (Vx.frzA H c) x y := by
    intro x y hxy
    rcases frzA_or c with e | ⟨cs, e⟩
    · rw [e]; exact hxy.frzC _
    · rw [e]; exact hxy.frzL _
  unfold FitA at h ⊢
  split at h
  · split at h
    · exact hL h
    · exact h
  · exact hC h

theorem Conc.frzA (C : Conc w0 F S0 s S E H tm w) (a : AV) : ∃ S', More H s S S' ∧ Conc w0 F S0 s S' E (Vx.frzA H a) tm w ∧
    ∀ b, FitA H a b → ∀ v, VR s H.length w S a v → VR noS 0 w S' b v := by
  by_cases hag : ∃ cs, a = .agg cs
  · obtain ⟨cs, rfl⟩ := hag
    obtain ⟨S', m, C', f⟩ := Conc.frzL cs C
    refine ⟨S', m, C', fun b hf v hv => ?_⟩
    unfold FitA at hf
    split at hf
    · rename_i bs
      cases hv with
      | agg hl h =>
        have := f bs hf _ ⟨hl, h⟩
        exact .agg this.1 this.2
    · unfold FitC at hf
      split at hf
      · exact hf.elim
      · exact hf.elim
      · exact hf.elim
  · have e : Vx.frzA H a = Vx.frzC H a := by cases a <;> first | rfl | exact absurd ⟨_, rfl⟩ hag
    rw [e]
    obtain ⟨S', m, C', f⟩ := C.frzC a
    refine ⟨S', m, C', fun b hf v hv => ?_⟩
    unfold FitA at hf
    split at hf
    · split at hf
      · exact absurd ⟨_, rfl⟩ hag
      · exact hf.elim
    · exact f b hf v hv

theorem length_frzAL : ∀ (as : List AV) (H : Heap), (frzAL H as).length = H.length
  | [], H => rfl
  | a :: as, H => (length_frzAL as _).trans (length_frzA H a)

theorem FitAL.frzA : ∀ {as bs : List AV} {H : Heap} (c : AV), FitAL H as bs → FitAL (Vx.frzA H c) as bs
  | [], [], H, c, h => h
  | a :: as, b :: bs, H, c, h => ⟨h.1.frzA c, FitAL.frzA c h.2⟩
  | [], _ :: _, _, _, h => h.elim
  | _ :: _, [], _, _, h => h.elim

theorem Conc.frzAL : ∀ (as : List AV) {S : Cells} {H : Heap} (C : Conc w0 F S0 s S E H tm w), ∃ S', More H s S S' ∧ Conc w0 F S0 s S' E (Vx.frzAL H as) tm w ∧
    ∀ bs, FitAL H as bs → ∀ vs, AllR s H.length w S as vs → AllR noS 0 w S' bs vs
  | [], S, H, C => ⟨S, More.refl, C, fun bs hf vs hv => by
      cases bs with
      | nil => rw [hv.inv0]; exact AllR.nil
      | cons => exact hf.elim⟩
  | a :: as, S, H, C => by
    obtain ⟨S1, m1, C1, f1⟩ := C.frzA a
    obtain ⟨S2, m2, C2, f2⟩ := Conc.frzAL as C1
    refine ⟨S2, m1.trans m2 fun j h => live_frzA h, C2, fun bs hf vs hv => ?_⟩
    cases bs with
    | nil => exact hf.elim
    | cons b bs =>
      obtain ⟨v, vs', rfl, hv1, hv2⟩ := hv.inv
      have h2 := f2 bs (FitAL.frzA (as := as) (bs := bs) a hf.2) vs' ((hv2.mono (Nat.le_of_eq (length_frzA H a).symm) (fun _ _ => rfl) m1.1 (fun _ _ _ => rfl)))
      exact AllR.cons ((f1 b hf.1 v hv1).mono (Nat.le_refl _) (fun _ _ => rfl) m2.1 (fun _ _ _ => rfl)) h2

/-- Behind a call that has made memory, and told of cells of its own. -/
theorem Conc.called (C : Conc w0 F S0 s S E H tm w) {S' : Cells} (hb : Below w.heap.size w w') (h1 : ∀ b o, S b o → S' b o) (h2 : ∀ b o, S' b o → b < w'.heap.size) (h3 : ∀ b o, S' b o → S b o ∨ w.heap.size ≤ b) :
    Conc w0 F S0 s S' E H tm w' := by
  have hcell : ∀ b o, S b o → w'.cell? ⟨b, o, none⟩ = w.cell? ⟨b, o, none⟩ := fun b o h => by
    have := hb.block b (C.lt b o h)
    simp [World.cell?, this]
  have hlt : ∀ i b, live H i → blk (s i) = some b → b < w.heap.size := fun i b ⟨o, ho, hd⟩ hb => (C.objs i o ho).lt hd hb
  have hS : ∀ i b o, live H i → blk (s i) = some b → S' b o → S b o := fun i b o hi hb' h => by
    rcases h3 b o h with h | h
    · exact h
    · have := hlt i b hi hb'; omega
  refine ⟨?_, ?_, C.apart, C.mine, h2, fun b o h => h1 b o (C.sub b o h), ?_, ?_, ?_, Nat.le_trans C.grow hb.size, hb.os.trans C.os, hb.tape.trans C.tape, hb.output.trans C.output⟩
  · intro t a ha
    obtain ⟨v, hv, hr⟩ := C.slots t a ha
    exact ⟨v, hv, hr.mono (Nat.le_refl _) (fun _ _ => rfl) h1 hcell⟩
  · intro i o ho
    have hi : i < H.length := (List.getElem?_eq_some_iff.1 ho).1
    have h := C.objs i o ho
    by_cases hd : o = .dead
    · subst hd; exact True.intro
    have hlv : live H i := ⟨o, ho, hd⟩
    have h' := h.mono (s' := s) (w' := w') (Nat.le_refl _) (fun _ _ => rfl) hcell hi (fun b hb' => hb.block b (hlt i b hlv hb'))
    cases o with
    | dead => exact absurd rfl hd
    | box cs =>
      obtain ⟨b, t, vs, g1, g2, g3, g4, g5⟩ := h'
      exact ⟨b, t, vs, g1, g2, g3, fun k c v hc hv => (g4 k c v hc hv).mono (Nat.le_refl _) (fun _ _ => rfl) h1 (fun _ _ _ => rfl), fun k hk => g5 k (hS i b k hlv (by rw [g1]; rfl) hk)⟩
    | row ro e sz α enc d xs =>
      obtain ⟨cs, g1, g0, g2, g3, g4⟩ := h'
      exact ⟨cs, g1, g0, g2, fun k j p hk hp => let ⟨v, a, r⟩ := g3 k j p hk hp; ⟨v, a, r.mono h1 (fun _ _ _ => rfl)⟩, fun b k hb' hk => g4 b k hb' (hS i b k hlv hb' hk)⟩
    | pin v a => exact ⟨h'.1, h'.2.mono (Nat.le_refl _) (fun _ _ => rfl) h1 (fun _ _ _ => rfl)⟩
    | map kk ν ev kvs =>
      obtain ⟨b, es, clock, g1, g2, g3, g4, g5, g6, g7⟩ := h'
      exact ⟨b, es, clock, g1, g2, g3, fun k e' kv he hk => (g4 k e' kv he hk).mono h1 (fun _ _ _ => rfl), g5, g6, fun k hk => g7 k (hS i b k hlv (by rw [g1]; rfl) hk)⟩
  · intro b o h
    rcases h3 b o h with h | h
    · exact C.new b o h
    · have := C.grow; exact .inr (.inr (by omega))
  · intro b hb' hf
    rw [← C.keep b hb' hf]
    exact hb.block b (Nat.lt_of_lt_of_le hb' C.grow)
  · intro b o h
    exact (hcell b o (C.sub b o h)).trans (C.imm b o h)

theorem VR.flat {w w' : World} {S S' : Cells} {s' : Nat → Value} {n n' : Nat} {r : AV} {v : Value} (hf : flatV r = true) (h : VR s n w S r v) : VR s' n' w' S' r v := by
  have hC : ∀ {a : AV} {v : Value}, flatC a = true → VR s n w S a v → VR s' n' w' S' a v := by
    intro a v ha hv
    cases hv <;> simp [flatC] at ha
    rename_i p hp
    cases hp with
    | lit v h => exact .pv (.lit v h)
    | sl => simp at ha
  have h1 : ∀ {a : AV} {v : Value}, flat1 a = true → VR s n w S a v → VR s' n' w' S' a v := by
    intro a v ha hv
    cases a with
    | agg cs =>
      cases hv with
      | agg hl h => exact .agg hl fun j c v hc hv => hC (List.all_eq_true.1 ha c (List.mem_of_getElem? hc)) (h j c v hc hv)
    | _ => exact hC ha hv
  cases r with
  | tup cs =>
    cases h with
    | tup hl h => exact .tup hl fun j c v hc hv => h1 (List.all_eq_true.1 hf c (List.mem_of_getElem? hc)) (h j c v hc hv)
  | _ => exact h1 hf h
end

end Go.Vx

namespace Go.Vx
open Go.RowKit (Below)

def upd (s : Nat → Value) (n : Nat) (v : Value) : Nat → Value := fun i => if i = n then v else s i
theorem upd_old {s : Nat → Value} {n : Nat} {v : Value} : ∀ i, i < n → upd s n v i = s i := fun i h => by simp [upd, Nat.ne_of_lt h]
theorem upd_new {s : Nat → Value} {n : Nat} {v : Value} : upd s n v n = v := by simp [upd]

section
variable {w0 w w' : World} {F : Nat → Prop} {S0 S : Cells} {s : Nat → Value} {E : Env} {H : Heap} {tm : Array Value}

theorem grown_below (hg : w.grownBy w' none) : Below w.heap.size w w' := ⟨hg.os, hg.tape, hg.output, hg.size, fun k hk => hg.block k hk (by simp)⟩
theorem grown_draw (hh : w'.heap = w.heap) (h1 : w'.os = w.os) (h2 : w'.tape = w.tape) (h3 : w'.output = w.output) : w.grownBy w' none :=
  ⟨h1, h2, h3, by rw [hh]; exact Nat.le_refl _, fun _ _ _ => by rw [hh]⟩

/-- A new thing. -/
theorem Conc.push (C : Conc w0 F S0 s S E H tm w) (hg : w.grownBy w' none) (x : AObj) (v : Value) (hv : ∀ b, blk v = some b → w.heap.size ≤ b)
    (hx : OR (upd s H.length v) (H.length + 1) w' S H.length x) : Conc w0 F S0 (upd s H.length v) S E (H ++ [x]) tm w' := by
  refine C.step none hg (fun _ _ h => by cases h) (fun _ h => by cases h) upd_old (by simp) ?_ ?_ ?_
  · intro i o hi ho
    rw [List.getElem?_append_left hi] at ho
    exact .inr (.inl ⟨ho, fun _ _ => by simp⟩)
  · intro i o hi ho
    have hi' := (List.getElem?_eq_some_iff.1 ho).1
    simp only [List.length_append, List.length_cons, List.length_nil] at hi'
    obtain rfl : i = H.length := by omega
    rw [List.getElem?_append_right (Nat.le_refl _)] at ho
    simp at ho
    subst ho
    refine ⟨by simpa using hx, fun b hb => .inl (hv b ?_)⟩
    rwa [upd_new] at hb
  · intro i j b hij hi hj bi bj hlj
    obtain ⟨o, ho, hd⟩ := hi
    obtain ⟨o', ho', hd'⟩ := hj
    have hj' := (List.getElem?_eq_some_iff.1 ho').1
    simp only [List.length_append, List.length_cons, List.length_nil] at hj'
    obtain rfl : j = H.length := by omega
    rw [upd_new] at bj
    rw [upd_old i hij] at bi
    rw [List.getElem?_append_left hij] at ho
    have := (C.objs i o ho).lt hd bi
    have := hv b bj
    omega

/-- A thing whose block turns. -/
theorem Conc.turn (C : Conc w0 F S0 s S E H tm w) (k : Nat) (x x' : AObj) (hk : H[k]? = some x) (hd : x ≠ .dead) (row : Option Nat) (hrow : ∀ b, row = some b → blk (s k) = some b) (hall : ∀ b, blk (s k) = some b → row = some b) (hg : w.grownBy w' row)
    (hS : ∀ b o, row = some b → S b o → w'.cell? ⟨b, o, none⟩ = w.cell? ⟨b, o, none⟩) (hx : OR s H.length w' S k x') : Conc w0 F S0 s S E (H.set k x') tm w' := by
  have hkl : k < H.length := (List.getElem?_eq_some_iff.1 hk).1
  have hlv : live H k := ⟨x, hk, hd⟩
  refine C.step row hg hS (fun b hb => C.mine k b hlv (hrow b hb)) (fun _ _ => rfl) (by simp) ?_ ?_ ?_
  · intro i o hi ho
    rw [List.getElem?_set] at ho
    by_cases hki : k = i
    · subst hki
      rw [if_pos rfl, if_pos hkl] at ho
      cases ho
      exact .inr (.inr ⟨hlv, by simpa using hx⟩)
    · rw [if_neg hki] at ho
      by_cases hdo : o = .dead
      · exact .inl hdo
      · exact .inr (.inl ⟨ho, fun b hb hr => hki (C.apart k i b hlv ⟨o, ho, hdo⟩ (hrow b hr) hb)⟩)
  · intro i o hi ho
    have hi' := (List.getElem?_eq_some_iff.1 ho).1
    simp at hi'
    omega
  · intro i j b hij hi hj bi bj hlj
    obtain ⟨o', ho', hd'⟩ := hj
    have hj' := (List.getElem?_eq_some_iff.1 ho').1
    simp at hj'
    omega

/-- A thing becomes another one: its block may turn, or a new one takes its place. -/
theorem Conc.pass (C : Conc w0 F S0 s S E H tm w) (k : Nat) (x x' : AObj) (hk : H[k]? = some x) (hd : x ≠ .dead) (v : Value) (hg : w.grownBy w' (blk (s k))) (hv : ∀ b, blk v = some b → w.heap.size ≤ b ∨ blk (s k) = some b)
    (hS : ∀ b o, blk (s k) = some b → S b o → w'.cell? ⟨b, o, none⟩ = w.cell? ⟨b, o, none⟩)
    (hx : OR (upd s H.length v) (H.length + 1) w' S H.length x') : Conc w0 F S0 (upd s H.length v) S E (H.set k .dead ++ [x']) tm w' := by
  have hkl : k < H.length := (List.getElem?_eq_some_iff.1 hk).1
  have hlv : live H k := ⟨x, hk, hd⟩
  have hget : ∀ i, i < H.length → (H.set k .dead ++ [x'])[i]? = if k = i then some .dead else H[i]? := by
    intro i hi
    rw [List.getElem?_append_left (by simpa using hi), List.getElem?_set]
    by_cases h : k = i
    · subst h; rw [if_pos rfl, if_pos hkl, if_pos rfl]
    · rw [if_neg h, if_neg h]
  refine C.step (blk (s k)) hg hS (fun b hb => C.mine k b hlv hb) upd_old (by simp) ?_ ?_ ?_
  · intro i o hi ho
    rw [hget i hi] at ho
    split at ho
    · cases ho; exact .inl rfl
    · rename_i hki
      by_cases hdo : o = .dead
      · exact .inl hdo
      · exact .inr (.inl ⟨ho, fun b hb hr => hki (C.apart k i b hlv ⟨o, ho, hdo⟩ hr hb)⟩)
  · intro i o hi ho
    have hi' := (List.getElem?_eq_some_iff.1 ho).1
    simp only [List.length_append, List.length_set, List.length_cons, List.length_nil] at hi'
    obtain rfl : i = H.length := by omega
    rw [List.getElem?_append_right (by simp)] at ho
    simp at ho
    subst ho
    refine ⟨by simpa using hx, fun b hb => ?_⟩
    rw [upd_new] at hb
    exact hv b hb
  · intro i j b hij hi hj bi bj hlj
    obtain ⟨o, ho, hdo⟩ := hi
    obtain ⟨o', ho', hd'⟩ := hj
    have hj' := (List.getElem?_eq_some_iff.1 ho').1
    simp only [List.length_append, List.length_set, List.length_cons, List.length_nil] at hj'
    obtain rfl : j = H.length := by omega
    rw [upd_new] at bj
    rw [upd_old i hij] at bi
    rw [hget i hij] at ho
    split at ho
    · cases ho; exact hdo rfl
    · rename_i hki
      have h1 := (C.objs i o ho).lt hdo bi
      rcases hv b bj with h | h
      · omega
      · exact hki (C.apart k i b hlv ⟨o, ho, hdo⟩ h bi)

/-- A slot is written. -/
theorem Conc.put (C : Conc w0 F S0 s S E H tm w) {d : Nat} (hd : d < tm.size) {a : AV} {v : Value} (hv : VR s H.length w S a v) : Conc w0 F S0 s S ((d, a) :: E) H (tm.setIfInBounds d v) w := by
  refine ⟨?_, C.objs, C.apart, C.mine, C.lt, C.sub, C.new, C.keep, C.imm, C.grow, C.os, C.tape, C.output⟩
  intro t b hb
  simp only [Env.get] at hb
  split at hb
  · rename_i h
    subst h
    cases hb
    exact ⟨v, by simp [hd], hv⟩
  · rename_i h
    obtain ⟨u, hu, hr⟩ := C.slots t b hb
    exact ⟨u, by rw [Array.getElem?_setIfInBounds_ne (fun e => h e.symm)]; exact hu, hr⟩
end

theorem Conc.putD {w0 w : World} {F : Nat → Prop} {S0 S : Cells} {s : Nat → Value} {E : Env} {H : Heap} {a : Act} (C : Conc w0 F S0 s S E H a.tmps w) {d : Option Nat} (hd : ∀ t, d = some t → t < a.tmps.size)
    {x : AV} {v : Value} (hv : VR s H.length w S x v) : Conc w0 F S0 s S (setD d x E) H (a.put d v).tmps w := by
  cases d with
  | none => exact C
  | some t => exact C.put (hd t rfl) hv

theorem put_size {a : Act} {d : Option Nat} {v : Value} : (a.put d v).tmps.size = a.tmps.size := by cases d <;> simp [Act.put]
theorem put_defers {a : Act} {d : Option Nat} {v : Value} : (a.put d v).defers = a.defers := by cases d <;> rfl

end Go.Vx

namespace Go.Vx
open Go.RowKit (Below)

/-! ### A state told anew: things renumbered, what nobody needs left out -/
/-- Where thing i of the new telling is in the old one; none: it is an empty row, a nil slice. -/
abbrev Ren := List (Option Nat)

def matchV (r : Ren) (a : AV) (b : Option AV) : Prop :=
  match a with
  | .pv p => b = some (.pv p)
  | .nil => b = some .nil
  | .own i => match r[i]? with
    | some (some j) => b = some (.own j)
    | some none => b = some .nil
    | none => False
  | .ptr i o => match r[i]? with
    | some (some j) => b = some (.ptr j o)
    | _ => False
  | .map i => match r[i]? with
    | some (some j) => b = some (.map j)
    | _ => False
  | .rptr cs o => b = some (.rptr cs o)
  | .agg cs => (∀ c, c ∈ cs → ∃ p, c = .pv p) ∧ b = some (.agg cs)
  | .tup cs => (∀ c, c ∈ cs → ∃ p, c = .pv p) ∧ b = some (.tup cs)
  | .sub i o sz len => match r[i]? with
    | some (some j) => match b with
      | some (.sub j' o' sz' len') => j' = j ∧ o' = o ∧ sz' = sz ∧ len' = len
      | some .nil => len = 0
      | _ => False
    | some none => b = some .nil ∧ len = 0
    | none => False
  | .eptr i k sz o => match r[i]? with
    | some (some j) => b = some (.eptr j k sz o)
    | _ => False

noncomputable def matchE (r : Ren) (E' : Env) (E : Env) : Prop :=
  List.rec (motive := fun _ => Prop) True (fun x _ ih => matchV r x.2 (E'.get x.1) ∧ ih) E

noncomputable def matchC (r : Ren) (as : List AV) : List AV → Prop :=
  List.rec (motive := fun _ => List AV → Prop) (fun bs => match bs with
    | [] => True
    | _ => False) (fun a _ ih bs => match bs with
    | b :: bs => matchV r a (some b) ∧ ih bs
    | [] => False) as

noncomputable def matchO (r : Ren) (x : AObj) (y : Option AObj) : Prop :=
  match x with
  | .dead => True
  | .box cs => match y with
    | some (.box ds) => matchC r cs ds
    | _ => False
  | .row ro e sz α enc d xs => y = some (.row ro e sz α enc d xs)
  | .map kk ν ev kvs => y = some (.map kk ν ev kvs)
  | .pin v a => match y with
    | some (.pin v' b) => v' = v ∧ matchV r a (some b)
    | _ => False

noncomputable def matchH (r0 : Ren) (H' : Heap) (r : Ren) : Heap → Prop :=
  List.rec (motive := fun _ => Heap → Prop) (fun H => match H with
    | [] => True
    | _ => False) (fun q _ ih H => match H with
    | x :: H => (match q with
      | some j => matchO r0 x H'[j]?
      | none => match x with
        | .row ro _ sz α enc d xs => ro = false ∧ 0 < sz ∧ xs = []
        | .dead => True
        | _ => False) ∧ ih H
    | [] => False) r

def nodupR : Ren → Bool
  | [] => true
  | none :: r => nodupR r
  | some j :: r => !r.contains (some j) && nodupR r


/-- What a renumbering says of things that are not dead. -/
def liveR : Ren → Heap → Ren
  | [], _ => []
  | q :: r, [] => q :: r
  | _ :: r, .dead :: H => none :: liveR r H
  | q :: r, _ :: H => q :: liveR r H
def nodupD (r : Ren) (H : Heap) : Bool := nodupR (liveR r H)
/-- The old telling gives the new one. -/
def Sub (E' : Env) (H' : Heap) (E : Env) (H : Heap) : Prop := ∃ r : Ren, nodupD r H = true ∧ matchE r E' E ∧ matchH r H' r H

section
variable {w0 w : World} {F : Nat → Prop} {S0 S : Cells} {s : Nat → Value} {tm : Array Value}

theorem nodupR_inj : ∀ {r : Ren}, nodupR r = true → ∀ i j k : Nat, r[i]? = some (some k) → r[j]? = some (some k) → i = j
  | [], _, i, j, k, hi, _ => by simp at hi
  | none :: r, h, i, j, k, hi, hj => by
    cases i with
    | zero => simp at hi
    | succ i => cases j with
      | zero => simp at hj
      | succ j => exact congrArg _ (nodupR_inj (r := r) h i j k (by simpa using hi) (by simpa using hj))
  | some m :: r, h, i, j, k, hi, hj => by
    simp only [nodupR, Bool.and_eq_true, Bool.not_eq_true'] at h
    have hno : ∀ n : Nat, r[n]? = some (some m) → False := by
      intro n hn
      have := List.mem_of_getElem? hn
      have h1 := h.1
      rw [List.contains_iff_mem.2 this] at h1
      cases h1
    cases i with
    | zero =>
      simp at hi
      subst hi
      cases j with
      | zero => rfl
      | succ j => exact (hno j (by simpa using hj)).elim
    | succ i => cases j with
      | zero => simp at hj; subst hj; exact (hno i (by simpa using hi)).elim
      | succ j => exact congrArg _ (nodupR_inj (r := r) h.2 i j k (by simpa using hi) (by simpa using hj))

theorem liveR_get : ∀ {r : Ren} {H : Heap} {i : Nat} {x : AObj}, H[i]? = some x → x ≠ .dead → (liveR r H)[i]? = r[i]?
  | [], H, i, x, _, _ => by cases H <;> rfl
  | q :: r, [], i, x, h, _ => by simp at h
  | q :: r, y :: H, i, x, h, hd => by
    cases i with
    | zero =>
      have e : y = x := by simpa using h
      subst e
      cases y <;> first | exact absurd rfl hd | rfl
    | succ i =>
      have ih := liveR_get (r := r) (H := H) (i := i) (by simpa using h) hd
      cases y <;> simpa [liveR] using ih
theorem liveR_mem {q : Nat} : ∀ {r : Ren} {H : Heap}, some q ∈ liveR r H → some q ∈ r
  | [], H, h => by cases H <;> exact h
  | p :: r, [], h => h
  | p :: r, y :: H, h => by
    have ih := liveR_mem (q := q) (r := r) (H := H)
    cases y <;> simp only [liveR, List.mem_cons] at h ⊢ <;> rcases h with h | h <;> first
      | exact .inr (ih h)
      | exact .inl h
      | cases h
theorem nodupD_of : ∀ {r : Ren} {H : Heap}, nodupR r = true → nodupD r H = true
  | [], H, h => by cases H <;> exact h
  | p :: r, [], h => h
  | none :: r, y :: H, h => by
    have ih := nodupD_of (r := r) (H := H) h
    unfold nodupD at ih ⊢
    cases y <;> simpa [liveR, nodupR] using ih
  | some j :: r, y :: H, h => by
    simp only [nodupR, Bool.and_eq_true, Bool.not_eq_true'] at h
    have ih := nodupD_of (r := r) (H := H) h.2
    unfold nodupD at ih ⊢
    have hno : (liveR r H).contains (some j) = false := by
      cases hc : (liveR r H).contains (some j) with
      | false => rfl
      | true =>
        have := liveR_mem (List.contains_iff_mem.1 hc)
        rw [List.contains_iff_mem.2 this] at h
        cases h.1
    cases y <;> simp [liveR, nodupR, ih, hno] <;> simpa using hno

def ren (s : Nat → Value) (r : Ren) : Nat → Value := fun i =>
  match r[i]? with
  | some (some j) => s j
  | some none => .slice none 0 0
  | none => undef

theorem matchV_sound {r : Ren} {n n' : Nat} (hn' : n' = r.length) {a b : AV} {v : Value} (h : matchV r a (some b)) (hv : VR s n w S b v) : VR (ren s r) n' w S a v := by
  unfold matchV at h
  split at h
  · cases h; cases hv with | pv h => exact .pv h
  · cases h; cases hv; exact .nil
  · rename_i i
    split at h
    · rename_i j hj
      cases h
      have hi := (List.getElem?_eq_some_iff.1 hj).1
      cases hv with
      | own hlt he => exact .own (by omega) (by simp only [ren, hj]; exact he)
    · rename_i hj
      cases h
      have hi := (List.getElem?_eq_some_iff.1 hj).1
      cases hv
      exact .own (by omega) (by simp only [ren, hj])
    · exact h.elim
  · rename_i i k
    split at h
    · rename_i j hj
      cases h
      have hi := (List.getElem?_eq_some_iff.1 hj).1
      cases hv with
      | ptr hlt he => exact .ptr (by omega) (by simp only [ren, hj]; exact he)
    · exact h.elim
  · rename_i i
    split at h
    · rename_i j hj
      cases h
      have hi := (List.getElem?_eq_some_iff.1 hj).1
      cases hv with
      | map hlt he => exact .map (by omega) (by simp only [ren, hj]; exact he)
    · exact h.elim
  · cases h; cases hv with | rptr u h => exact .rptr u h
  · obtain ⟨hall, h⟩ := h
    cases h
    cases hv with
    | agg hl hc =>
      refine .agg hl fun j c v hcj hvj => ?_
      obtain ⟨p, rfl⟩ := hall c (List.mem_of_getElem? hcj)
      cases hc j _ v hcj hvj with
      | pv h => exact .pv h
  · obtain ⟨hall, h⟩ := h
    cases h
    cases hv with
    | tup hl hc =>
      refine .tup hl fun j c v hcj hvj => ?_
      obtain ⟨p, rfl⟩ := hall c (List.mem_of_getElem? hcj)
      cases hc j _ v hcj hvj with
      | pv h => exact .pv h
  · rename_i i o sz len
    split at h
    · rename_i j hj
      have hi := (List.getElem?_eq_some_iff.1 hj).1
      split at h
      · rename_i e
        obtain ⟨rfl, rfl, rfl, rfl⟩ := h
        cases e
        cases hv with
        | sub hlt hc hA => exact .sub (by omega) hc (fun h0 => by simp only [ren, hj]; exact hA h0)
      · rename_i e
        subst h
        cases e
        cases hv
        exact .sub (by omega) (Nat.le_refl _) (fun h0 => absurd h0 (Nat.lt_irrefl _))
      · exact h.elim
    · rename_i hj
      have hi := (List.getElem?_eq_some_iff.1 hj).1
      obtain ⟨e, rfl⟩ := h
      cases e
      cases hv
      exact .sub (by omega) (Nat.le_refl _) (fun h0 => absurd h0 (Nat.lt_irrefl _))
    · exact h.elim
  · rename_i i k sz o
    split at h
    · rename_i j hj
      cases h
      have hi := (List.getElem?_eq_some_iff.1 hj).1
      cases hv with
      | eptr hlt he => exact .eptr (by omega) (by simp only [ren, hj]; exact he)
    · exact h.elim

theorem matchC_sound {r : Ren} {n n' : Nat} (hn' : n' = r.length) : ∀ {as bs : List AV} {vs : List Value}, matchC r as bs → AllR s n w S bs vs → AllR (ren s r) n' w S as vs
  | [], [], vs, _, h => by rw [h.inv0]; exact AllR.nil
  | a :: as, b :: bs, vs, hm, h => by
    obtain ⟨v, vs', rfl, h1, h2⟩ := h.inv
    exact AllR.cons (matchV_sound hn' hm.1 h1) (matchC_sound hn' hm.2 h2)
  | [], _ :: _, _, hm, _ => hm.elim
  | _ :: _, [], _, hm, _ => hm.elim

theorem matchE_sound {r : Ren} {n n' : Nat} (hn' : n' = r.length) {E' : Env} (hE : ∀ t a, E'.get t = some a → ∃ v, tm[t]? = some v ∧ VR s n w S a v) : ∀ {E : Env}, matchE r E' E →
    ∀ t a, E.get t = some a → ∃ v, tm[t]? = some v ∧ VR (ren s r) n' w S a v
  | [], _, t, a, h => by cases h
  | (u, b) :: E, hm, t, a, h => by
    simp only [Env.get] at h
    split at h
    · rename_i e
      subst e
      cases h
      cases hg : E'.get t with
      | none =>
        have h1 := hm.1
        rw [hg] at h1
        unfold matchV at h1
        split at h1 <;> first | (split at h1 <;> cases h1; done) | (exact absurd h1.2 (by simp)) | (cases h1; done) | (split at h1 <;> first | exact h1.elim | cases h1.1)
      | some c =>
        obtain ⟨v, hv, hr⟩ := hE t c hg
        have h1 := hm.1
        rw [hg] at h1
        exact ⟨v, hv, matchV_sound hn' h1 hr⟩
    · exact matchE_sound hn' hE hm.2 t a h

theorem matchH_get {r0 : Ren} {H' : Heap} : ∀ {r : Ren} {H : Heap}, matchH r0 H' r H → r.length = H.length ∧ ∀ (i : Nat) (x : AObj), H[i]? = some x →
    (∃ j, r[i]? = some (some j) ∧ matchO r0 x H'[j]?) ∨ (r[i]? = some none ∧ (x = .dead ∨ ∃ ro e sz α enc d, x = .row ro e sz α enc d [] ∧ ro = false ∧ 0 < sz))
  | [], [], _ => ⟨rfl, fun i x h => by simp at h⟩
  | q :: r, y :: H, hm => by
    obtain ⟨h1, h2⟩ := matchH_get (r0 := r0) (H' := H') hm.2
    refine ⟨by simp [h1], fun i x h => ?_⟩
    cases i with
    | zero =>
      simp at h
      subst h
      have hm1 := hm.1
      cases q with
      | some j => exact .inl ⟨j, by simp, hm1⟩
      | none =>
        refine .inr ⟨by simp, ?_⟩
        cases y with
        | row ro e sz α enc d xs => obtain ⟨a, b, c⟩ := hm1; subst c; exact .inr ⟨_, _, _, _, _, _, rfl, a, b⟩
        | dead => exact .inl rfl
        | _ => exact hm1.elim
    | succ i => exact h2 i x (by simpa using h)
  | [], _ :: _, hm => hm.elim
  | _ :: _, [], hm => hm.elim

theorem Conc.renewD {E' E : Env} {H' H : Heap} (C : Conc w0 F S0 s S E' H' tm w) {r : Ren} (hnd : nodupD r H = true) (hE : matchE r E' E) (hH : matchH r H' r H) : Conc w0 F S0 (ren s r) S E H tm w := by
  obtain ⟨hlen, hget⟩ := matchH_get hH
  refine ⟨?_, ?_, ?_, ?_, C.lt, C.sub, C.new, C.keep, C.imm, C.grow, C.os, C.tape, C.output⟩
  · exact matchE_sound hlen.symm C.slots hE
  · intro i x hx
    rcases hget i x hx with ⟨j, hj, hm⟩ | ⟨hj, hm⟩
    · have hs : ren s r i = s j := by simp only [ren, hj]
      cases x with
      | dead => exact True.intro
      | box cs =>
        simp only [matchO] at hm
        split at hm
        · rename_i ds hd
          obtain ⟨b, t, vs, h1, h2, h3, h4, h5⟩ := C.objs j _ hd
          have hall := matchC_sound hlen.symm hm (⟨h3, h4⟩ : AllR s H'.length w S ds vs)
          exact ⟨b, t, vs, hs.trans h1, h2, hall.1, hall.2, h5⟩
        · exact hm.elim
      | row ro e sz α enc d xs =>
        obtain ⟨cs, h1, h0, h2, h3, h4⟩ := C.objs j _ hm
        exact ⟨cs, by rw [hs]; exact h1, h0, h2, h3, by rw [hs]; exact h4⟩
      | pin v a =>
        simp only [matchO] at hm
        split at hm
        · rename_i v' b hd
          obtain ⟨rfl, hm⟩ := hm
          obtain ⟨h1, h2⟩ := C.objs j _ hd
          exact ⟨hs.trans h1, matchV_sound hlen.symm hm h2⟩
        · exact hm.elim
      | map kk ν ev kvs =>
        obtain ⟨b, es, clock, h1, h2⟩ := C.objs j _ hm
        exact ⟨b, es, clock, hs.trans h1, h2⟩
    · rcases hm with rfl | ⟨ro, e, sz, α, enc, d, rfl, rfl, h0⟩
      · exact True.intro
      · have hs : ren s r i = .slice none 0 0 := by simp only [ren, hj]
        refine ⟨[], ?_, h0, fun k hk => by simp at hk, fun k j p hk => by simp at hk, fun b o hb => ?_⟩
        · rw [hs]; exact World.ownsRow_nil w 0 e sz
        · rw [hs] at hb; cases hb
  · rintro i j b ⟨x, hx, hdx⟩ ⟨y, hy, hdy⟩ bi bj
    have live' : ∀ (i : Nat) (x : AObj), H[i]? = some x → x ≠ .dead → blk (ren s r i) = some b → ∃ k, r[i]? = some (some k) ∧ live H' k ∧ blk (s k) = some b := by
      intro i x hx hd hb
      rcases hget i x hx with ⟨k, hk, hm⟩ | ⟨hk, _⟩
      · refine ⟨k, hk, ?_, by simpa only [ren, hk] using hb⟩
        cases hy : H'[k]? with
        | none =>
          rw [hy] at hm
          cases x with
          | dead => exact absurd rfl hd
          | box => exact hm.elim
          | row => cases hm
          | map => cases hm
          | pin => exact hm.elim
        | some y =>
          refine ⟨y, hy, ?_⟩
          rintro rfl
          rw [hy] at hm
          cases x with
          | dead => exact absurd rfl hd
          | box => exact hm.elim
          | row => cases hm
          | map => cases hm
          | pin => exact hm.elim
      · simp only [ren, hk] at hb
        cases hb
    obtain ⟨k, hk, lk, bk⟩ := live' i x hx hdx bi
    obtain ⟨m, hm, lm, bm⟩ := live' j y hy hdy bj
    have e := C.apart k m b lk lm bk bm
    subst e
    exact nodupR_inj hnd i j k ((liveR_get hx hdx).trans hk) ((liveR_get hy hdy).trans hm)
  · rintro i b ⟨x, hx, hd⟩ hb
    rcases hget i x hx with ⟨k, hk, hm⟩ | ⟨hk, _⟩
    · have hb' : blk (s k) = some b := by simpa only [ren, hk] using hb
      refine C.mine k b ?_ hb'
      cases hy : H'[k]? with
      | none =>
        rw [hy] at hm
        cases x with
        | dead => exact absurd rfl hd
        | box => exact hm.elim
        | row => cases hm
        | map => cases hm
        | pin => exact hm.elim
      | some y =>
        refine ⟨y, hy, ?_⟩
        rintro rfl
        rw [hy] at hm
        cases x with
        | dead => exact absurd rfl hd
        | box => exact hm.elim
        | row => cases hm
        | map => cases hm
        | pin => exact hm.elim
    · simp only [ren, hk] at hb
      cases hb

theorem Conc.renew {E' E : Env} {H' H : Heap} (C : Conc w0 F S0 s S E' H' tm w) {r : Ren} (hnd : nodupR r = true) (hE : matchE r E' E) (hH : matchH r H' r H) : Conc w0 F S0 (ren s r) S E H tm w := C.renewD (nodupD_of hnd) hE hH
theorem Conc.anew {E' E : Env} {H' H : Heap} (C : Conc w0 F S0 s S E' H' tm w) (h : Sub E' H' E H) : ∃ s', Conc w0 F S0 s' S E H tm w :=
  let ⟨r, h1, h2, h3⟩ := h
  ⟨ren s r, C.renewD h1 h2 h3⟩

theorem Conc.part {E : Env} {H : Heap} (C : Conc w0 F S0 s S E H tm w) {Hc : Heap} {r : Ren} (hnd : nodupR r = true) (hH : matchH r H r Hc) : Conc w (fun b => ∃ i, live Hc i ∧ blk (ren s r i) = some b) S (ren s r) S [] Hc #[] w := by
  have C1 : Conc w0 F S0 (ren s r) S [] Hc tm w := C.renew hnd True.intro hH
  exact ⟨fun t a h => (by cases h), C1.objs, C1.apart, fun i b hi hb => .inl ⟨i, hi, hb⟩, C1.lt, fun _ _ h => h, fun _ _ h => .inl h, fun _ _ _ => rfl, fun _ _ _ => rfl, Nat.le_refl _, rfl, rfl, rfl⟩
end

end Go.Vx

namespace Go.Vx
open Go.RowKit (Below)
/-! ### What a called function has done, told in the caller's numbers -/
def reN (r : Ren) (n i : Nat) : Nat :=
  match r[i]? with
  | some (some j) => j
  | _ => n + (i - r.length)

mutual
def reV (r : Ren) (n : Nat) : AV → AV
  | .pv p => .pv p
  | .nil => .nil
  | .own i => .own (reN r n i)
  | .ptr i o => .ptr (reN r n i) o
  | .eptr i k sz o => .eptr (reN r n i) k sz o
  | .sub i o sz len => .sub (reN r n i) o sz len
  | .rptr cs o => .rptr cs o
  | .map i => .map (reN r n i)
  | .agg cs => .agg (reL r n cs)
  | .tup cs => .tup (reL r n cs)
def reL (r : Ren) (n : Nat) : List AV → List AV
  | [] => []
  | a :: as => reV r n a :: reL r n as
end

theorem reL_map (r : Ren) (n : Nat) : ∀ cs, reL r n cs = cs.map (reV r n)
  | [] => by simp [reL]
  | a :: as => by simp [reL, reL_map r n as]

def reO (r : Ren) (n : Nat) : AObj → AObj
  | .box cs => .box (reL r n cs)
  | .pin v a => .pin v (reV r n a)
  | o => o

def place (r0 : Ren) (n : Nat) : Ren → Heap → Heap → Heap
  | some j :: rs, y :: ys, H => place r0 n rs ys (H.set j (reO r0 n y))
  | none :: rs, _ :: ys, H => place r0 n rs ys H
  | _, _, H => H

/-- The caller's things, as the called one has left them. -/
def merge (r : Ren) (H H' : Heap) : Heap := place r H.length r H' H ++ (H'.drop r.length).map (reO r H.length)

def allSome : Ren → Bool
  | [] => true
  | some _ :: r => allSome r
  | none :: _ => false
theorem allSome_get : ∀ {r : Ren}, allSome r = true → ∀ i, i < r.length → ∃ j, r[i]? = some (some j)
  | [], _, i, h => by simp at h
  | some j :: r, h, 0, _ => ⟨j, rfl⟩
  | some j :: r, h, i + 1, hi => by simpa using allSome_get (r := r) h i (by simpa using hi)
  | none :: r, h, _, _ => by simp [allSome] at h
def noDead : Heap → Bool
  | [] => true
  | .dead :: _ => false
  | _ :: H => noDead H
theorem noDead_get : ∀ {H : Heap}, noDead H = true → ∀ (i : Nat) (o : AObj), H[i]? = some o → o ≠ .dead
  | [], _, i, o, h => by simp at h
  | x :: H, hd, 0, o, h => by
    simp at h
    subst h
    rintro rfl
    simp [noDead] at hd
  | x :: H, hd, i + 1, o, h => noDead_get (H := H) (by cases x <;> first | exact hd | simp [noDead] at hd) i o (by simpa using h)

theorem place_length (r0 : Ren) (n : Nat) : ∀ (rs : Ren) (ys H : Heap), (place r0 n rs ys H).length = H.length
  | some j :: rs, y :: ys, H => by simp [place, place_length r0 n rs ys]
  | none :: rs, y :: ys, H => by simp [place, place_length r0 n rs ys]
  | [], _, H => by simp [place]
  | some _ :: _, [], H => by simp [place]
  | none :: _, [], H => by simp [place]

theorem place_get (r0 : Ren) (n : Nat) : ∀ (rs : Ren) (ys H : Heap), nodupR rs = true → rs.length ≤ ys.length → (∀ k, some k ∈ rs → k < H.length) → ∀ (i : Nat) (o : AObj), (place r0 n rs ys H)[i]? = some o →
    (∃ (k : Nat) (y : AObj), rs[k]? = some (some i) ∧ ys[k]? = some y ∧ o = reO r0 n y) ∨ ((∀ k : Nat, rs[k]? ≠ some (some i)) ∧ H[i]? = some o)
  | [], ys, H, _, _, _, i, o, h => .inr ⟨by simp, by simpa [place] using h⟩
  | none :: rs, [], H, _, hl, _, i, o, h => by simp at hl
  | some j :: rs, [], H, _, hl, _, i, o, h => by simp at hl
  | none :: rs, y :: ys, H, hnd, hl, hb, i, o, h => by
    rcases place_get r0 n rs ys H hnd (by simpa using hl) (fun k hk => hb k (by simp [hk])) i o h with ⟨k, z, h1, h2, h3⟩ | ⟨h1, h2⟩
    · exact .inl ⟨k + 1, z, by simpa using h1, by simpa using h2, h3⟩
    · refine .inr ⟨fun k => ?_, h2⟩
      cases k with
      | zero => simp
      | succ k => simpa using h1 k
  | some j :: rs, y :: ys, H, hnd, hl, hb, i, o, h => by
    simp only [nodupR, Bool.and_eq_true, Bool.not_eq_true'] at hnd
    rcases place_get r0 n rs ys (H.set j (reO r0 n y)) hnd.2 (by simpa using hl) (fun k hk => by simpa using hb k (by simp [hk])) i o h with ⟨k, z, h1, h2, h3⟩ | ⟨h1, h2⟩
    · exact .inl ⟨k + 1, z, by simpa using h1, by simpa using h2, h3⟩
    · rw [List.getElem?_set] at h2
      by_cases hji : j = i
      · subst hji
        rw [if_pos rfl, if_pos (hb j (by simp))] at h2
        cases h2
        exact .inl ⟨0, y, rfl, rfl, rfl⟩
      · rw [if_neg hji] at h2
        refine .inr ⟨fun k => ?_, h2⟩
        cases k with
        | zero => simp [hji]
        | succ k => simpa using h1 k

def Fof (s : Nat → Value) (H : Heap) (b : Nat) : Prop := ∃ i, live H i ∧ blk (s i) = some b

/-- THE CONTRACT OF A CALL THAT TURNS WHAT IT IS HANDED: these things, and these arguments; what it returns, what has become of the things (with new ones behind them). -/
def ImpCall (P : Program) (f : FuncId) (bs : List AV) (Hc : Heap) (x : AV) (H' : Heap) : Prop :=
  isFn P f ∧ Hc.length ≤ H'.length ∧ ∀ (w : World) (S : Cells) (s : Nat → Value) (vs : List Value), Conc w (Fof s Hc) S s S [] Hc #[] w → AllR s Hc.length w S bs vs →
    Calls P f vs.toArray w fun e w' => ∃ (v : Value) (s' : Nat → Value) (S' : Cells), e = .returned v ∧ Conc w (Fof s Hc) S s' S' [] H' #[] w' ∧ VR s' H'.length w' S' x v ∧ ∀ i, i < Hc.length → s' i = s i

/-- A step that is such a call. -/
def ImpStep (P : Program) (f : FuncId) (as : List AV) (H : Heap) (K : AV → Heap → Prop) : Prop :=
  ∃ (r : Ren) (bs : List AV) (Hc : Heap) (x : AV) (H' : Heap), (nodupR r && allSome r && noDead Hc) = true ∧ matchC r bs as ∧ matchH r H r Hc ∧ ImpCall P f bs Hc x H' ∧ K (reV r H.length x) (merge r H H')

/-- Arguments as they are, or frozen and told as what they hold. -/
def ArgsM (H : Heap) : List AV → List AV → Prop
  | [], [] => True
  | a :: as, c :: cs => (FitA H a c ∨ c = a) ∧ ArgsM H as cs
  | _, _ => False
/-- Such a call, with some arguments frozen first. -/
def SoftStep (P : Program) (f : FuncId) (as : List AV) (H : Heap) (K : AV → Heap → Prop) : Prop := ∃ cs, ArgsM H as cs ∧ ImpStep P f cs (frzAL H as) K

section
variable {w0 w w' : World} {F : Nat → Prop} {S0 S S' : Cells} {s s' : Nat → Value} {E : Env} {H Hc H' : Heap} {tm : Array Value}

theorem VR.rename {r : Ren} {n m : Nat} {n1 : Nat} {ms : Nat → Value} (hren : ∀ i, i < n → ms (reN r m i) = s i ∧ reN r m i < n1) {a : AV} {v : Value} (h : VR s n w S a v) : VR ms n1 w S (reV r m a) v := by
  induction h with
  | pv h => simp only [reV]; exact .pv h
  | nil => simp only [reV]; exact .nil
  | own hi h => simp only [reV]; exact .own (hren _ hi).2 ((hren _ hi).1.trans h)
  | ptr hi h => simp only [reV]; exact .ptr (hren _ hi).2 ((hren _ hi).1.trans h)
  | eptr hi h => simp only [reV]; exact .eptr (hren _ hi).2 ((hren _ hi).1.trans h)
  | sub hi hc hA => simp only [reV]; exact .sub (hren _ hi).2 hc (fun h => let ⟨b, m, c, h1, h2, h3⟩ := hA h; ⟨b, m, c, (hren _ hi).1.trans h1, h2, h3⟩)
  | rptr u h => simp only [reV]; exact .rptr u h
  | map hi h => simp only [reV]; exact .map (hren _ hi).2 ((hren _ hi).1.trans h)
  | agg hl h ih =>
    simp only [reV, reL_map]
    refine .agg (by simpa using hl) fun j c v hc hv => ?_
    rw [List.getElem?_map] at hc
    obtain ⟨c', h1, h2⟩ := Option.map_eq_some_iff.1 hc
    subst h2
    exact ih j c' v h1 hv
  | tup hl h ih =>
    simp only [reV, reL_map]
    refine .tup (by simpa using hl) fun j c v hc hv => ?_
    rw [List.getElem?_map] at hc
    obtain ⟨c', h1, h2⟩ := Option.map_eq_some_iff.1 hc
    subst h2
    exact ih j c' v h1 hv

theorem OR.rename {r : Ren} {n m : Nat} {n1 : Nat} {ms : Nat → Value} (hren : ∀ i, i < n → ms (reN r m i) = s i ∧ reN r m i < n1) {i : Nat} (hi : i < n) {o : AObj} (h : OR s n w S i o) : OR ms n1 w S (reN r m i) (reO r m o) := by
  have e := (hren i hi).1
  cases o with
  | dead => exact True.intro
  | box cs =>
    obtain ⟨b, t, vs, h1, h2, h3, h4, h5⟩ := h
    refine ⟨b, t, vs, e.trans h1, h2, by rw [reL_map, List.length_map]; exact h3, fun j c v hc hv => ?_, h5⟩
    rw [reL_map, List.getElem?_map] at hc
    obtain ⟨c', h6, h7⟩ := Option.map_eq_some_iff.1 hc
    subst h7
    exact (h4 j c' v h6 hv).rename hren
  | row ro e' sz α enc d xs =>
    obtain ⟨cs, h1, h2⟩ := h
    exact ⟨cs, by rw [e]; exact h1, by rw [e]; exact h2⟩
  | map kk ν ev kvs =>
    obtain ⟨b, es, clock, h1, h2⟩ := h
    exact ⟨b, es, clock, e.trans h1, h2⟩
  | pin v a => exact ⟨e.trans h.1, h.2.rename hren⟩

/-- A thing that a call has not touched; more cells are told. -/
theorem OR.more {n n' : Nat} (hn : n ≤ n') (hs : ∀ i, i < n → s' i = s i) (hS : ∀ b o, S b o → S' b o) (hw : ∀ b o, S b o → w'.cell? ⟨b, o, none⟩ = w.cell? ⟨b, o, none⟩) {i : Nat} {o : AObj} (hi : i < n)
    (hb : ∀ b, blk (s i) = some b → w'.heap[b]? = w.heap[b]?) (hnew : ∀ b k, blk (s i) = some b → S' b k → S b k) (h : OR s n w S i o) : OR s' n' w' S' i o := by
  cases o with
  | dead => exact True.intro
  | box cs =>
    obtain ⟨b, t, vs, h1, h2, h3, h4, h5⟩ := h
    exact ⟨b, t, vs, (hs i hi).trans h1, (hb b (by rw [h1]; rfl)).trans h2, h3, fun j c v hc hv => (h4 j c v hc hv).mono hn hs hS hw, fun k hk => h5 k (hnew b k (by rw [h1]; rfl) hk)⟩
  | row ro e sz α enc d xs =>
    obtain ⟨cs, h1, h0, h2, h3, h4⟩ := h
    refine ⟨cs, ?_, h0, h2, fun k j p hk hp => let ⟨v, a, r⟩ := h3 k j p hk hp; ⟨v, a, r.mono hS hw⟩, by rw [hs i hi]; exact fun b k hb' hk => h4 b k hb' (hnew b k hb' hk)⟩
    rw [hs i hi]
    refine ⟨h1.1, ?_⟩
    rcases h1.2 with h2 | ⟨g, cap, cur, e1, e2, e3, e4⟩
    · exact .inl h2
    · exact .inr ⟨g, cap, cur, e1, e2, (hb g (by rw [e1]; rfl)).trans e3, e4⟩
  | pin v a => exact ⟨(hs i hi).trans h.1, h.2.mono hn hs hS hw⟩
  | map kk ν ev kvs =>
    obtain ⟨b, es, clock, h1, h2, h3, h4, h5, h6, h7⟩ := h
    exact ⟨b, es, clock, (hs i hi).trans h1, (hb b (by rw [h1]; rfl)).trans h2, h3, fun j e kv he hk => (h4 j e kv he hk).mono hS hw, h5, h6, fun k hk => h7 k (hnew b k (by rw [h1]; rfl) hk)⟩

def msOf (r : Ren) (n : Nat) (s s' : Nat → Value) (i : Nat) : Value := if i < n then s i else s' (i - n + r.length)

theorem Conc.back (C : Conc w0 F S0 s S E H tm w) {r : Ren} (hnd : nodupR r = true) (hall : allSome r = true) (hdead : noDead Hc = true) (hH : matchH r H r Hc)
    (C' : Conc w (Fof (ren s r) Hc) S s' S' [] H' #[] w') (hle : Hc.length ≤ H'.length) (hs : ∀ i, i < Hc.length → s' i = ren s r i) :
    Conc w0 F S0 (msOf r H.length s s') S' E (merge r H H') tm w' ∧ ∀ x v, VR s' H'.length w' S' x v → VR (msOf r H.length s s') (merge r H H').length w' S' (reV r H.length x) v := by
  obtain ⟨hrl, hget⟩ := matchH_get hH
  have hall' := allSome_get hall
  have hnd' := noDead_get hdead
  -- numbers of what was handed over
  have himg : ∀ (k j : Nat), r[k]? = some (some j) → k < Hc.length ∧ live H j ∧ live Hc k := by
    intro k j hk
    have hkl : k < Hc.length := by rw [← hrl]; exact (List.getElem?_eq_some_iff.1 hk).1
    have hx := List.getElem?_eq_getElem hkl
    have hxd := hnd' k _ hx
    refine ⟨hkl, ?_, ⟨_, hx, hxd⟩⟩
    rcases hget k _ hx with ⟨j', hj', hm⟩ | ⟨hj', _⟩
    · rw [hk] at hj'
      cases hj'
      cases hy : H[j]? with
      | none =>
        rw [hy] at hm
        generalize Hc[k] = x at hm hxd
        cases x with
        | dead => exact absurd rfl hxd
        | box => exact hm.elim
        | row => cases hm
        | map => cases hm
        | pin => exact hm.elim
      | some y =>
        refine ⟨y, hy, ?_⟩
        rintro rfl
        rw [hy] at hm
        generalize Hc[k] = x at hm hxd
        cases x with
        | dead => exact absurd rfl hxd
        | box => exact hm.elim
        | row => cases hm
        | map => cases hm
        | pin => exact hm.elim
    · rw [hk] at hj'; cases hj'
  have himgl : ∀ (k j : Nat), r[k]? = some (some j) → j < H.length := fun k j hk => by
    obtain ⟨o, ho, _⟩ := (himg k j hk).2.1
    exact (List.getElem?_eq_some_iff.1 ho).1
  have hren : ∀ (k j : Nat), r[k]? = some (some j) → ren s r k = s j := fun k j hk => by simp only [ren, hk]
  have hlen : (merge r H H').length = H.length + (H'.length - r.length) := by simp [merge, place_length]
  have hms : ∀ i, i < H'.length → msOf r H.length s s' (reN r H.length i) = s' i ∧ reN r H.length i < (merge r H H').length := by
    intro i hi
    by_cases hir : i < r.length
    · obtain ⟨j, hj⟩ := hall' i hir
      have e : reN r H.length i = j := by simp only [reN, hj]
      have hjl := himgl i j hj
      rw [e, hlen]
      refine ⟨?_, by omega⟩
      rw [msOf, if_pos hjl, hs i (by omega), hren i j hj]
    · have e : reN r H.length i = H.length + (i - r.length) := by
        simp only [reN]
        rw [List.getElem?_eq_none (by omega)]
      rw [e, hlen]
      refine ⟨?_, by omega⟩
      rw [msOf, if_neg (by omega)]
      congr 1
      omega
  have hold : ∀ i, i < H.length → msOf r H.length s s' i = s i := fun i hi => by rw [msOf, if_pos hi]
  have hcell : ∀ b o, S b o → w'.cell? ⟨b, o, none⟩ = w.cell? ⟨b, o, none⟩ := C'.imm
  -- what lies where
  have hobj : ∀ (i : Nat) (o : AObj), (merge r H H')[i]? = some o →
      (∃ (k : Nat) (y : AObj), r[k]? = some (some i) ∧ H'[k]? = some y ∧ o = reO r H.length y ∧ i < H.length) ∨ ((∀ k : Nat, r[k]? ≠ some (some i)) ∧ H[i]? = some o ∧ i < H.length) ∨
      (∃ (k : Nat) (y : AObj), r.length ≤ k ∧ i = reN r H.length k ∧ H.length ≤ i ∧ H'[k]? = some y ∧ o = reO r H.length y) := by
    intro i o ho
    unfold merge at ho
    by_cases hi : i < H.length
    · rw [List.getElem?_append_left (by rw [place_length]; exact hi)] at ho
      rcases place_get r H.length r H' H hnd (by omega) (fun k hk => by obtain ⟨q, hq⟩ := List.getElem?_of_mem hk; exact himgl q k hq) i o ho with ⟨k, y, h1, h2, h3⟩ | ⟨h1, h2⟩
      · exact .inl ⟨k, y, h1, h2, h3, hi⟩
      · exact .inr (.inl ⟨h1, h2, hi⟩)
    · rw [List.getElem?_append_right (by rw [place_length]; omega), place_length, List.getElem?_map, List.getElem?_drop] at ho
      obtain ⟨y, h1, h2⟩ := Option.map_eq_some_iff.1 ho
      refine .inr (.inr ⟨r.length + (i - H.length), y, by omega, ?_, by omega, h1, h2.symm⟩)
      simp only [reN]
      rw [List.getElem?_eq_none (by omega)]
      simp
      omega
  have hlive' : ∀ k y, H'[k]? = some y → reO r H.length y ≠ .dead → live H' k := fun k y hk hd => ⟨y, hk, by rintro rfl; exact hd rfl⟩
  have hFc : ∀ b, Fof (ren s r) Hc b → ∃ (k j : Nat), r[k]? = some (some j) ∧ blk (s j) = some b := by
    rintro b ⟨k, ⟨o, ho, _⟩, hb⟩
    have hk : k < r.length := by rw [hrl]; exact (List.getElem?_eq_some_iff.1 ho).1
    obtain ⟨j, hj⟩ := hall' k hk
    exact ⟨k, j, hj, by rw [← hren k j hj]; exact hb⟩
  have hother : ∀ i, live H i → (∀ k : Nat, r[k]? ≠ some (some i)) → ∀ b, blk (s i) = some b → b < w.heap.size ∧ ¬ Fof (ren s r) Hc b := by
    intro i hi hno b hb
    obtain ⟨o, ho, hd⟩ := hi
    refine ⟨(C.objs i o ho).lt hd hb, fun hf => ?_⟩
    obtain ⟨k, j, hk, hbj⟩ := hFc b hf
    have := C.apart i j b ⟨o, ho, hd⟩ (himg k j hk).2.1 hb hbj
    subst this
    exact hno k hk
  refine ⟨⟨?_, ?_, ?_, ?_, C'.lt, fun b o h => C'.sub b o (C.sub b o h), ?_, ?_, ?_, Nat.le_trans C.grow C'.grow, C'.os.trans C.os, C'.tape.trans C.tape, C'.output.trans C.output⟩, fun x v hv => hv.rename hms⟩
  · intro t a ha
    obtain ⟨v, hv, hr⟩ := C.slots t a ha
    exact ⟨v, hv, hr.mono (by rw [hlen]; omega) hold C'.sub hcell⟩
  · intro i o ho
    rcases hobj i o ho with ⟨k, y, h1, h2, rfl, h4⟩ | ⟨h1, h2, h3⟩ | ⟨k, y, h1, rfl, h3, h4, rfl⟩
    · have e : reN r H.length k = i := by simp only [reN, h1]
      have := (C'.objs k y h2).rename hms (List.getElem?_eq_some_iff.1 h2).1
      rwa [e] at this
    · by_cases hd : o = .dead
      · subst hd; exact True.intro
      have hlv : live H i := ⟨o, h2, hd⟩
      refine OR.more (s := s) (w := w) (S := S) (n := H.length) (by rw [hlen]; omega) hold C'.sub hcell h3 (fun b hb => ?_) (fun b k hb hk => ?_) (C.objs i o h2)
      · obtain ⟨g1, g2⟩ := hother i hlv h1 b hb
        exact C'.keep b g1 g2
      · obtain ⟨g1, g2⟩ := hother i hlv h1 b hb
        rcases C'.new b k hk with h | h | h
        · exact h
        · exact absurd h g2
        · omega
    · exact (C'.objs k y h4).rename hms (List.getElem?_eq_some_iff.1 h4).1
  · -- apart
    have key : ∀ (i : Nat), live (merge r H H') i → ∀ b, blk (msOf r H.length s s' i) = some b → (∃ k, live H' k ∧ reN r H.length k = i ∧ blk (s' k) = some b) ∨ (live H i ∧ (∀ k : Nat, r[k]? ≠ some (some i)) ∧ blk (s i) = some b) := by
      rintro i ⟨o, ho, hd⟩ b hb
      rcases hobj i o ho with ⟨k, y, h1, h2, rfl, h4⟩ | ⟨h1, h2, h3⟩ | ⟨k, y, h1, rfl, h3, h4, rfl⟩
      · have e : reN r H.length k = i := by simp only [reN, h1]
        refine .inl ⟨k, hlive' k y h2 hd, e, ?_⟩
        rw [← (hms k (List.getElem?_eq_some_iff.1 h2).1).1, e]
        exact hb
      · exact .inr ⟨⟨o, h2, hd⟩, h1, by rw [← hold i h3]; exact hb⟩
      · refine .inl ⟨k, hlive' k y h4 hd, rfl, ?_⟩
        rw [← (hms k (List.getElem?_eq_some_iff.1 h4).1).1]
        exact hb
    have clash : ∀ (k i b : Nat), live H' k → blk (s' k) = some b → live H i → (∀ k : Nat, r[k]? ≠ some (some i)) → blk (s i) = some b → False := by
      intro k i b hk hbk hi hno hbi
      obtain ⟨g1, g2⟩ := hother i hi hno b hbi
      rcases C'.mine k b hk hbk with h | h
      · exact g2 h
      · omega
    intro i j b hi hj bi bj
    rcases key i hi b bi with ⟨k, h1, h2, h3⟩ | ⟨h1, h2, h3⟩ <;> rcases key j hj b bj with ⟨k', g1, g2, g3⟩ | ⟨g1, g2, g3⟩
    · have := C'.apart k k' b h1 g1 h3 g3
      subst this
      rw [← h2, ← g2]
    · exact (clash k j b h1 h3 g1 g2 g3).elim
    · exact (clash k' i b g1 g3 h1 h2 h3).elim
    · exact C.apart i j b h1 g1 h3 g3
  · rintro i b ⟨o, ho, hd⟩ hb
    have viaC : ∀ k, live H' k → blk (s' k) = some b → F b ∨ w0.heap.size ≤ b := by
      intro k hk hbk
      rcases C'.mine k b hk hbk with h | h
      · obtain ⟨q, j, hq, hbj⟩ := hFc b h
        exact C.mine j b (himg q j hq).2.1 hbj
      · have := C.grow; exact .inr (by omega)
    rcases hobj i o ho with ⟨k, y, h1, h2, rfl, h4⟩ | ⟨h1, h2, h3⟩ | ⟨k, y, h1, rfl, h3, h4, rfl⟩
    · have e : reN r H.length k = i := by simp only [reN, h1]
      refine viaC k (hlive' k y h2 hd) ?_
      rw [← (hms k (List.getElem?_eq_some_iff.1 h2).1).1, e]
      exact hb
    · exact C.mine i b ⟨o, h2, hd⟩ (by rw [← hold i h3]; exact hb)
    · refine viaC k (hlive' k y h4 hd) ?_
      rw [← (hms k (List.getElem?_eq_some_iff.1 h4).1).1]
      exact hb
  · intro b o hb
    rcases C'.new b o hb with h | h | h
    · exact C.new b o h
    · obtain ⟨q, j, hq, hbj⟩ := hFc b h
      rcases C.mine j b (himg q j hq).2.1 hbj with h | h
      · exact .inr (.inl h)
      · exact .inr (.inr h)
    · have := C.grow; exact .inr (.inr (by omega))
  · intro b hb hf
    rw [← C.keep b hb hf]
    refine C'.keep b (Nat.lt_of_lt_of_le hb C.grow) fun h => ?_
    obtain ⟨q, j, hq, hbj⟩ := hFc b h
    rcases C.mine j b (himg q j hq).2.1 hbj with h | h
    · exact hf h
    · omega
  · intro b o h
    exact (hcell b o (C.sub b o h)).trans (C.imm b o h)
end
section
variable {w0 w w' : World} {F : Nat → Prop} {S0 S : Cells} {s : Nat → Value} {E : Env} {H : Heap} {tm : Array Value}
theorem VR.free {n : Nat} {a : AV} {v : Value} (h : VR noS 0 w S a v) : VR s n w S a v := h.mono (Nat.zero_le _) (fun i hi => absurd hi (Nat.not_lt_zero _)) (fun _ _ h => h) (fun _ _ _ => rfl)
theorem ArgsM.frzA : ∀ {as bs : List AV} {H : Heap} (c : AV), ArgsM H as bs → ArgsM (Vx.frzA H c) as bs
  | [], [], _, _, h => h
  | a :: as, b :: bs, H, c, h => ⟨h.1.imp (fun k => k.frzA c) id, ArgsM.frzA c h.2⟩
  | [], _ :: _, _, _, h => h.elim
  | _ :: _, [], _, _, h => h.elim
theorem Conc.frzAM : ∀ (as : List AV) {S : Cells} {H : Heap} (C : Conc w0 F S0 s S E H tm w), ∃ S', More H s S S' ∧ Conc w0 F S0 s S' E (Vx.frzAL H as) tm w ∧
    ∀ bs, ArgsM H as bs → ∀ vs, AllR s H.length w S as vs → AllR s H.length w S' bs vs
  | [], S, H, C => ⟨S, More.refl, C, fun bs hf vs hv => by
      cases bs with
      | nil => rw [hv.inv0]; exact AllR.nil
      | cons => exact hf.elim⟩
  | a :: as, S, H, C => by
    obtain ⟨S1, m1, C1, f1⟩ := C.frzA a
    obtain ⟨S2, m2, C2, f2⟩ := Conc.frzAM as C1
    refine ⟨S2, m1.trans m2 fun j h => live_frzA h, C2, fun bs hf vs hv => ?_⟩
    cases bs with
    | nil => exact hf.elim
    | cons b bs =>
      obtain ⟨v, vs', rfl, hv1, hv2⟩ := hv.inv
      have h2 := f2 bs (hf.2.frzA a) vs' ((hv2.mono (Nat.le_of_eq (length_frzA H a).symm) (fun _ _ => rfl) m1.1 (fun _ _ _ => rfl)))
      rw [length_frzA] at h2
      refine AllR.cons ?_ h2
      rcases hf.1 with h | rfl
      · exact ((f1 b h v hv1).mono (Nat.le_refl _) (fun _ _ => rfl) m2.1 (fun _ _ _ => rfl)).free
      · exact hv1.mono (Nat.le_refl _) (fun _ _ => rfl) (fun b o h => m2.1 b o (m1.1 b o h)) (fun _ _ _ => rfl)
end
end Go.Vx

namespace Go.Vx
open Go.RowKit (Below)

def getAll (ρ : Operand → Option AV) : List Operand → Option (List AV)
  | [] => some []
  | x :: xs => match ρ x with
    | some v => match getAll ρ xs with
      | some vs => some (v :: vs)
      | none => none
    | none => none

def getParts (ρ : Operand → Option AV) : List (Nat × Operand) → Option (List (Nat × AV))
  | [] => some []
  | (i, x) :: xs => match ρ x with
    | some v => match getParts ρ xs with
      | some vs => some ((i, v) :: vs)
      | none => none
    | none => none

/-- Where the fields of a struct lie, and how many cells they have. -/
def places (T : Tab) : List (Nat × TypeId) → Option (List (Nat × Nat))
  | [] => some []
  | (off, t) :: fs => match T.get t with
    | some i => match places T fs with
      | some ps => some ((off, i.size) :: ps)
      | none => none
    | none => none

/-- A bound of a slice expression. -/
def optInt (ρ : Operand → Option AV) (x : Option Operand) (dflt : Int) : Option Int :=
  match x with
  | none => some dflt
  | some o => match ρ o with
    | some (.pv (.lit (.int _ n))) => some n
    | _ => none


/-- A check that comes out by itself. -/
def chk (b : Bool) (K : Prop) : Prop :=
  match b with
  | true => K
  | false => False
theorem chk_inv {b : Bool} {K : Prop} (h : chk b K) : b = true ∧ K := by
  cases b
  · exact h.elim
  · exact ⟨rfl, h⟩
def hasLen {α : Type _} : Nat → List α → Bool
  | 0, _ => true
  | n + 1, _ :: xs => hasLen n xs
  | _ + 1, [] => false
theorem hasLen_le {α : Type _} : ∀ {n : Nat} {xs : List α}, hasLen n xs = true → n ≤ xs.length
  | 0, _, _ => Nat.zero_le _
  | n + 1, x :: xs, h => Nat.succ_le_succ (hasLen_le (n := n) (xs := xs) h)
  | n + 1, [], h => by cases h
def isLen {α : Type _} : Nat → List α → Bool
  | 0, [] => true
  | n + 1, _ :: xs => isLen n xs
  | _, _ => false
theorem isLen_eq {α : Type _} : ∀ {n : Nat} {xs : List α}, isLen n xs = true → xs.length = n
  | 0, [], _ => rfl
  | n + 1, x :: xs, h => congrArg (· + 1) (isLen_eq (n := n) (xs := xs) h)
  | 0, _ :: _, h => by cases h
  | n + 1, [], h => by cases h

/-- The cells of a value of a type, out of a row of cells. -/
def takeV (i : TI) (cs : List AV) (o : Nat) (K : AV → Prop) : Prop :=
  match isAggK i.kind with
  | true => chk (hasLen (o + i.size) cs) (K (.agg ((cs.drop o).take i.size)))
  | false => match cs[o]? with
    | some c => K c
    | none => False
theorem takeV_inv {i : TI} {cs : List AV} {o : Nat} {K : AV → Prop} (h : takeV i cs o K) : (isAggK i.kind = true ∧ o + i.size ≤ cs.length ∧ K (.agg ((cs.drop o).take i.size))) ∨ (isAggK i.kind = false ∧ ∃ c, cs[o]? = some c ∧ K c) := by
  unfold takeV at h
  split at h
  · rename_i e
    obtain ⟨h1, h2⟩ := chk_inv h
    exact .inl ⟨e, hasLen_le h1, h2⟩
  · rename_i e
    split at h
    · rename_i c hc; exact .inr ⟨e, c, hc, h⟩
    · exact h.elim

def noTup : AV → Bool
  | .tup _ => false
  | _ => true

def litsOf : List AV → Option (List Value)
  | [] => some []
  | .pv (.lit v) :: r => match litsOf r with
    | some vs => some (v :: vs)
    | none => none
  | _ => none

/-! ### Maps -/
def keyK : TK → Option KK
  | .int k => some (.int k)
  | .string => some .str
  | _ => none
def KK.of : (kk : KK) → Value → Option kk.T
  | .int k, .int k' n => if k = k' then some n else none
  | .str, .string s => some s
  | _, _ => none
def sameK : KK → KK → Bool
  | .int k, .int k' => k == k'
  | .str, .str => true
  | _, _ => false
def KK.eq : (kk : KK) → kk.T → kk.T → Bool
  | .int _ => fun (a b : Int) => decide (a = b)
  | .str => fun (a b : ByteArray) => a == b
def look (kk : KK) {ν : Type} : List (kk.T × ν) → kk.T → Option ν
  | [], _ => none
  | (a, y) :: r, k => if kk.eq k a = true then some y else look kk r k
def upsert (kk : KK) {ν : Type} : List (kk.T × ν) → kk.T → ν → List (kk.T × ν)
  | [], k, x => [(k, x)]
  | (a, y) :: r, k, x => if kk.eq k a = true then (a, x) :: r else (a, y) :: upsert kk r k x
def without (kk : KK) {ν : Type} : List (kk.T × ν) → kk.T → List (kk.T × ν)
  | [], _ => []
  | (a, y) :: r, k => if kk.eq k a = true then r else (a, y) :: without kk r k
/-- The cells of a map's value, as a value. -/
def entV (i : TI) (cs : List AV) (K : AV → Prop) : Prop :=
  match isAggK i.kind with
  | true => chk (isLen i.size cs) (K (.agg cs))
  | false => match cs with
    | [c] => K c
    | _ => False
def okV (ok : Bool) (v : AV) (b : Bool) : AV :=
  match ok with
  | true => .tup [v, .pv (.lit (.bool b))]
  | false => v
def goodVal : AV → Bool
  | .agg [_] => false
  | _ => true

/-! The heap's length and its turning, told so that they unfold cheaply. -/
def lenB : Heap → Nat → Nat
  | [], n => n
  | _ :: l, n => lenB l (n + 1)
def hlen (H : Heap) : Nat := lenB H 0
theorem lenB_eq : ∀ (H : Heap) (n : Nat), lenB H n = H.length + n
  | [], n => by simp [lenB]
  | x :: H, n => by rw [lenB, lenB_eq H]; simp; omega
theorem hlen_eq (H : Heap) : hlen H = H.length := lenB_eq H 0
def hsetGo (i : Nat) (x : AObj) : Heap → Nat → Heap
  | [], _ => []
  | y :: l, n => (match Nat.beq n i with
    | true => x
    | false => y) :: hsetGo i x l (n + 1)
def hset (H : Heap) (i : Nat) (x : AObj) : Heap := hsetGo i x H 0
theorem beq_no {n i : Nat} (h : n ≠ i) : Nat.beq n i = false := by
  cases hb : Nat.beq n i with
  | false => rfl
  | true => exact absurd (Nat.eq_of_beq_eq_true hb) h
theorem hsetGo_eq (i : Nat) (x : AObj) : ∀ (H : Heap) (n : Nat), hsetGo i x H n = if n ≤ i then H.set (i - n) x else H
  | [], n => by simp [hsetGo]
  | y :: H, n => by
    rw [hsetGo, hsetGo_eq i x H (n + 1)]
    rcases Nat.lt_trichotomy n i with h | h | h
    · have h1 : Nat.beq n i = false := beq_no (by omega)
      rw [if_pos (by omega), if_pos (by omega), h1, show i - n = (i - (n + 1)) + 1 from by omega]
      rfl
    · subst h
      have h1 : Nat.beq n n = true := Nat.beq_refl n
      rw [if_neg (by omega), if_pos (Nat.le_refl _), h1, Nat.sub_self]
      rfl
    · have h1 : Nat.beq n i = false := beq_no (by omega)
      rw [if_neg (by omega), if_neg (by omega), h1]
theorem hset_eq (H : Heap) (i : Nat) (x : AObj) : hset H i x = H.set i x := by
  rw [hset, hsetGo_eq, if_pos (Nat.zero_le _)]; rfl

/-- Cells of the call's own are frozen; what follows is told of the heap behind it. -/
def frzK (H : Heap) : List AV → (Heap → Prop) → Prop
  | [], k => k H
  | .own i :: cs, k => frzK (frz1 H i) cs k
  | .sub i _ _ _ :: cs, k => frzK (frz1 H i) cs k
  | _ :: cs, k => frzK H cs k
theorem frzK_eq : ∀ (cs : List AV) {H : Heap} {k : Heap → Prop}, frzK H cs k → k (frzL H cs)
  | [], H, k, h => h
  | c :: cs, H, k, h => by cases c <;> exact frzK_eq cs h
/-- Parts, in order: the cells of each. -/
def inOrd (sz : Nat) : Nat → Nat → List (Nat × AV) → Bool
  | 0, _, [] => true
  | len + 1, n, (i, v) :: ps => match Nat.beq i n && isLen sz (cellsOf v) with
    | true => inOrd sz len (n + 1) ps
    | false => false
  | _, _, _ => false
def partCells : List (Nat × AV) → List AV
  | [] => []
  | (_, v) :: ps => cellsOf v ++ partCells ps
noncomputable def FitParts (H : Heap) {α : Type} (enc : α → List PV) (ps : List (Nat × AV)) : List α → Prop :=
  List.rec (motive := fun _ => List α → Prop) (fun xs => match xs with
    | [] => True
    | _ => False) (fun p _ ih xs => match xs with
    | x :: xs => FitL H (cellsOf p.2) ((enc x).map AV.pv) ∧ ih xs
    | [] => False) ps
theorem FitL_append {H : Heap} : ∀ {as bs as' bs' : List AV}, FitL H as bs → FitL H as' bs' → FitL H (as ++ as') (bs ++ bs')
  | [], [], as', bs', _, h => h
  | a :: as, b :: bs, as', bs', h, h' => ⟨h.1, FitL_append h.2 h'⟩
  | [], _ :: _, _, _, h, _ => h.elim
  | _ :: _, [], _, _, h, _ => h.elim
theorem FitParts_sound {H : Heap} {α : Type} {enc : α → List PV} : ∀ {ps : List (Nat × AV)} {xs : List α}, FitParts H enc ps xs → FitL H (partCells ps) ((xs.flatMap enc).map AV.pv)
  | [], [], _ => trivial
  | (i, v) :: ps, x :: xs, h => by
    rw [List.flatMap_cons, List.map_append]
    exact FitL_append h.1 (FitParts_sound (ps := ps) (xs := xs) h.2)
  | [], _ :: _, h => h.elim
  | _ :: _, [], h => h.elim
theorem setRange_mid {α : Type _} {pre suf c : List α} (h : c.length ≤ suf.length) : setRange (pre ++ suf) pre.length c = (pre ++ c) ++ suf.drop c.length := by
  unfold setRange
  rw [List.take_left, List.drop_append, List.drop_eq_nil_of_le (by omega), show pre.length + c.length - pre.length = c.length from by omega, List.nil_append]
theorem fill_inOrd {sz : Nat} : ∀ (len n : Nat) (ps : List (Nat × AV)) (pre suf : List AV), inOrd sz len n ps = true → pre.length = n * sz → suf.length = len * sz →
    fillParts (fun k => some (k * sz, sz)) (pre ++ suf) ps = some (pre ++ partCells ps)
  | 0, n, [], pre, suf, _, hp, hs => by
    have : suf = [] := List.length_eq_zero_iff.1 (by rw [hs, Nat.zero_mul])
    subst this
    rfl
  | len + 1, n, (i, v) :: ps, pre, suf, h, hp, hs => by
    unfold inOrd at h
    split at h
    case h_2 => cases h
    rename_i hb
    rw [Bool.and_eq_true] at hb
    have hi : i = n := Nat.eq_of_beq_eq_true hb.1
    have hl := isLen_eq hb.2
    subst hi
    have hs' : suf.length = sz + len * sz := by rw [hs, Nat.add_mul]; omega
    rw [fillParts]
    simp only
    rw [if_pos ⟨hl, by rw [List.length_append]; omega⟩, ← hp, setRange_mid (by omega), fill_inOrd len (i + 1) ps _ _ h (by rw [List.length_append, hl, hp, Nat.add_mul]; omega) (by rw [List.length_drop, hl]; omega), partCells, List.append_assoc]
  | 0, n, _ :: _, pre, suf, h, _, _ => by cases h
  | len + 1, n, [], pre, suf, h, _, _ => by cases h

/-- Cells, nil told as a slice of nothing where that is wanted. -/
def nilC (c c' : AV) : Prop := c' = c ∨ (c = .nil ∧ ∃ (sz : Nat) (α : Type) (enc : α → List PV) (d : α), c' = .pv (.sl sz α enc d []))
noncomputable def FitN (as : List AV) : List AV → Prop :=
  List.rec (motive := fun _ => List AV → Prop) (fun bs => match bs with
    | [] => True
    | _ => False) (fun a _ ih bs => match bs with
    | b :: bs => nilC a b ∧ ih bs
    | [] => False) as
theorem FitN.length : ∀ {as bs : List AV}, FitN as bs → bs.length = as.length
  | [], [], _ => rfl
  | a :: as, b :: bs, h => by rw [List.length_cons, List.length_cons, FitN.length (as := as) (bs := bs) h.2]
  | [], _ :: _, h => h.elim
  | _ :: _, [], h => h.elim
theorem FitN.get : ∀ {as bs : List AV}, FitN as bs → ∀ (j : Nat) (b : AV), bs[j]? = some b → ∃ a, as[j]? = some a ∧ nilC a b
  | [], [], _, j, b, hb => by simp at hb
  | a :: as, b :: bs, h, j, c, hc => by
    cases j with
    | zero => cases hc; exact ⟨a, rfl, h.1⟩
    | succ j => exact FitN.get (as := as) (bs := bs) h.2 j c (by simpa using hc)
  | [], _ :: _, h, _, _, _ => h.elim
  | _ :: _, [], h, _, _, _ => h.elim
theorem FitN.allR {s : Nat → Value} {n : Nat} {w : World} {S : Cells} {as bs : List AV} {vs : List Value} (h : FitN as bs) (hr : AllR s n w S as vs) : AllR s n w S bs vs := by
  refine ⟨hr.1.trans h.length.symm, fun j b v hb hv => ?_⟩
  obtain ⟨a, ha, hab⟩ := h.get j b hb
  have := hr.2 j a v ha hv
  rcases hab with rfl | ⟨rfl, sz, α, enc, d, rfl⟩
  · exact this
  · cases this
    exact .pv (.sl none 0 0 sz α enc d [] (fun _ _ => undef) 0 0 rfl (Nat.le_refl _) (fun i hi => absurd hi (Nat.not_lt_zero _)) (fun hi => absurd hi (Nat.lt_irrefl _)) (fun i j hi => absurd hi (Nat.not_lt_zero _)) (fun i j p hi => absurd hi (Nat.not_lt_zero _)))

noncomputable def den (P : Program) (T : Tab) (op : Op) (ρ : Operand → Option AV) (H : Heap) (K : AV → Heap → Prop) : Prop :=
  match op with
  | .move x | .assign x => match ρ x with
    | some v => K v H
    | none => False
  | .pick c a b => match ρ c with
    | some (.pv (.lit (.bool t))) => match ρ a, ρ b with
      | some (.pv (.lit (.bool x))), some (.pv (.lit (.bool y))) => K (lb (cond t x y)) H
      | some x, some y => (t = true → K x H) ∧ (t = false → K y H)
      | _, _ => False
    | _ => False
  | .alloc t => match T.get t with
    | some i => K (.ptr (hlen H) 0) (H ++ [.box i.zero])
    | none => False
  | .box t x => match ρ x with
    | some v => chk (noTup v) (K (.ptr (hlen H) 0) (H ++ [.box (cellsOf v)]))
    | none => False
  | .build t parts => match T.get t, getParts ρ parts.toList with
    | some i, some ps => match i.kind with
      | .struct fs => match places T fs with
        | some pl => chk (ps.all fun p => noTup p.2) (match fillParts (pl[·]?) i.zero ps with
          | some cs => K (.agg cs) H
          | none => False)
        | none => False
      | .array _ e => match T.get e with
        | some te => chk (ps.all fun p => noTup p.2) (match fillParts (fun k => some (k * te.size, te.size)) i.zero ps with
          | some cs => K (.agg cs) H
          | none => False)
        | none => False
      | _ => False
    | _, _ => False
  | .binOp op t x y _ => match ρ x, ρ y with
    | some (.pv (.lit a)), some (.pv (.lit b)) => match binV op a b with
      | some (c, v) => under c (K (.pv (.lit v)) H)
      | none => match op, a, b, T.get t with
        | .eql, .bool p, .bool q, some i => match i.kind with
          | .bool => K (lb (p == q)) H
          | _ => False
        | .neq, .bool p, .bool q, some i => match i.kind with
          | .bool => K (lb (p != q)) H
          | _ => False
        | _, _, _, _ => False
    | some (.agg as), some (.agg bs) => match litsOf as, litsOf bs with
      | some xs, some ys => ∃ r : Bool, (∀ w : World, (eqGuard op t x y (.agg xs.toArray) (.agg ys.toArray)).run P w = .ok () w ∧ (binOp op t (.agg xs.toArray) (.agg ys.toArray)).run P w = .ok (.bool r) w) ∧ K (lb r) H
      | _, _ => False
    | _, _ => False
  | .unOp .not _ x => match ρ x with
    | some (.pv (.lit (.bool b))) => K (lb (!b)) H
    | _ => False
  | .unOp .neg _ x => match ρ x with
    | some (.pv (.lit (.int k n))) => K (lt' k (k.wrap (0 - n))) H
    | _ => False
  | .convert u t x => match ρ x, T.get t, T.get u with
    | some (.pv (.lit (.int _ n))), some i, some _ => match i.kind with
      | .int k => K (lt' k (k.wrap n)) H
      | _ => False
    | _, _, _ => False
  | .fieldAddr t x f => match ρ x, T.get t with
    | some a, some i => match i.kind with
      | .struct fs => match fs[f]? with
        | some (off, u) => match T.get u with
          | some j => match j.size with
            | 0 => False
            | _ + 1 => match a with
              | .ptr id o => K (.ptr id (o + off)) H
              | .eptr id j sz o => K (.eptr id j sz (o + off)) H
              | .rptr cs o => K (.rptr cs (o + off)) H
              | _ => False
          | none => False
        | none => False
      | _ => False
    | _, _ => False
  | .field t x f => match ρ x, T.get t with
    | some (.agg cs), some i => match i.kind with
      | .struct fs => match fs[f]? with
        | some (off, u) => match T.get u with
          | some j => takeV j cs off fun v => K v H
          | none => False
        | none => False
      | _ => False
    | _, _ => False
  | .load t x => match ρ x, T.get t with
    | some (.ptr id o), some i => match H[id]? with
      | some (.box cs) => takeV i cs o fun v => K v H
      | _ => False
    | some (.rptr cs o), some i => takeV i (cs.map AV.pv) o fun v => K v H
    | some (.eptr id j sz o), some i => match H[id]? with
      | some (.row _ _ sz' _ enc d xs) => chk (Nat.beq sz' sz) (j < xs.length ∧ takeV i ((enc (xs.getD j d)).map AV.pv) o fun v => K v H)
      | _ => False
    | _, _ => False
  | .store t a x => match ρ a, ρ x, T.get t with
    | some (.ptr id o), some v, some i => match H[id]? with
      | some (.box cs) => chk (noTup v && (cellsOf v).all isCell && isLen i.size (cellsOf v) && hasLen (o + i.size) cs) (K (.tup []) (hset H id (.box (setRange cs o (cellsOf v)))))
      | _ => False
    | some (.eptr id j sz o), some v, some i => match H[id]? with
      | some (.row false e sz' α enc d xs) => chk (noTup v && (cellsOf v).all isCell && isLen i.size (cellsOf v) && Nat.beq sz' sz && Nat.ble (o + i.size) sz) (j < xs.length ∧
          ∃ cs' : List AV, FitN (cellsOf v) cs' ∧ ∃ x' : α, (enc x').map AV.pv = setRange ((enc (xs.getD j d)).map AV.pv) o cs' ∧
            K (.tup []) (hset H id (.row false e sz' α enc d (xs.set j x'))))
      | _ => False
    | _, _, _ => False
  | .indexAddr t x i => match T.get t with
    | some ti => match ti.kind with
      | .array len e => match T.get e, ρ x, ρ i with
        | some te, some (.ptr id o), some (.pv (.lit (.int _ n))) => 0 ≤ n ∧ n < (len : Int) ∧ K (.ptr id (o + n.toNat * te.size)) H
        | _, _, _ => False
      | .slice e => match T.get e, ρ i with
        | some te, some (.pv (.lit (.int _ n))) => match ρ x with
          | some (.pv (.sl sz _ enc d xs)) => chk (Nat.beq sz te.size) (0 ≤ n ∧ n < (xs.length : Int) ∧ K (.rptr (enc (xs.getD n.toNat d)) 0) H)
          | some (.own id) => match H[id]? with
            | some (.row _ _ sz _ _ _ xs) => chk (Nat.beq sz te.size) (0 ≤ n ∧ n < (xs.length : Int) ∧ K (.eptr id n.toNat sz 0) H)
            | _ => False
          | _ => False
        | _, _ => False
      | _ => False
    | _ => False
  | .index t x i => match ρ x, ρ i, T.get t with
    | some (.pv (.lit (.string b))), some (.pv (.lit (.int _ n))), some ti => match ti.kind with
      | .string => 0 ≤ n ∧ n < (b.size : Int) ∧ K (lt' .u8 (b.data.toList.getD n.toNat 0).toNat) H
      | _ => False
    | _, _, _ => False
  | .extract x j => match ρ x with
    | some (.tup vs) => match vs[j]? with
      | some v => K v H
      | none => False
    | _ => False
  | .nilCheck x => match ρ x with
    | some (.ptr id o) => K (.ptr id o) H
    | some (.eptr id j sz o) => K (.eptr id j sz o) H
    | some (.rptr cs o) => K (.rptr cs o) H
    | _ => False
  | .call c => match c.callee with
    | .value x => match ρ x with
      | some (.pv (.lit (.func (.func f) xs ys))) => match xs.toList, ys.toList with
        | [], [] => match getAll ρ c.args.toList with
          | some as => (∃ bs r, FitAL H as bs ∧ PureCall P f bs r ∧ K r (if flatV r then H else frzAL H as)) ∨ ImpStep P f as H K ∨ SoftStep P f as H K
          | none => False
        | _, _ => False
      | _ => False
    | .builtin .len => match c.args.toList, c.argTypes.toList with
      | [x], [t] => match ρ x, T.get t with
        | some (.pv (.sl _ _ _ _ xs)), some i => match i.kind with
          | .slice _ => K (lt' .i64 xs.length) H
          | _ => False
        | some (.pv (.lit (.string b))), some i => match i.kind with
          | .string => K (lt' .i64 b.size) H
          | _ => False
        | some .nil, some i => match i.kind with
          | .slice _ => K (lt' .i64 0) H
          | _ => False
        | some (.own id), some i => match i.kind, H[id]? with
          | .slice _, some (.row _ _ _ _ _ _ xs) => K (lt' .i64 xs.length) H
          | _, _ => False
        | _, _ => False
      | _, _ => False
    | .builtin .delete => match c.args.toList, c.argTypes.toList with
      | m :: k :: _, t :: _ => match T.get t with
        | some ti => match ti.kind with
          | .map k' _ => match T.get k' with
            | some tk => match keyK tk.kind, ρ m, ρ k with
              | some kk, some (.map id), some (.pv (.lit kv)) => match H[id]? with
                | some (.map kk' ν ev kvs) => match kk'.of kv with
                  | some key => chk (sameK kk kk') (K (.tup []) (hset H id (.map kk' ν ev (without kk' kvs key))))
                  | none => False
                | _ => False
              | _, _, _ => False
            | none => False
          | _ => False
        | none => False
      | _, _ => False
    | .builtin .copy => match c.args.toList, c.argTypes.toList with
      | [x, y], [t, _] => match T.get t with
        | some i => match i.kind with
          | .slice e => match T.get e with
            | some te => chk (te.el && Nat.beq te.size 1) (match ρ x, ρ y with
              | some (.sub id o sz0 len), some (.pv (.sl sz1 α1 enc1 d1 ys1)) => match H[id]? with
                | some (.row false e' sz α enc d xs) => chk (Nat.beq sz 1 && Nat.beq sz0 1) (∃ ys : List α, PV.sl sz1 α1 enc1 d1 ys1 = .sl sz α enc d ys ∧ o + len ≤ xs.length ∧ K (lt' .i64 (min ys.length len : Nat)) (hset H id (.row false e' sz α enc d (setRange xs o (ys.take len)))))
                | _ => False
              | _, _ => False)
            | none => False
          | _ => False
        | none => False
      | _, _ => False
    | .builtin .append => match c.args.toList, c.argTypes.toList with
      | [x, y], [t, t'] => chk (Nat.beq t t') (match T.get t with
        | some i => match i.kind with
          | .slice e => match T.get e with
            | some te => chk te.el (match ρ x, ρ y with
              | some .nil, some v => ∃ ys : List te.α, FitP H v (.sl te.size te.α te.enc te.d ys) ∧ ys.length * te.bytes ≤ 140737488355328 ∧ K (.own (hlen H)) (H ++ [.row false e te.size te.α te.enc te.d ys])
              | some (.own id), some v => match H[id]? with
                | some (.row ro e' sz α enc d xs) => chk (Nat.beq e' e && Nat.beq sz te.size) (∃ ys : List α, FitP H v (.sl sz α enc d ys) ∧ (xs.length + ys.length) * te.bytes ≤ 140737488355328 ∧
                    K (.own (hlen H)) (hset H id .dead ++ [.row ro e' sz α enc d (xs ++ ys)]))
                | _ => False
              | _, _ => False)
            | none => False
          | _ => False
        | none => False)
      | _, _ => False
    | _ => False
  | .buildSlice t len parts => match T.get t with
    | some ti => match ti.kind with
      | .slice e => match T.get e, getParts ρ parts.toList with
        | some te, some ps => chk (te.el && (ps.all fun p => noTup p.2) && Nat.ble (len * te.size) 16777216) (match inOrd te.size len 0 ps with
          | true => ∃ xs : List te.α, xs.length = len ∧ FitParts H te.enc ps xs ∧ frzK H (partCells ps) fun H' => K (.own (hlen H)) (H' ++ [.row false e te.size te.α te.enc te.d xs])
          | false => match fillParts (fun k => some (k * te.size, te.size)) (List.replicate len te.zero).flatten ps with
            | some out => ∃ xs : List te.α, xs.length = len ∧ FitL H out ((xs.flatMap te.enc).map AV.pv) ∧ K (.own (hlen H)) (frzL H out ++ [.row false e te.size te.α te.enc te.d xs])
            | none => False)
        | _, _ => False
      | _ => False
    | none => False
  | .makeSlice t l c => match T.get t with
    | some ti => match ti.kind with
      | .slice e => match T.get e with
        | some te => match ρ l, ρ c with
          | some (.pv (.lit (.int _ n))), some (.pv (.lit (.int _ m))) => chk te.el (m = n ∧ 0 ≤ n ∧ n * te.bytes ≤ 281474976710656 ∧ te.zero = (te.enc te.d).map AV.pv ∧
              K (.own (hlen H)) (H ++ [.row false e te.size te.α te.enc te.d (List.replicate n.toNat te.d)]))
          | _, _ => False
        | none => False
      | _ => False
    | none => False
  | .slice t x lo hi mx => match mx with
    | some _ => False
    | none => match T.get t with
      | some ti => match ti.kind with
        | .string => match ρ x with
          | some (.pv (.lit (.string b))) => match optInt ρ lo 0, optInt ρ hi b.size with
            | some l, some h => 0 ≤ l ∧ l ≤ h ∧ h ≤ (b.size : Int) ∧ K (.pv (.lit (.string (b.extract l.toNat h.toNat)))) H
            | _, _ => False
          | _ => False
        | .slice e => match T.get e with
          | some te => match ρ x with
            | some (.pv (.sl sz α enc d xs)) => match optInt ρ lo 0, optInt ρ hi xs.length with
              | some l, some h => chk (Nat.beq sz te.size) (0 ≤ l ∧ l ≤ h ∧ h ≤ (xs.length : Int) ∧ K (.pv (.sl sz α enc d ((xs.take h.toNat).drop l.toNat))) H)
              | _, _ => False
            | some (.own id) => match H[id]? with
              | some (.row _ _ sz _ _ _ xs) => match optInt ρ lo 0, optInt ρ hi xs.length with
                | some l, some h => chk (Nat.beq sz te.size) (0 ≤ l ∧ l ≤ h ∧ h ≤ (xs.length : Int) ∧ K (.sub id l.toNat sz (h.toNat - l.toNat)) H)
                | _, _ => False
              | _ => False
            | _ => False
          | none => False
        | _ => False
      | none => False
  | .makeMap t none => match T.get t with
    | some ti => match ti.kind with
      | .map k e => match T.get k, T.get e with
        | some tk, some te => match keyK tk.kind with
          | some kk => K (.map (hlen H)) (H ++ [.map kk te.α te.enc []])
          | none => False
        | _, _ => False
      | _ => False
    | none => False
  | .mapUpdate t m k x | .insert t m k x => match T.get t with
    | some ti => match ti.kind with
      | .map k' _ => match T.get k' with
        | some tk => match keyK tk.kind, ρ m, ρ k, ρ x with
          | some kk, some (.map id), some (.pv (.lit kv)), some v => match H[id]? with
            | some (.map kk' ν ev kvs) => match kk'.of kv with
              | some key => chk (sameK kk kk' && noTup v && (cellsOf v).all isCell && goodVal v) (∃ y : ν, (ev y).map AV.pv = cellsOf v ∧ K (.tup []) (hset H id (.map kk' ν ev (upsert kk' kvs key y))))
              | none => False
            | _ => False
          | _, _, _, _ => False
        | none => False
      | _ => False
    | none => False
  | .lookup t m k ok => match T.get t with
    | some ti => match ti.kind with
      | .map k' e => match T.get k', T.get e with
        | some tk, some te => match keyK tk.kind, ρ m, ρ k with
          | some kk, some (.map id), some (.pv (.lit kv)) => match H[id]? with
            | some (.map kk' ν ev kvs) => match kk'.of kv with
              | some key => chk (sameK kk kk' && (!isAggK te.kind || !Nat.beq te.size 1)) ((∀ y, look kk' kvs key = some y → entV te ((ev y).map AV.pv) fun v => K (okV ok v true) H) ∧
                  (look kk' kvs key = none → entV te te.zero fun v => K (okV ok v false) H))
              | none => False
            | _ => False
          | _, _, _ => False
        | _, _ => False
      | _ => False
    | none => False
  | _ => False

end Go.Vx

