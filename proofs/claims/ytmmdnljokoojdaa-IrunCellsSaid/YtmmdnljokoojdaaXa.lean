/- Contracts of small functions of the given program. No condition: these are lemmas for the laws. -/
import Derived.Test.YtmmdnljokoojdaaVc
import Derived.Test.YtmmdnljokoojdaaProg
import Derived.Laws.Externs
import Derived.BigCall
import Derived.BigGuard
set_option linter.unusedVariables false
set_option linter.unusedSimpArgs false
namespace Go.Vx
open Go.Proofs

structure Ty where
  sec : Bool
  len : Int
structure Ir where
  kind : Int
  op : Int
  d : Int
  a : Int
  b : Int
  c : Int
  n : Int
  name : ByteArray
  args : List Int
structure Cd where
  name : ByteArray
  params : List Ty
  regs : Int
  cells : Int
  l : List Ir
structure Fact where
  is : Bool
  n : Int

@[reducible] def pint (n : Int) : PV := .lit (.int .i64 n)
@[reducible] def pu32 (n : Int) : PV := .lit (.int .u32 n)
@[reducible] def encI (n : Int) : List PV := [.lit (.int .i64 n)]
@[reducible] def encU (n : Int) : List PV := [.lit (.int .u32 n)]
@[reducible] def slI (xs : List Int) : PV := .sl 1 Int encI 0 xs
@[reducible] def slU (xs : List Int) : PV := .sl 1 Int encU 0 xs
@[reducible] def encTy (x : Ty) : List PV := [.lit (.bool x.sec), .lit (.int .i64 x.len)]
def dTy : Ty := ⟨false, 0⟩
@[reducible] def slTy (xs : List Ty) : PV := .sl 2 Ty encTy dTy xs
@[reducible] def encIr (x : Ir) : List PV := [pint x.kind, pint x.op, pint x.d, pint x.a, pint x.b, pint x.c, pu32 x.n, .lit (.string x.name), slI x.args]
def dIr : Ir := ⟨0, 0, 0, 0, 0, 0, 0, ByteArray.empty, []⟩
@[reducible] def slIr (xs : List Ir) : PV := .sl 9 Ir encIr dIr xs
@[reducible] def encCd (x : Cd) : List PV := [.lit (.string x.name), slTy x.params, pint x.regs, pint x.cells, slIr x.l]
def dCd : Cd := ⟨ByteArray.empty, [], 0, 0, []⟩
@[reducible] def slCd (xs : List Cd) : PV := .sl 5 Cd encCd dCd xs
@[reducible] def encFact (x : Fact) : List PV := [.lit (.bool x.is), pu32 x.n]
def dFact : Fact := ⟨false, 0⟩
@[reducible] def slFact (xs : List Fact) : PV := .sl 2 Fact encFact dFact xs
@[reducible] def aIr (x : Ir) : AV := .agg ((encIr x).map .pv)
@[reducible] def aCd (x : Cd) : AV := .agg ((encCd x).map .pv)
structure Oc where
  result : Int
  arrays : List Int
@[reducible] def encOc (x : Oc) : List PV := [pu32 x.result, slU x.arrays]
def dOc : Oc := ⟨0, []⟩
@[reducible] def encFn (f : Nat) : List PV := [.lit (.func (.func f) #[] #[])]
def zI : AV := lt' .i64 0

def tab : Tab := [
  (3, { kind := .int .i64, size := 1, bytes := 8, zero := [lt' .i64 0], el := true, α := Int, enc := encI, d := 0 }),
  (4, { kind := .bool, size := 1, bytes := 1, zero := [lb false], el := true, α := Bool, enc := fun n => [.lit (.bool n)], d := false }),
  (36, { kind := .struct [(0, 3), (1, 3), (2, 3), (3, 3), (4, 3), (5, 3), (6, 33), (7, 9), (8, 34)], size := 9, bytes := 96, zero := [lt' .i64 0, lt' .i64 0, lt' .i64 0, lt' .i64 0, lt' .i64 0, lt' .i64 0, lt' .u32 0, .pv (.lit (.string ByteArray.empty)), .nil], el := true, α := Ir, enc := encIr, d := dIr }),
  (25, { kind := .struct [(0, 9), (1, 22), (2, 3), (3, 3), (4, 23)], size := 5, bytes := 80, zero := [.pv (.lit (.string ByteArray.empty)), .nil, lt' .i64 0, lt' .i64 0, .nil], el := true, α := Cd, enc := encCd, d := dCd }),
  (33, { kind := .int .u32, size := 1, bytes := 4, zero := [lt' .u32 0], el := true, α := Int, enc := encU, d := 0 }),
  (34, { kind := .slice 3, size := 1, bytes := 24, zero := [.nil], el := true, α := List Int, enc := fun x => [slI x], d := [] }),
  (22, { kind := .slice 42, size := 1, bytes := 24, zero := [.nil], el := true, α := List Ty, enc := fun x => [slTy x], d := [] }),
  (23, { kind := .slice 36, size := 1, bytes := 24, zero := [.nil], el := true, α := List Ir, enc := fun x => [slIr x], d := [] }),
  (9, { kind := .string, size := 1, bytes := 16, zero := [.pv (.lit (.string ByteArray.empty))], el := true, α := ByteArray, enc := fun n => [.lit (.string n)], d := ByteArray.empty }),
  (42, { kind := .struct [(0, 4), (1, 3)], size := 2, bytes := 16, zero := [lb false, lt' .i64 0], el := true, α := Ty, enc := encTy, d := dTy }),
  (5, { kind := .int .u8, size := 1, bytes := 1, zero := [lt' .u8 0], el := true, α := Int, enc := fun n => [.lit (.int .u8 n)], d := 0 }),
  (28, { kind := .slice 25, size := 1, bytes := 24, zero := [.nil], el := true, α := List Cd, enc := fun x => [slCd x], d := [] }),
  (29, { kind := .int .i64, size := 1, bytes := 8, zero := [lt' .i64 0], el := true, α := Int, enc := encI, d := 0 }),
  (44, { kind := .slice 33, size := 1, bytes := 24, zero := [.nil], el := true, α := List Int, enc := fun x => [slU x], d := [] }),
  (62, { kind := .map 3 4, size := 1, bytes := 8, zero := [.pv (.lit (.map none))], α := Unit, enc := fun _ => [], d := () }),
  (63, { kind := .map 3 33, size := 1, bytes := 8, zero := [.pv (.lit (.map none))], α := Unit, enc := fun _ => [], d := () }),
  (67, { kind := .slice 69, size := 1, bytes := 24, zero := [.nil], el := true, α := List Fact, enc := fun x => [slFact x], d := [] }),
  (69, { kind := .struct [(0, 4), (1, 33)], size := 2, bytes := 8, zero := [lb false, lt' .u32 0], el := true, α := Fact, enc := encFact, d := dFact }),
  (98, { kind := .int .u64, size := 1, bytes := 8, zero := [lt' .u64 0], el := true, α := Int, enc := fun n => [.lit (.int .u64 n)], d := 0 }),
  (90, { kind := .slice 4, size := 1, bytes := 24, zero := [.nil], el := true, α := List Bool, enc := fun x => [.sl 1 Bool (fun n => [.lit (.bool n)]) false x], d := [] }),
  (46, { kind := .struct [(0, 33), (1, 44)], size := 2, bytes := 32, zero := [lt' .u32 0, .nil], el := true, α := Oc, enc := encOc, d := dOc }),
  (75, { kind := .other, size := 1, bytes := 8, zero := [.pv (.lit (.pointer none))], α := Unit, enc := fun _ => [], d := () }),
  (82, { kind := .other, size := 1, bytes := 8, zero := [.pv (.lit (.pointer none))], α := Unit, enc := fun _ => [], d := () }),
  (76, { kind := .map 9 25, size := 1, bytes := 8, zero := [.pv (.lit (.map none))], α := Unit, enc := fun _ => [], d := () }),
  (77, { kind := .map 3 80, size := 1, bytes := 8, zero := [.pv (.lit (.map none))], α := Unit, enc := fun _ => [], d := () }),
  (80, { kind := .other, size := 1, bytes := 8, zero := [.pv (.lit .nilFunc)], α := Nat, enc := encFn, d := 0 }),
  (79, { kind := .struct [(0, 76), (1, 3), (2, 34), (3, 29), (4, 77)], size := 5, bytes := 56, zero := [.pv (.lit (.map none)), lt' .i64 0, .nil, lt' .i64 0, .pv (.lit (.map none))], α := Unit, enc := fun _ => [], d := () }),
  (100, { kind := .struct [(0, 75), (1, 44), (2, 44), (3, 3), (4, 3), (5, 4)], size := 6, bytes := 80, zero := [.pv (.lit (.pointer none)), .nil, .nil, lt' .i64 0, lt' .i64 0, lb false], α := Unit, enc := fun _ => [], d := () }),
  (110, { kind := .array 4 33, size := 4, bytes := 16, zero := [lt' .u32 0, lt' .u32 0, lt' .u32 0, lt' .u32 0], α := Unit, enc := fun _ => [], d := () })]

theorem tabOk : TabOk Try.prog tab :=
  .cons (.of (fun _ => ⟨by decide, by decide, fun _ => rfl⟩) Try.underlying3 rfl (by kernel_rfl)) <|
  .cons (.of (fun _ => ⟨by decide, by decide, fun _ => rfl⟩) Try.underlying4 rfl (by kernel_rfl)) <|
  .cons (.of (fun _ => ⟨by decide, by decide, fun _ => rfl⟩) Try.underlying36 ⟨_, rfl, rfl⟩ (by kernel_rfl)) <|
  .cons (.of (fun _ => ⟨by decide, by decide, fun _ => rfl⟩) Try.underlying25 ⟨_, rfl, rfl⟩ (by kernel_rfl)) <|
  .cons (.of (fun _ => ⟨by decide, by decide, fun _ => rfl⟩) Try.underlying33 rfl (by kernel_rfl)) <|
  .cons (.of (fun _ => ⟨by decide, by decide, fun _ => rfl⟩) Try.underlying34 rfl (by kernel_rfl)) <|
  .cons (.of (fun _ => ⟨by decide, by decide, fun _ => rfl⟩) Try.underlying22 rfl (by kernel_rfl)) <|
  .cons (.of (fun _ => ⟨by decide, by decide, fun _ => rfl⟩) Try.underlying23 rfl (by kernel_rfl)) <|
  .cons (.of (fun _ => ⟨by decide, by decide, fun _ => rfl⟩) Try.underlying9 rfl (by kernel_rfl)) <|
  .cons (.of (fun _ => ⟨by decide, by decide, fun _ => rfl⟩) Try.underlying42 ⟨_, rfl, rfl⟩ (by kernel_rfl)) <|
  .cons (.of (fun _ => ⟨by decide, by decide, fun _ => rfl⟩) Try.underlying5 rfl (by kernel_rfl)) <|
  .cons (.of (fun _ => ⟨by decide, by decide, fun _ => rfl⟩) Try.underlying28 rfl (by kernel_rfl)) <|
  .cons (.of (fun _ => ⟨by decide, by decide, fun _ => rfl⟩) Try.underlying29 rfl (by kernel_rfl)) <|
  .cons (.of (fun _ => ⟨by decide, by decide, fun _ => rfl⟩) Try.underlying44 rfl (by kernel_rfl)) <|
  .cons (.of (fun h => by cases h) Try.underlying62 rfl (by kernel_rfl)) <|
  .cons (.of (fun h => by cases h) Try.underlying63 rfl (by kernel_rfl)) <|
  .cons (.of (fun _ => ⟨by decide, by decide, fun _ => rfl⟩) Try.underlying67 rfl (by kernel_rfl)) <|
  .cons (.of (fun _ => ⟨by decide, by decide, fun _ => rfl⟩) Try.underlying69 ⟨_, rfl, rfl⟩ (by kernel_rfl)) <|
  .cons (.of (fun _ => ⟨by decide, by decide, fun _ => rfl⟩) Try.underlying98 rfl (by kernel_rfl)) <|
  .cons (.of (fun _ => ⟨by decide, by decide, fun _ => rfl⟩) Try.underlying90 rfl (by kernel_rfl)) <|
  .cons (.of (fun _ => ⟨by decide, by decide, fun _ => rfl⟩) Try.underlying46 ⟨_, rfl, rfl⟩ (by kernel_rfl)) <|
  .cons (.of (fun h => by cases h) Try.underlying75 trivial (by kernel_rfl)) <|
  .cons (.of (fun h => by cases h) Try.underlying82 trivial (by kernel_rfl)) <|
  .cons (.of (fun h => by cases h) Try.underlying76 rfl (by kernel_rfl)) <|
  .cons (.of (fun h => by cases h) Try.underlying77 rfl (by kernel_rfl)) <|
  .cons (.of (fun h => by cases h) Try.underlying80 trivial (by kernel_rfl)) <|
  .cons (.of (fun h => by cases h) Try.underlying79 ⟨_, rfl, rfl⟩ (by kernel_rfl)) <|
  .cons (.of (fun h => by cases h) Try.underlying100 ⟨_, rfl, rfl⟩ (by kernel_rfl)) <|
  .cons (.of (fun h => by cases h) Try.underlying110 rfl (by kernel_rfl)) <| .nil _

theorem mixed : Try.prog.follows .mixedOrders = true := by kernel_rfl
end Go.Vx

namespace Go.Vx
open Go.Proofs

def writes (x : Ir) : Bool := (decide (x.kind ≥ 1) && decide (x.kind ≤ 5)) || (x.kind == 7)

theorem fold_writes (x : Ir) : PureCall Try.prog 41 [aIr x] (lb (writes x)) := by
  refine pure_rule tabOk Try.func41 rfl (by kernel_rfl) (by kernel_rfl) (Nat.le_of_ble_eq_true rfl) ?_
  show awp Try.prog tab 16 (bodyOf Try.f41) _ _ _
  repeat' (first | refine And.intro ?_ ?_ | (intro h; first | cases h | skip))
  all_goals refine congrArg (fun b => PV.lit (Value.bool b)) (?_ : _ = writes x)
  all_goals simp_all [writes, cond]
  all_goals (intros; omega)
end Go.Vx

namespace Go.Vx
open Go.Proofs

theorem fit_int {H : Heap} {k : IntKind} {x y : Int} (h : x = y) : FitA H (.pv (.lit (.int k x))) (.pv (.lit (.int k y))) := congrArg (fun z => PV.lit (Value.int k z)) h
theorem fit_bool {H : Heap} {x y : Bool} (h : x = y) : FitA H (.pv (.lit (.bool x))) (.pv (.lit (.bool y))) := congrArg (fun z => PV.lit (Value.bool z)) h

def pureC : AV → Bool
  | .pv _ | .nil => true
  | _ => false
def pureA : AV → Bool
  | .agg cs => cs.all pureC
  | a => pureC a
theorem FitC.self {H : Heap} : ∀ {x : AV}, pureC x = true → FitC H x x
  | .pv p, _ => rfl
  | .nil, _ => trivial
theorem FitL.self {H : Heap} : ∀ {l : List AV}, l.all pureC = true → FitL H l l
  | [], _ => trivial
  | x :: l, h => by rw [List.all_cons, Bool.and_eq_true] at h; exact ⟨FitC.self h.1, FitL.self h.2⟩
theorem FitA.self {H : Heap} : ∀ {x : AV}, pureA x = true → FitA H x x
  | .pv p, _ => rfl
  | .nil, _ => trivial
  | .agg cs, h => FitL.self (H := H) (l := cs) h
theorem FitAL.self {H : Heap} : ∀ {l : List AV}, l.all pureA = true → FitAL H l l
  | [], _ => trivial
  | x :: l, h => by rw [List.all_cons, Bool.and_eq_true] at h; exact ⟨FitA.self h.1, FitAL.self h.2⟩

def one (b : Bool) : Int := bif b then 1 else 0
def opv (op x y : Int) : Int × Bool :=
  bif op == 1 then (IntKind.u32.wrap (x + y), true)
  else bif op == 2 then (IntKind.u32.wrap (x - y), true)
  else bif op == 3 then (IntKind.u32.wrap (x * y), true)
  else bif op == 4 then (IntKind.u32.wrap ((BitVec.ofInt 32 x &&& BitVec.ofInt 32 y).toNat), true)
  else bif op == 5 then (IntKind.u32.wrap ((BitVec.ofInt 32 x ||| BitVec.ofInt 32 y).toNat), true)
  else bif op == 6 then (IntKind.u32.wrap ((BitVec.ofInt 32 x ^^^ BitVec.ofInt 32 y).toNat), true)
  else bif op == 7 then (IntKind.u32.wrap (x * 2 ^ (min (y.tmod 32).toNat 32)), true)
  else bif op == 8 then (x.fdiv (2 ^ (min (y.tmod 32).toNat 32)), true)
  else bif op == 9 then (one (decide (x < y)), true)
  else bif op == 10 then (one (x == y), true)
  else (0, false)

theorem word_one (t : Bool) : PureCall Try.prog 80 [.pv (.lit (.bool t))] (.pv (pu32 (one t))) := by
  refine pure_rule tabOk Try.func80 rfl (by kernel_rfl) (by kernel_rfl) (Nat.le_of_ble_eq_true rfl) ?_
  show awp Try.prog tab 4 (bodyOf Try.f80) _ _ _
  repeat' (first | refine And.intro ?_ ?_ | (intro h; first | cases h | skip))
  all_goals refine fit_int (H := []) ?_
  all_goals simp_all [one]

theorem word_op (op x y : Int) (hb : 0 ≤ y) : PureCall Try.prog 66 [.pv (pint op), .pv (pu32 x), .pv (pu32 y)] (.tup [.pv (pu32 (opv op x y).1), .pv (.lit (.bool (opv op x y).2))]) := by
  refine pure_rule tabOk Try.func66 rfl (by kernel_rfl) (by kernel_rfl) (Nat.le_of_ble_eq_true rfl) ?_
  show awp Try.prog tab 63 (bodyOf Try.f66) _ _ _
  repeat' (first | refine And.intro ?_ ?_ | (intro h; first | cases h | skip))
  all_goals first
    | exact trivial
    | (refine fit_int ?_; simp only [opv, *, cond_true, cond_false]; try rfl)
    | (refine fit_bool ?_; simp only [opv, *, cond_true, cond_false])
    | exact Int.tmod_nonneg _ hb
    | (refine Or.inl ⟨_, _, FitAL.self rfl, word_one _, ?_⟩)
  repeat' (first | refine And.intro ?_ ?_ | (intro h; first | cases h | skip))
  all_goals first
    | exact trivial
    | (refine fit_int ?_; simp only [opv, *, cond_true, cond_false])
    | (refine fit_bool ?_; simp only [opv, *, cond_true, cond_false])
end Go.Vx

namespace Go.Vx
open Go.Proofs

@[reducible] def KI : KK := .int .i64
abbrev IM := List (Int × Int)
@[reducible] def oMap (m : IM) : AObj := .map KI Int encU m
def lk (m : IM) (k : Int) : Int × Bool :=
  match look KI m k with
  | some y => (y, true)
  | none => (0, false)

def worked (x : Ir) (m : IM) : Int × Bool :=
  bif x.kind == 1 then (x.n, true)
  else bif x.kind == 2 then lk m x.a
  else bif x.kind == 3 then (bif (lk m x.a).2 && (lk m x.b).2 then opv x.op (lk m x.a).1 (lk m x.b).1 else (0, false))
  else bif x.kind == 4 then (bif (lk m x.a).2 && (lk m x.a).1 == 0 then ((lk m x.c).1, (lk m x.a).2 && (lk m x.c).2) else ((lk m x.b).1, (lk m x.a).2 && (lk m x.b).2))
  else (0, false)

theorem mt_int {r : Ren} {k : IntKind} {x y : Int} (h : y = x) : matchV r (.pv (.lit (.int k x))) (some (.pv (.lit (.int k y)))) := congrArg (fun z => some (AV.pv (PV.lit (Value.int k z)))) h
theorem mt_bool {r : Ren} {x y : Bool} (h : y = x) : matchV r (.pv (.lit (.bool x))) (some (.pv (.lit (.bool y)))) := congrArg (fun z => some (AV.pv (PV.lit (Value.bool z)))) h

theorem fold_worked (x : Ir) (m : IM) (hm : ∀ k v, look KI m k = some v → 0 ≤ v) : ImpCall Try.prog 40 [aIr x, .map 0] [oMap m] (.tup [.pv (pu32 (worked x m).1), .pv (.lit (.bool (worked x m).2))]) [oMap m] := by
  refine imp_rule tabOk Try.func40 rfl (by kernel_rfl) (by kernel_rfl) (Nat.le_of_ble_eq_true rfl) (Nat.le_refl _) rfl ?_
  intro s
  show awp Try.prog tab 66 (bodyOf Try.f40) _ _ _
  repeat' (first | refine And.intro ?_ ?_ | (intro h; first | exact Bool.noConfusion h | (replace h : true = true := h; clear h) | (replace h : false = false := h; clear h) | skip) | refine ⟨[some 0], [1], rfl, ⟨mt_int ?_, mt_bool ?_, trivial⟩, ⟨rfl, trivial⟩, ⟨rfl, rfl⟩, trivial⟩ | refine Or.inl ⟨_, _, FitAL.self rfl, word_op _ _ _ (hm _ _ ‹_›), ?_⟩)
  all_goals clear hm
  all_goals try simp only [cond_true] at *
  all_goals simp only [worked, lk, *, cond_true, cond_false, Bool.and_true, Bool.true_and, Bool.false_and, Bool.and_false]
end Go.Vx

namespace Go.Vx
open Go.Proofs

def reads (x : Ir) : List Int :=
  bif x.kind == 2 || (x.kind == 6 || (x.kind == 9 || x.kind == 10)) then [x.a]
  else bif x.kind == 3 then [x.a, x.b]
  else bif x.kind == 4 then [x.a, x.b, x.c]
  else bif x.kind == 7 then x.args
  else []

theorem irun_reads (x : Ir) : PureCall Try.prog 70 [aIr x] (.pv (slI (reads x))) := by
  refine pure_rule tabOk Try.func70 rfl (by kernel_rfl) (by kernel_rfl) (Nat.le_of_ble_eq_true rfl) ?_
  show awp Try.prog tab 33 (bodyOf Try.f70) _ _ _
  repeat' first
    | refine And.intro ?_ ?_
    | (intro h; first | exact Bool.noConfusion h | (replace h : true = true := h; clear h) | (replace h : false = false := h; clear h) | skip)
    | refine Exists.intro [_] (And.intro rfl (And.intro (And.intro (And.intro rfl trivial) trivial) ?_))
    | refine Exists.intro [_, _] (And.intro rfl (And.intro (And.intro (And.intro rfl trivial) (And.intro (And.intro rfl trivial) trivial)) ?_))
    | refine Exists.intro [_, _, _] (And.intro rfl (And.intro (And.intro (And.intro rfl trivial) (And.intro (And.intro rfl trivial) (And.intro (And.intro rfl trivial) trivial))) ?_))
  all_goals first | refine (?_ : reads x = []) | refine (congrArg (PV.sl 1 Int encI 0) (?_ : _ = reads x))
  all_goals try simp only [reads, *, cond_true, cond_false, Bool.or_true, Bool.true_or, Bool.or_false, Bool.false_or]
  all_goals simp_all
theorem ref_reads (x : Ir) : PureCall Try.prog 65 [aIr x] (.pv (slI (reads x))) := by
  refine pure_rule tabOk Try.func65 rfl (by kernel_rfl) (by kernel_rfl) (Nat.le_of_ble_eq_true rfl) ?_
  show awp Try.prog tab 33 (bodyOf Try.f65) _ _ _
  repeat' first
    | refine And.intro ?_ ?_
    | (intro h; first | exact Bool.noConfusion h | (replace h : true = true := h; clear h) | (replace h : false = false := h; clear h) | skip)
    | refine Exists.intro [_] (And.intro rfl (And.intro (And.intro (And.intro rfl trivial) trivial) ?_))
    | refine Exists.intro [_, _] (And.intro rfl (And.intro (And.intro (And.intro rfl trivial) (And.intro (And.intro rfl trivial) trivial)) ?_))
    | refine Exists.intro [_, _, _] (And.intro rfl (And.intro (And.intro (And.intro rfl trivial) (And.intro (And.intro rfl trivial) (And.intro (And.intro rfl trivial) trivial))) ?_))
  all_goals first | refine (?_ : reads x = []) | refine (congrArg (PV.sl 1 Int encI 0) (?_ : _ = reads x))
  all_goals try simp only [reads, *, cond_true, cond_false, Bool.or_true, Bool.true_or, Bool.or_false, Bool.false_or]
  all_goals simp_all
end Go.Vx

namespace Go.Vx
open Go.Proofs

theorem irun_writes (x : Ir) : PureCall Try.prog 71 [aIr x] (.pv (.lit (.bool (writes x)))) := by
  refine pure_rule tabOk Try.func71 rfl (by kernel_rfl) (by kernel_rfl) (Nat.le_of_ble_eq_true rfl) ?_
  show awp Try.prog tab 12 (bodyOf Try.f71) _ _ _
  repeat' first
    | refine And.intro ?_ ?_
    | (intro h; first | exact Bool.noConfusion h | (replace h : true = true := h; clear h) | (replace h : false = false := h; clear h) | skip)
  all_goals refine fit_bool (H := []) ?_
  all_goals simp_all [writes]
  all_goals (intros; omega)
theorem ref_writes (x : Ir) : PureCall Try.prog 73 [aIr x] (.pv (.lit (.bool (writes x)))) := by
  refine pure_rule tabOk Try.func73 rfl (by kernel_rfl) (by kernel_rfl) (Nat.le_of_ble_eq_true rfl) ?_
  show awp Try.prog tab 16 (bodyOf Try.f73) _ _ _
  repeat' first
    | refine And.intro ?_ ?_
    | (intro h; first | exact Bool.noConfusion h | (replace h : true = true := h; clear h) | (replace h : false = false := h; clear h) | skip)
  all_goals refine fit_bool (H := []) ?_
  all_goals simp_all [writes, cond]
  all_goals (intros; omega)
end Go.Vx

namespace Go.Vx
open Go.Proofs

def lowc (c : UInt8) : Bool := decide (97 ≤ c.toNat) && decide (c.toNat ≤ 122)
def namec (c : UInt8) : Bool := lowc c || (decide (48 ≤ c.toNat) && decide (c.toNat ≤ 57)) || c.toNat == 95
/-- A name's bytes. -/
def nameL (l : List UInt8) : Bool :=
  decide (1 ≤ l.length) && decide (l.length ≤ 12) && lowc (l.getD 0 0) && l.all namec
def nm (s : ByteArray) : Bool := nameL s.data.toList

theorem size_toList (s : ByteArray) : s.data.toList.length = s.size := by cases s; simp [ByteArray.size]

theorem wrap_small {x : Int} (h0 : -9223372036854775808 ≤ x) (h1 : x < 9223372036854775808) : IntKind.i64.wrap x = x := by
  simp only [IntKind.wrap, IntKind.signed, IntKind.bits]
  simp
  omega
theorem wrap_succ {k : Nat} (h : k < 1000000000000) : IntKind.i64.wrap ((k : Int) + 1) = ((k + 1 : Nat) : Int) := by
  rw [wrap_small (by omega) (by omega)]; omega

def nameAt (s : ByteArray) (i : Nat) : Bool := lowc (s.data.toList.getD i 0) || (decide (0 < i) && namec (s.data.toList.getD i 0))
def NameTo (s : ByteArray) (k : Nat) : Prop := k ≤ s.size ∧ ∀ i, i < k → nameAt s i = true

theorem nameAt_of {s : ByteArray} {k : Nat} (h : (97 ≤ (s.data.toList.getD k 0).toNat ∧ (s.data.toList.getD k 0).toNat ≤ 122) ∨ (0 < k ∧ ((48 ≤ (s.data.toList.getD k 0).toNat ∧ (s.data.toList.getD k 0).toNat ≤ 57) ∨ (s.data.toList.getD k 0).toNat = 95))) : nameAt s k = true := by
  simp only [nameAt, lowc, namec, Bool.or_eq_true, Bool.and_eq_true, decide_eq_true_eq, beq_iff_eq]
  omega
theorem nameAt_not {s : ByteArray} {k : Nat} (h : ¬ ((97 ≤ (s.data.toList.getD k 0).toNat ∧ (s.data.toList.getD k 0).toNat ≤ 122) ∨ (0 < k ∧ ((48 ≤ (s.data.toList.getD k 0).toNat ∧ (s.data.toList.getD k 0).toNat ≤ 57) ∨ (s.data.toList.getD k 0).toNat = 95)))) : nameAt s k = false := by
  rw [← Bool.not_eq_true]
  simp only [nameAt, lowc, namec, Bool.or_eq_true, Bool.and_eq_true, decide_eq_true_eq, beq_iff_eq]
  omega
theorem NameTo.next {s : ByteArray} {k : Nat} (h : NameTo s k) (hk : k < s.size) (ha : nameAt s k = true) : NameTo s (k + 1) := ⟨hk, fun i hi => by
  rcases Nat.lt_or_ge i k with h1 | h1
  · exact h.2 i h1
  · obtain rfl : i = k := by omega
    exact ha⟩

theorem all_getD {l : List UInt8} {p : UInt8 → Bool} : (l.all p = true) ↔ ∀ i, i < l.length → p (l.getD i 0) = true := by
  rw [List.all_eq_true]
  constructor
  · intro h i hi
    rw [List.getD_eq_getElem?_getD, List.getElem?_eq_getElem hi]
    exact h _ (List.getElem_mem hi)
  · intro h x hx
    obtain ⟨i, hi, rfl⟩ := List.getElem_of_mem hx
    have := h i hi
    rwa [List.getD_eq_getElem?_getD, List.getElem?_eq_getElem hi] at this

theorem nm_eq (s : ByteArray) : nm s = true ↔ 1 ≤ s.size ∧ s.size ≤ 12 ∧ ∀ i, i < s.size → nameAt s i = true := by
  unfold nm nameL
  simp only [Bool.and_eq_true, decide_eq_true_eq, all_getD, size_toList]
  constructor
  · rintro ⟨⟨⟨h1, h2⟩, h3⟩, h4⟩
    refine ⟨h1, h2, fun i hi => ?_⟩
    have := h4 i hi
    rcases Nat.eq_zero_or_pos i with rfl | h0
    · simp only [nameAt, h3, Bool.true_or]
    · simp only [nameAt, decide_eq_true h0, Bool.true_and, this, Bool.or_true]
  · rintro ⟨h1, h2, h3⟩
    have h0 := h3 0 h1
    simp only [nameAt, Nat.lt_irrefl, decide_false, Bool.false_and, Bool.or_false] at h0
    refine ⟨⟨⟨h1, h2⟩, h0⟩, fun i hi => ?_⟩
    have := h3 i hi
    simp only [nameAt, Bool.or_eq_true, Bool.and_eq_true] at this
    rcases this with h | h
    · simp only [namec, h, Bool.true_or]
    · exact h.2

theorem nm_bad {s : ByteArray} {k : Nat} (hk : k < s.size) (h : nameAt s k = false) : false = nm s := by
  cases e : nm s with
  | false => rfl
  | true => rw [((nm_eq s).1 e).2.2 k hk] at h; exact h.symm

theorem nm_exit {s : ByteArray} {k : Nat} (hk : NameTo s k) (h : ¬ k < s.size) (hne : s ≠ ⟨#[]⟩) : decide (s.size ≤ 12) = nm s := by
  have h1 : 1 ≤ s.size := by
    rcases Nat.eq_zero_or_pos s.size with h0 | h0
    · exact absurd (by cases s with | mk d => cases d with | mk l => cases l with
        | nil => rfl
        | cons x l => simp [ByteArray.size] at h0) hne
    · exact h0
  rw [Bool.eq_iff_iff, decide_eq_true_eq, nm_eq]
  exact ⟨fun h2 => ⟨h1, h2, fun i hi => hk.2 i (by omega)⟩, fun h2 => h2.2.1⟩
theorem nm_empty : nm ⟨#[]⟩ = false := rfl

theorem tree_name (s : ByteArray) (hs : s.size ≤ 1000000) : PureCall Try.prog 84 [.pv (.lit (.string s))] (.pv (.lit (.bool (nm s)))) := by
  refine pure_rule tabOk Try.func84 rfl (by kernel_rfl) (by kernel_rfl) (Nat.le_of_ble_eq_true rfl) ?_
  show awp Try.prog tab 43 (bodyOf Try.f84) _ _ _
  refine loop_rule (X := Nat) tabOk (by kernel_rfl) (NameTo s) (fun k => ([(0, .pv (.lit (.string s))), (6, lt' .i64 s.size), (7, lt' .i64 k)], [])) (fun k => s.size - k) 0 ⟨Nat.zero_le _, fun i h => absurd h (Nat.not_lt_zero _)⟩ ?_ ?_
  · exact ⟨[], rfl, ⟨rfl, rfl, rfl, trivial⟩, trivial⟩
  · intro k hk
    repeat' first
      | refine And.intro ?_ ?_
      | (intro h; try simp only [Bool.not_true, Bool.not_false, cond_true, cond_false, reduceCtorEq] at h)
    all_goals first
      | omega
      | exact of_decide_eq_true ‹_›
      | skip
    all_goals first
      | refine Exists.intro (k+1) (And.intro ?_ (And.intro ?_ (Exists.intro [] (And.intro rfl (And.intro (And.intro rfl (And.intro rfl (And.intro (mt_int (wrap_succ ?_)) trivial))) trivial)))))
      | refine fit_bool (H := []) ?_
    all_goals simp only [cond_true, Int.toNat_natCast, decide_eq_true_eq, decide_eq_false_iff_not, Bool.not_eq_eq_eq_not, Bool.not_true, Bool.not_false, strEq_iff, strEq_not, beq_iff_eq, beq_eq_false_iff_ne, ne_eq] at *
    all_goals first
      | omega
      | exact hk.next (by omega) (nameAt_of (by omega))
      | exact nm_bad (k := k) (by omega) (nameAt_not (by omega))
      | exact (decide_eq_decide.2 (by omega)).trans (nm_exit (k := k) hk (by omega) ‹_›)
      | (rename_i h _ _; subst h; rfl)
end Go.Vx

namespace Go.Vx
open Go.Proofs

def NameC (s : ByteArray) (k : Nat) : Prop := k ≤ s.size ∧ ∀ i, i < k → namec (s.data.toList.getD i 0) = true
theorem NameC.next {s : ByteArray} {k : Nat} (h : NameC s k) (hk : k < s.size) (ha : namec (s.data.toList.getD k 0) = true) : NameC s (k + 1) := ⟨hk, fun i hi => by
  rcases Nat.lt_or_ge i k with h1 | h1
  · exact h.2 i h1
  · obtain rfl : i = k := by omega
    exact ha⟩
theorem namec_iff {c : UInt8} : namec c = true ↔ (97 ≤ c.toNat ∧ c.toNat ≤ 122) ∨ (48 ≤ c.toNat ∧ c.toNat ≤ 57) ∨ c.toNat = 95 := by
  simp only [lowc, namec, Bool.or_eq_true, Bool.and_eq_true, decide_eq_true_eq, beq_iff_eq]
  omega
theorem namec_not {c : UInt8} : namec c = false ↔ ¬ ((97 ≤ c.toNat ∧ c.toNat ≤ 122) ∨ (48 ≤ c.toNat ∧ c.toNat ≤ 57) ∨ c.toNat = 95) := by
  rw [← Bool.not_eq_true, namec_iff]
theorem lowc_iff {c : UInt8} : lowc c = true ↔ (97 ≤ c.toNat ∧ c.toNat ≤ 122) := by
  simp only [lowc, Bool.and_eq_true, decide_eq_true_eq]
theorem nm_iff (s : ByteArray) : nm s = true ↔ 1 ≤ s.size ∧ s.size ≤ 12 ∧ lowc (s.data.toList.getD 0 0) = true ∧ ∀ i, i < s.size → namec (s.data.toList.getD i 0) = true := by
  unfold nm nameL
  simp only [Bool.and_eq_true, decide_eq_true_eq, all_getD, size_toList, and_assoc]
theorem nm_no {s : ByteArray} (h : s.size = 0 ∨ 12 < s.size ∨ ¬ lowc (s.data.toList.getD 0 0) = true ∨ ∃ i, i < s.size ∧ namec (s.data.toList.getD i 0) = false) : false = nm s := by
  symm
  rw [← Bool.not_eq_true, nm_iff]
  rintro ⟨h1, h2, h3, h4⟩
  rcases h with h | h | h | ⟨i, hi, h⟩
  · omega
  · omega
  · exact h h3
  · rw [h4 i hi] at h; cases h

theorem ref_name3 (s : ByteArray) (hs : s.size ≤ 1000000) : PureCall Try.prog 72 [.pv (.lit (.string s))] (.pv (.lit (.bool (nm s)))) := by
  refine pure_rule tabOk Try.func72 rfl (by kernel_rfl) (by kernel_rfl) (Nat.le_of_ble_eq_true rfl) ?_
  show awp Try.prog tab 51 (bodyOf Try.f72) _ _ _
  repeat' first
    | refine And.intro ?_ ?_
    | (intro h; try simp only [Bool.not_true, Bool.not_false, cond_true, cond_false, reduceCtorEq] at h; try (replace h : True := h; clear h))
    | refine fit_bool (H := []) ?_
  all_goals try refine loop_rule (X := Nat) tabOk (by kernel_rfl) (NameC s) (fun k => ([(0, .pv (.lit (.string s))), (3, lt' .i64 k)], [])) (fun k => s.size - k) 0 ⟨Nat.zero_le _, fun i h => absurd h (Nat.not_lt_zero _)⟩ ⟨[], rfl, ⟨rfl, rfl, trivial⟩, trivial⟩ ?_
  all_goals try (
    intro k hk
    repeat' first
      | refine And.intro ?_ ?_
      | (intro h; try simp only [Bool.not_true, Bool.not_false, cond_true, cond_false, reduceCtorEq] at h; try (replace h : True := h; clear h))
      | refine fit_bool (H := []) ?_)
  all_goals try refine Exists.intro (k+1) (And.intro ?_ (And.intro ?_ (Exists.intro [] (And.intro rfl (And.intro (And.intro rfl (And.intro (mt_int (wrap_succ ?_)) trivial)) trivial)))))
  all_goals simp only [cond_true, cond_false, Int.toNat_natCast, Int.toNat_zero, decide_eq_true_eq, decide_eq_false_iff_not, Bool.not_eq_eq_eq_not, Bool.not_true, Bool.not_false, strEq_iff, strEq_not, beq_iff_eq, beq_eq_false_iff_ne, ne_eq] at *
  all_goals first
    | omega
    | exact hk.next (by omega) (namec_iff.2 (by omega))
    | exact nm_no (.inl (by omega))
    | exact nm_no (.inr (.inl (by omega)))
    | exact nm_no (.inr (.inr (.inl fun h => by rw [lowc_iff] at h; omega)))
    | exact nm_no (.inr (.inr (.inr (Exists.intro k (And.intro (by omega) (namec_not.2 (by omega)))))))
    | exact ((nm_iff s).2 (And.intro (by omega) (And.intro (by omega) (And.intro (lowc_iff.2 (by omega)) fun i hi => hk.2 i (by omega))))).symm


/-! ### Two names with a dot between -/
/-- The first dot's place, from a place on. -/
def dotFrom (s : ByteArray) : Nat → Nat → Option Nat
  | 0, _ => none
  | n + 1, i => bif (s.data.toList.getD i 0).toNat == 46 then some i else dotFrom s n (i + 1)
def nmAt (s : ByteArray) : Option Nat → Bool
  | some i => nm (s.extract 0 i) && nm (s.extract (i + 1) s.size)
  | none => false
def nmd (s : ByteArray) : Bool := nmAt s (dotFrom s s.size 0)

def NoDot (s : ByteArray) (k : Nat) : Prop := k ≤ s.size ∧ dotFrom s s.size 0 = dotFrom s (s.size - k) k
theorem NoDot.zero (s : ByteArray) : NoDot s 0 := ⟨Nat.zero_le _, rfl⟩
theorem dotFrom_here {s : ByteArray} {n i : Nat} (h : (s.data.toList.getD i 0).toNat = 46) (h0 : 0 < n) : dotFrom s n i = some i := by
  cases n with
  | zero => omega
  | succ n => simp only [dotFrom, h, beq_self_eq_true, cond_true]
theorem dotFrom_not {s : ByteArray} {n i : Nat} (h : ¬ (s.data.toList.getD i 0).toNat = 46) (h0 : 0 < n) : dotFrom s n i = dotFrom s (n - 1) (i + 1) := by
  cases n with
  | zero => omega
  | succ n => simp only [dotFrom, beq_false_of_ne h, cond_false, Nat.add_sub_cancel]
theorem NoDot.next {s : ByteArray} {k : Nat} (h : NoDot s k) (hk : k < s.size) (hd : ¬ (s.data.toList.getD k 0).toNat = 46) : NoDot s (k + 1) := ⟨hk, by
  rw [h.2, dotFrom_not hd (by omega)]; congr 1⟩
theorem NoDot.dot {s : ByteArray} {k : Nat} (h : NoDot s k) (hk : k < s.size) (hd : (s.data.toList.getD k 0).toNat = 46) : nmd s = (nm (s.extract 0 k) && nm (s.extract (k + 1) s.size)) := by
  unfold nmd
  rw [h.2, dotFrom_here hd (by omega)]; rfl
theorem NoDot.none {s : ByteArray} {k : Nat} (h : NoDot s k) (hk : ¬ k < s.size) : nmd s = false := by
  unfold nmd
  rw [h.2, show s.size - k = 0 from by omega]; rfl
theorem extract_size {s : ByteArray} {i j : Nat} (h : s.size ≤ 1000000) : (s.extract i j).size ≤ 1000000 := by
  rw [ByteArray.size_extract]; omega

theorem ref_name7 (s : ByteArray) (hs : s.size ≤ 1000000) : PureCall Try.prog 45 [.pv (.lit (.string s))] (.pv (.lit (.bool (nmd s)))) := by
  refine pure_rule tabOk Try.func45 rfl (by kernel_rfl) (by kernel_rfl) (Nat.le_of_ble_eq_true rfl) ?_
  show awp Try.prog tab 25 (bodyOf Try.f45) _ _ _
  refine loop_rule (X := Nat) tabOk (by kernel_rfl) (NoDot s) (fun k => ([(0, .pv (.lit (.string s))), (3, lt' .i64 k)], [])) (fun k => s.size - k) 0 (NoDot.zero s) ⟨[], rfl, ⟨rfl, rfl, trivial⟩, trivial⟩ ?_
  intro k hk
  repeat' first
    | refine And.intro ?_ ?_
    | (intro h; try simp only [Bool.not_true, Bool.not_false, cond_true, cond_false, reduceCtorEq] at h; try (replace h : True := h; clear h))
    | refine fit_bool (H := []) ?_
    | refine Or.inl ⟨_, _, FitAL.self rfl, ref_name3 _ ?_, ?_⟩
  all_goals try refine Exists.intro (k+1) (And.intro ?_ (And.intro ?_ (Exists.intro [] (And.intro rfl (And.intro (And.intro rfl (And.intro (mt_int (wrap_succ ?_)) trivial)) trivial)))))
  all_goals simp only [cond_true, cond_false, Int.toNat_natCast, Int.toNat_zero, decide_eq_true_eq, decide_eq_false_iff_not, Bool.not_eq_eq_eq_not, Bool.not_true, Bool.not_false, strEq_iff, strEq_not, beq_iff_eq, beq_eq_false_iff_ne, ne_eq] at *
  all_goals try rw [wrap_succ (by omega)]
  all_goals try rw [Int.toNat_natCast]
  all_goals first
    | omega
    | exact hk.next (by omega) (by omega)
    | exact extract_size hs
    | (rw [hk.dot (by omega) (by omega)]; simp only [*, Bool.true_and, Bool.false_and]; done)
    | exact (hk.none (by omega)).symm
end Go.Vx

namespace Go.Vx
open Go.Proofs

theorem firstIdx_from (s : ByteArray) : ∀ (n i : Nat), i + n = s.size → ((List.range' i n).find? fun j => s[j]! == (46 : UInt8)) = dotFrom s n i := by
  intro n
  induction n with
  | zero => intro i h; rfl
  | succ n ih =>
    intro i h
    rw [List.range'_succ, List.find?_cons, dotFrom, ← ih (i + 1) (by omega)]
    have h1 : i < s.data.toList.length := by rw [size_toList]; omega
    have e : s[i]! = s.data.toList.getD i 0 := by
      rw [List.getD_eq_getElem?_getD, List.getElem?_eq_getElem h1]
      have : i < s.size := by omega
      rw [getElem!_pos s i this]; rfl
    rw [e]
    have e2 : (s.data.toList.getD i 0 == (46 : UInt8)) = ((s.data.toList.getD i 0).toNat == 46) := by
      rw [Bool.eq_iff_iff, beq_iff_eq, beq_iff_eq]
      exact ⟨fun h => by rw [h]; rfl, fun h => UInt8.toNat_inj.1 h⟩
    rw [e2]
    cases ((s.data.toList.getD i 0).toNat == 46) <;> rfl
def dotI (s : ByteArray) : Int := match dotFrom s s.size 0 with
  | some i => i
  | none => -1
theorem firstIdx_dot (s : ByteArray) : firstIdx s 46 = dotI s := by
  unfold firstIdx dotI
  rw [List.range_eq_range', firstIdx_from s s.size 0 (by omega)]
  cases dotFrom s s.size 0 <;> rfl

/-- A contract told by the kit's own walk: of scalars. -/
theorem pure_of_calls {P : Program} {f : FuncId} (hf : isFn P f) {xs : List Value} {x : Value} (hx : x.oneCell' = true) (h : ∀ w : World, Calls P f xs.toArray w fun e w' => e = .returned x ∧ w' = w) :
    PureCall P f (xs.map fun v => .pv (.lit v)) (.pv (.lit x)) := by
  refine ⟨hf, fun w S vs hS hr => ?_⟩
  have e : vs = xs := by
    refine List.ext_getElem? fun i => ?_
    rcases Nat.lt_or_ge i xs.length with hi | hi
    · have h1 : (xs.map fun v => AV.pv (.lit v))[i]? = some (.pv (.lit xs[i])) := by rw [List.getElem?_map, List.getElem?_eq_getElem hi]; rfl
      obtain ⟨v, hv, hrv⟩ := hr.at_ h1
      rw [hv, hrv.lit_inv, List.getElem?_eq_getElem hi]
    · rw [List.getElem?_eq_none (by have := hr.1; simp at this; omega), List.getElem?_eq_none hi]
  subst e
  refine (h w).mono ?_
  rintro e w' ⟨rfl, rfl⟩
  exact ⟨x, S, rfl, fun _ _ h => h, hS, fun _ _ h => .inl h, .pv (.lit _ hx), ⟨rfl, rfl, rfl, Nat.le_refl _, fun _ _ => rfl⟩⟩

set_option maxHeartbeats 1000000 in
set_option maxRecDepth 100000 in
theorem index_byte (s : ByteArray) (w : World) : Calls Try.prog 105 #[.string s, .int .u8 46] w fun e w' => e = .returned (.int .i64 (dotI s)) ∧ w' = w := by
  go_enter Try.func105, Try.ntmps105
  go_wp2
  rw [run_callFunc_extern Try.func109 (by kernel_rfl) (by kernel_rfl) (by kernel_rfl) (e := Extern.BytealgIndexByte.indexByte) (by kernel_rfl), run_indexByte_string]
  simp only [Result.andThen]
  rw [Oper.upon_value]
  go_wp2
  go_ret
  exact ⟨by rw [← firstIdx_dot]; rfl, rfl⟩

@[reducible] def aS (s : ByteArray) : AV := .pv (.lit (.string s))
def dotS : ByteArray := ⟨#[46]⟩
theorem index_byte' (s : ByteArray) : PureCall Try.prog 105 [aS s, lt' .u8 46] (lt' .i64 (dotI s)) :=
  pure_of_calls (xs := [.string s, .int .u8 46]) ⟨_, Try.func105, by kernel_rfl, by kernel_rfl⟩ rfl (fun w => index_byte s w)

theorem dotI_eq_self {s : ByteArray} (h : s = dotS) : dotI s = 0 := by subst h; rfl
theorem index_dot (s : ByteArray) : PureCall Try.prog 103 [aS s, aS ⟨#[46]⟩] (lt' .i64 (dotI s)) := by
  refine pure_rule tabOk Try.func103 rfl (by kernel_rfl) (by kernel_rfl) (Nat.le_of_ble_eq_true rfl) ?_
  show awp Try.prog tab 143 (bodyOf Try.f103) _ _ _
  repeat' first
    | refine And.intro ?_ ?_
    | (intro h; try simp only [Bool.not_true, Bool.not_false, cond_true, cond_false, reduceCtorEq] at h; first | exact absurd h (by decide) | skip; try (replace h : True := h; clear h))
    | refine fit_int (H := []) ?_
    | refine Or.inl ⟨_, _, FitAL.self rfl, index_byte' s, ?_⟩
  all_goals first
    | exact (dotI_eq_self (strEq_iff.1 ‹_›).symm).symm
    | rfl
    | exact Int.le_refl 0
    | exact (by decide : (0 : Int) < 1)
    | exact absurd ‹((1 : Int) == 1) = false› (by decide)

def cutA (s : ByteArray) : ByteArray := bif decide (0 ≤ dotI s) then s.extract 0 (dotI s).toNat else s
def cutB (s : ByteArray) : ByteArray := bif decide (0 ≤ dotI s) then s.extract ((dotI s).toNat + 1) s.size else ByteArray.empty
def cutC (s : ByteArray) : Bool := decide (0 ≤ dotI s)
def cutV (s : ByteArray) : AV := .tup [aS (cutA s), aS (cutB s), lb (cutC s)]
theorem dotFrom_lt {s : ByteArray} : ∀ {n i j : Nat}, dotFrom s n i = some j → j < i + n
  | 0, i, j, h => by cases h
  | n + 1, i, j, h => by
    simp only [dotFrom] at h
    cases hb : ((s.data.toList.getD i 0).toNat == 46) with
    | true => rw [hb] at h; cases h; omega
    | false => rw [hb, cond_false] at h; have := dotFrom_lt h; omega
theorem dotI_lt (s : ByteArray) : dotI s < s.size := by
  unfold dotI
  split
  · rename_i h; have := dotFrom_lt h; omega
  · omega
theorem fit_str {H : Heap} {x y : ByteArray} (h : x = y) : FitA H (aS x) (aS y) := congrArg (fun z => PV.lit (Value.string z)) h
theorem wrap_succ' {x : Int} (h0 : 0 ≤ x) (h : x < 1000000000000) : IntKind.i64.wrap (x + 1) = x + 1 := wrap_small (by omega) (by omega)

theorem lite_cut (s : ByteArray) (hs : s.size ≤ 1000000) : PureCall Try.prog 96 [aS s, aS ⟨#[46]⟩] (cutV s) := by
  have hd := dotI_lt s
  refine pure_rule tabOk Try.func96 rfl (by kernel_rfl) (by kernel_rfl) (Nat.le_of_ble_eq_true rfl) ?_
  show awp Try.prog tab 23 (bodyOf Try.f96) _ _ _
  repeat' first
    | refine And.intro ?_ ?_
    | (intro h; try simp only [Bool.not_true, Bool.not_false, cond_true, cond_false, reduceCtorEq] at h; try (replace h : True := h; clear h))
    | refine fit_bool (H := []) ?_
    | refine fit_str (H := []) ?_
    | refine draw_still tabOk mixed (by kernel_rfl) ?_
    | refine Or.inl ⟨_, _, FitAL.self rfl, index_dot s, ?_⟩
  all_goals try exact trivial
  all_goals simp only [cutA, cutB, cutC, decide_eq_true_eq, decide_eq_false_iff_not, ge_iff_le, Int.toNat_zero, Int.toNat_natCast] at *
  all_goals try rw [show ((ByteArray.size ⟨#[46]⟩ : Nat) : Int) = 1 from rfl, wrap_succ' ‹_› (by omega)]
  all_goals first
    | omega
    | (simp only [‹0 ≤ dotI s›, decide_true, cond_true]; done)
    | (simp only [‹0 ≤ dotI s›, decide_true, cond_true]; congr 1; omega)
    | (simp only [‹¬ 0 ≤ dotI s›, decide_false, cond_false]; done)
    | (simp only [‹¬ 0 ≤ dotI s›, decide_false, cond_false]; rfl)

theorem strings_cut (s : ByteArray) (hs : s.size ≤ 1000000) : PureCall Try.prog 83 [aS s, aS ⟨#[46]⟩] (cutV s) := by
  refine pure_rule tabOk Try.func83 rfl (by kernel_rfl) (by kernel_rfl) (Nat.le_of_ble_eq_true rfl) ?_
  show awp Try.prog tab 13 (bodyOf Try.f83) _ _ _
  refine Or.inl ⟨_, _, FitAL.self rfl, lite_cut s hs, ?_⟩
  exact ⟨rfl, rfl, rfl, trivial⟩

theorem nmd_cut (s : ByteArray) : nmd s = (cutC s && nm (cutA s) && nm (cutB s)) := by
  unfold nmd cutA cutB cutC dotI
  cases e : dotFrom s s.size 0 with
  | none => rfl
  | some i =>
    have : decide ((0 : Int) ≤ (i : Int)) = true := by simp
    simp only [nmAt, this, cond_true, Int.toNat_natCast, Bool.true_and]
theorem cutA_size {s : ByteArray} (hs : s.size ≤ 1000000) : (cutA s).size ≤ 1000000 := by
  unfold cutA
  cases decide (0 ≤ dotI s)
  · exact hs
  · exact extract_size hs
theorem cutB_size {s : ByteArray} (hs : s.size ≤ 1000000) : (cutB s).size ≤ 1000000 := by
  unfold cutB
  cases decide (0 ≤ dotI s)
  · exact Nat.zero_le _
  · exact extract_size hs

theorem irun_named (s : ByteArray) (hs : s.size ≤ 1000000) : PureCall Try.prog 69 [aS s] (lb (nmd s)) := by
  refine pure_rule tabOk Try.func69 rfl (by kernel_rfl) (by kernel_rfl) (Nat.le_of_ble_eq_true rfl) ?_
  show awp Try.prog tab 21 (bodyOf Try.f69) _ _ _
  refine Or.inl ⟨_, _, FitAL.self rfl, strings_cut s hs, ?_⟩
  repeat' first
    | refine And.intro ?_ ?_
    | (intro h; try simp only [Bool.not_true, Bool.not_false, cond_true, cond_false, reduceCtorEq] at h; try (replace h : True := h; clear h))
    | refine fit_bool (H := []) ?_
    | refine Or.inl ⟨_, _, FitAL.self rfl, tree_name _ (cutA_size hs), ?_⟩
    | refine Or.inl ⟨_, _, FitAL.self rfl, tree_name _ (cutB_size hs), ?_⟩
  all_goals try exact trivial
  all_goals rw [nmd_cut]
  all_goals simp only [*, Bool.and_true, Bool.true_and, Bool.false_and, Bool.and_false, cond_true, cond_false]
end Go.Vx

namespace Go.Vx
open Go.Proofs

theorem take_getD {α : Type} {xs : List α} {k : Nat} (d : α) (h : k < xs.length) : xs.take (k + 1) = xs.take k ++ [xs.getD k d] := by
  rw [List.take_add_one, List.getElem?_eq_getElem h, List.getD_eq_getElem?_getD, List.getElem?_eq_getElem h]; rfl

/-- How many are words, and how many cells the others have. -/
def szStep (s : Int × Int) (t : Ty) : Int × Int := (bif t.len == 0 then IntKind.i64.wrap (s.1 + 1) else s.1, IntKind.i64.wrap (s.2 + t.len))
def szs (xs : List Ty) : Int × Int := xs.foldl szStep (0, 0)
theorem szs_next {xs : List Ty} {k : Nat} (h : k < xs.length) : szs (xs.take (k + 1)) = szStep (szs (xs.take k)) (xs.getD k dTy) := by
  rw [take_getD dTy h, szs, List.foldl_append]; rfl

theorem irun_sizes (xs : List Ty) (hs : xs.length ≤ 1000000) : PureCall Try.prog 58 [.pv (slTy xs)] (.tup [lt' .i64 (szs xs).1, lt' .i64 (szs xs).2]) := by
  refine pure_rule tabOk Try.func58 rfl (by kernel_rfl) (by kernel_rfl) (Nat.le_of_ble_eq_true rfl) ?_
  show awp Try.prog tab 26 (bodyOf Try.f58) _ _ _
  refine loop_rule (X := Nat) tabOk (by kernel_rfl) (fun k => k ≤ xs.length) (fun k => ([(4, lt' .i64 (szs (xs.take k)).1), (5, lt' .i64 (szs (xs.take k)).2), (8, .pv (slTy xs)), (9, lt' .i64 xs.length), (10, lt' .i64 k)], [])) (fun k => xs.length - k) 0 (Nat.zero_le _) ⟨[], rfl, ⟨rfl, rfl, rfl, rfl, rfl, trivial⟩, trivial⟩ ?_
  intro k hk
  repeat' first
    | refine And.intro ?_ ?_
    | (intro h; try simp only [Bool.not_true, Bool.not_false, cond_true, cond_false, reduceCtorEq] at h; try (replace h : True := h; clear h))
    | refine fit_int (H := []) ?_
  all_goals try refine Exists.intro (k+1) (And.intro ?_ (And.intro ?_ (Exists.intro [] (And.intro rfl (And.intro (And.intro (mt_int ?_) (And.intro (mt_int ?_) (And.intro rfl (And.intro rfl (And.intro (mt_int (wrap_succ ?_)) trivial))))) trivial)))))
  all_goals simp only [Int.toNat_natCast, decide_eq_true_eq, decide_eq_false_iff_not] at *
  all_goals first
    | omega
    | exact trivial
    | (rw [szs_next (by omega), szStep] <;> simp only [*, cond_true, cond_false]; done)
    | rw [List.take_of_length_le (by omega)]
theorem ref_words (xs : List Ty) (hs : xs.length ≤ 1000000) : PureCall Try.prog 46 [.pv (slTy xs)] (.tup [lt' .i64 (szs xs).1, lt' .i64 (szs xs).2]) := by
  refine pure_rule tabOk Try.func46 rfl (by kernel_rfl) (by kernel_rfl) (Nat.le_of_ble_eq_true rfl) ?_
  show awp Try.prog tab 30 (bodyOf Try.f46) _ _ _
  refine loop_rule (X := Nat) tabOk (by kernel_rfl) (fun k => k ≤ xs.length) (fun k => ([(4, lt' .i64 (szs (xs.take k)).1), (5, lt' .i64 (szs (xs.take k)).2), (0, .pv (slTy xs)), (6, lt' .i64 k)], [])) (fun k => xs.length - k) 0 (Nat.zero_le _) ⟨[], rfl, ⟨rfl, rfl, rfl, rfl, trivial⟩, trivial⟩ ?_
  intro k hk
  repeat' first
    | refine And.intro ?_ ?_
    | (intro h; try simp only [Bool.not_true, Bool.not_false, cond_true, cond_false, reduceCtorEq] at h; try (replace h : True := h; clear h))
    | refine fit_int (H := []) ?_
  all_goals try refine Exists.intro (k+1) (And.intro ?_ (And.intro ?_ (Exists.intro [] (And.intro rfl (And.intro (And.intro (mt_int ?_) (And.intro (mt_int ?_) (And.intro rfl (And.intro (mt_int (wrap_succ ?_)) trivial)))) trivial)))))
  all_goals simp only [Int.toNat_natCast, decide_eq_true_eq, decide_eq_false_iff_not] at *
  all_goals first
    | omega
    | exact trivial
    | exact trivial
    | (rw [szs_next (by omega), szStep] <;> simp only [*, cond_true, cond_false]; done)
    | rw [List.take_of_length_le (by omega)]

/-- May a function's sizes be? -/
def tysOk (xs : List Ty) : Bool := xs.all fun t => !(decide (t.len < 0) || decide (t.len > 16))
def formOk (c : Cd) : Bool :=
  nmd c.name && decide (c.params.length ≤ 6) && tysOk c.params && decide ((szs c.params).1 ≤ c.regs) && decide (c.regs ≤ 10000) && decide ((szs c.params).2 ≤ c.cells) && decide (c.cells ≤ 4096) && decide (1 ≤ c.l.length) && decide (c.l.length ≤ 10000)
def TysTo (xs : List Ty) (k : Nat) : Prop := k ≤ xs.length ∧ ∀ i, i < k → 0 ≤ (xs.getD i dTy).len ∧ (xs.getD i dTy).len ≤ 16
theorem TysTo.next {xs : List Ty} {k : Nat} (h : TysTo xs k) (hk : k < xs.length) (h0 : 0 ≤ (xs.getD k dTy).len ∧ (xs.getD k dTy).len ≤ 16) : TysTo xs (k + 1) := ⟨hk, fun i hi => by
  rcases Nat.lt_or_ge i k with h1 | h1
  · exact h.2 i h1
  · obtain rfl : i = k := by omega
    exact h0⟩
theorem tysOk_iff {xs : List Ty} : tysOk xs = true ↔ ∀ i, i < xs.length → 0 ≤ (xs.getD i dTy).len ∧ (xs.getD i dTy).len ≤ 16 := by
  unfold tysOk
  rw [List.all_eq_true]
  constructor
  · intro h i hi
    rw [List.getD_eq_getElem?_getD, List.getElem?_eq_getElem hi]
    have := h _ (List.getElem_mem hi)
    simp only [Bool.not_eq_true', Bool.or_eq_false_iff, decide_eq_false_iff_not] at this
    simp only [Option.getD_some]
    omega
  · intro h x hx
    obtain ⟨i, hi, rfl⟩ := List.getElem_of_mem hx
    have := h i hi
    rw [List.getD_eq_getElem?_getD, List.getElem?_eq_getElem hi] at this
    simp only [Option.getD_some] at this
    simp only [Bool.not_eq_true', Bool.or_eq_false_iff, decide_eq_false_iff_not]
    omega
theorem formOk_iff {c : Cd} : formOk c = true ↔ nmd c.name = true ∧ c.params.length ≤ 6 ∧ (∀ i, i < c.params.length → 0 ≤ (c.params.getD i dTy).len ∧ (c.params.getD i dTy).len ≤ 16) ∧ (szs c.params).1 ≤ c.regs ∧ c.regs ≤ 10000 ∧ (szs c.params).2 ≤ c.cells ∧ c.cells ≤ 4096 ∧ 1 ≤ c.l.length ∧ c.l.length ≤ 10000 := by
  unfold formOk
  simp only [Bool.and_eq_true, decide_eq_true_eq, tysOk_iff, and_assoc]
theorem form_no {c : Cd} (h : nmd c.name = false ∨ 6 < c.params.length ∨ (∃ i, i < c.params.length ∧ ¬ (0 ≤ (c.params.getD i dTy).len ∧ (c.params.getD i dTy).len ≤ 16)) ∨ c.regs < (szs c.params).1 ∨ 10000 < c.regs ∨ c.cells < (szs c.params).2 ∨ 4096 < c.cells ∨ c.l.length = 0 ∨ 10000 < c.l.length) : false = formOk c := by
  symm
  rw [← Bool.not_eq_true, formOk_iff]
  rintro ⟨h1, h2, h3, h4, h5, h6, h7, h8, h9⟩
  rcases h with h | h | ⟨i, hi, h⟩ | h | h | h | h | h | h
  · rw [h] at h1; cases h1
  · omega
  · exact h (h3 i hi)
  all_goals omega
@[reducible] def boxCd (c : Cd) : AObj := .box ((encCd c).map .pv)

theorem mCd {r : Ren} {c : Cd} : matchC r ((encCd c).map .pv) ((encCd c).map .pv) := ⟨rfl, rfl, rfl, rfl, rfl, trivial⟩
theorem irun_form (c : Cd) (hs : c.name.size ≤ 1000000) (hp : c.params.length ≤ 1000000) (hl : c.l.length ≤ 1000000) : PureCall Try.prog 43 [aCd c] (lb (formOk c)) := by
  refine pure_rule tabOk Try.func43 rfl (by kernel_rfl) (by kernel_rfl) (Nat.le_of_ble_eq_true rfl) ?_
  show awp Try.prog tab 71 (bodyOf Try.f43) _ _ _
  repeat' first
    | refine And.intro ?_ ?_
    | (intro h; try simp only [Bool.not_true, Bool.not_false, cond_true, cond_false, reduceCtorEq] at h; try (replace h : True := h; clear h))
    | refine fit_bool (H := []) ?_
    | refine Or.inl ⟨_, _, FitAL.self rfl, irun_named _ hs, ?_⟩
  all_goals try refine loop_rule (X := Nat) tabOk (by kernel_rfl) (TysTo c.params) (fun k => ([(1, .ptr 0 0), (18, .pv (slTy c.params)), (19, lt' .i64 c.params.length), (20, lt' .i64 k)], [boxCd c])) (fun k => c.params.length - k) 0 (And.intro (Nat.zero_le _) fun i h => absurd h (Nat.not_lt_zero _)) ⟨[some 0], rfl, ⟨rfl, rfl, rfl, rfl, trivial⟩, ⟨mCd, trivial⟩⟩ ?_
  all_goals try (
    intro k hk
    repeat' first
      | refine And.intro ?_ ?_
      | (intro h; try simp only [Bool.not_true, Bool.not_false, cond_true, cond_false, reduceCtorEq] at h; try (replace h : True := h; clear h))
      | refine fit_bool (H := []) ?_
      | refine Or.inl ⟨_, _, FitAL.self rfl, irun_sizes _ hp, ?_⟩)
  all_goals try exact trivial
  all_goals try refine Exists.intro (k+1) (And.intro ?_ (And.intro ?_ (Exists.intro [some 0] (And.intro rfl (And.intro (And.intro rfl (And.intro rfl (And.intro rfl (And.intro (mt_int (wrap_succ ?_)) trivial)))) (And.intro mCd trivial))))))
  all_goals simp only [cond_true, cond_false, Int.toNat_natCast, Int.toNat_zero, decide_eq_true_eq, decide_eq_false_iff_not, Bool.not_eq_eq_eq_not, Bool.not_true, Bool.not_false, beq_iff_eq, beq_eq_false_iff_ne, ne_eq] at *
  all_goals first
    | omega
    | exact hk.next (by omega) (And.intro (by omega) (by omega))
    | exact form_no (.inl ‹_›)
    | exact form_no (.inr (.inl (by omega)))
    | exact form_no (.inr (.inr (.inl (Exists.intro k (And.intro (by omega) (by omega))))))
    | exact form_no (.inr (.inr (.inr (by omega))))
    | (rw [Bool.eq_iff_iff, decide_eq_true_eq, formOk_iff]
       exact Iff.intro (fun h => And.intro ‹_› (And.intro (by omega) (And.intro (fun i hi => hk.2 i (by omega)) (by omega)))) (fun h => by omega))
end Go.Vx

