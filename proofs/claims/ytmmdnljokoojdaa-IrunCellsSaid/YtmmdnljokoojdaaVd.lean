/- Regions that draw their order, walked by a plan. No condition: these are lemmas for the laws. -/
import Derived.Test.YtmmdnljokoojdaaVc
set_option linter.unusedVariables false
set_option linter.unusedSimpArgs false
namespace Go.Vx
open Go.RowKit (Below)

section
variable {P : Program} {T : Tab} {ρ ρ' : Operand → Option AV} {H H' : Heap} {A B : AV → Heap → Prop}

theorem takeV_mono {i : TI} {cs : List AV} {o : Nat} {K K' : AV → Prop} (hK : ∀ v, K v → K' v) (h : takeV i cs o K) : takeV i cs o K' := by
  revert h
  unfold takeV chk
  repeat' split
  all_goals first | exact hK _ | exact id
theorem chk_mono {b : Bool} {K K' : Prop} (hK : K → K') (h : chk b K) : chk b K' := by
  revert h; unfold chk; split <;> first | exact hK | exact id
theorem under_mono {c : Option Prop} {K K' : Prop} (hK : K → K') (h : under c K) : under c K' := by
  revert h; unfold under; split <;> first | exact And.imp id hK | exact hK
theorem entV_mono {i : TI} {cs : List AV} {K K' : AV → Prop} (hK : ∀ v, K v → K' v) (h : entV i cs K) : entV i cs K' := by
  revert h
  unfold entV chk
  repeat' split
  all_goals first | exact hK _ | exact id
theorem frzK_mono : ∀ (cs : List AV) {H : Heap} {k k' : Heap → Prop}, (∀ H, k H → k' H) → frzK H cs k → frzK H cs k'
  | [], H, k, k', hk, h => hk H h
  | c :: cs, H, k, k', hk, h => by cases c <;> exact frzK_mono cs hk h
theorem ImpStep_mono {f : FuncId} {as : List AV} (hK : ∀ u H', A u H' → B u H') (h : ImpStep P f as H A) : ImpStep P f as H B := by
  obtain ⟨r, bs, Hc, x, H', h1, h2, h3, h4, h5⟩ := h
  exact ⟨r, bs, Hc, x, H', h1, h2, h3, h4, hK _ _ h5⟩
theorem SoftStep_mono {f : FuncId} {as : List AV} (hK : ∀ u H', A u H' → B u H') (h : SoftStep P f as H A) : SoftStep P f as H B := by
  obtain ⟨cs, h1, h2⟩ := h
  exact ⟨cs, h1, ImpStep_mono hK h2⟩

theorem den_mono {op : Op} (hAB : ∀ u H', A u H' → B u H') (h : den P T op ρ H A) : den P T op ρ H B := by
  revert h
  cases op <;> simp only [den]
  all_goals repeat' split
  all_goals first
    | exact hAB _ _
    | exact id
    | exact takeV_mono (fun v => hAB _ _)
    | exact chk_mono (hAB _ _)
    | exact under_mono (hAB _ _)
    | exact And.imp (fun h e => hAB _ _ (h e)) (fun h e => hAB _ _ (h e))
    | exact Exists.imp fun r => And.imp id (hAB _ _)
    | exact And.imp id (And.imp id (hAB _ _))
    | exact chk_mono (And.imp id (takeV_mono fun v => hAB _ _))
    | exact chk_mono (And.imp id (And.imp id (hAB _ _)))
    | exact chk_mono (And.imp id (And.imp id (And.imp id (hAB _ _))))
    | exact And.imp id (And.imp id (And.imp id (hAB _ _)))
    | exact chk_mono (And.imp id (Exists.imp fun cs => And.imp id (Exists.imp fun x => And.imp id (hAB _ _))))
    | exact chk_mono (Exists.imp fun y => And.imp id (hAB _ _))
    | exact chk_mono (And.imp (fun h y e => entV_mono (fun v => hAB _ _) (h y e)) (fun h e => entV_mono (fun v => hAB _ _) (h e)))
    | exact chk_mono (And.imp id (And.imp id (And.imp id (And.imp id (hAB _ _)))))
    | exact Or.imp (Exists.imp fun bs => Exists.imp fun r => And.imp id (And.imp id (hAB _ _))) (Or.imp (ImpStep_mono hAB) (SoftStep_mono hAB))
    | exact chk_mono (Exists.imp fun xs => And.imp id (And.imp id (frzK_mono _ fun H => hAB _ _)))
    | exact chk_mono (Exists.imp fun xs => And.imp id (And.imp id (hAB _ _)))
    | (refine chk_mono ?_
       repeat' split
       all_goals first
         | exact id
         | exact hAB _ _
         | exact Exists.imp fun xs => And.imp id (And.imp id (frzK_mono _ fun H => hAB _ _))
         | exact Exists.imp fun xs => And.imp id (And.imp id (hAB _ _))
         | exact chk_mono (Exists.imp fun ys => And.imp id (And.imp id (hAB _ _)))
         | (refine chk_mono ?_
            repeat' split
            all_goals first
              | exact id
              | exact Exists.imp fun xs => And.imp id (And.imp id (hAB _ _))
              | exact chk_mono (Exists.imp fun ys => And.imp id (And.imp id (hAB _ _)))))

/-! ### What an operation hangs on -/
theorem getAll_congr : ∀ {xs : List Operand}, (∀ x ∈ xs, ρ' x = ρ x) → getAll ρ' xs = getAll ρ xs
  | [], _ => rfl
  | x :: xs, h => by simp only [getAll]; rw [h x (by simp), getAll_congr fun y hy => h y (by simp [hy])]
theorem getParts_congr : ∀ {xs : List (Nat × Operand)}, (∀ x ∈ xs.map (·.2), ρ' x = ρ x) → getParts ρ' xs = getParts ρ xs
  | [], _ => rfl
  | (i, x) :: xs, h => by simp only [getParts]; rw [h x (by simp), getParts_congr fun y hy => h y (by rw [List.map_cons]; exact List.mem_cons_of_mem _ hy)]
theorem optInt_congr {x : Option Operand} {d : Int} (h : ∀ y ∈ x, ρ' y = ρ y) : optInt ρ' x d = optInt ρ x d := by
  cases x with
  | none => rfl
  | some o => simp only [optInt]; rw [h o (by simp)]

/-- Operations of the quick walk: those that turn nothing, those that only make things. -/
def gentle (b : Bool) : Op → Bool
  | .move _ | .assign _ | .pick .. | .build .. | .binOp .. | .unOp .. | .convert .. | .fieldAddr .. | .field .. | .load .. | .indexAddr .. | .index .. | .extract .. | .nilCheck .. | .lookup .. | .slice .. => true
  | .alloc _ | .box .. | .makeSlice .. | .makeMap .. | .buildSlice .. => true
  | .call c => match c.callee with
    | .builtin .len => true
    | .builtin .append => b
    | _ => false
  | _ => false

theorem den_congr {op : Op} {b : Bool} (hg : gentle b op = true) (h : ∀ x ∈ op.operands.toList, ρ' x = ρ x) : den P T op ρ' H A = den P T op ρ H A := by
  cases op <;> simp only [Op.operands] at h <;> simp only [gentle] at hg <;> first
    | (exact Bool.noConfusion hg; done)
    | (cases hg; done)
    | (exact rfl; done)
    | (rename_i x; simp only [den]; rw [h x (by simp)]; done)
    | (rename_i _ x; simp only [den]; rw [h x (by simp)]; done)
    | (rename_i x _; simp only [den]; rw [h x (by simp)]; done)
    | (rename_i _ x _; simp only [den]; rw [h x (by simp)]; done)
    | (rename_i _ x y; simp only [den]; rw [h x (by simp), h y (by simp)]; done)
    | (rename_i x y z; simp only [den]; rw [h x (by simp), h y (by simp), h z (by simp)]; done)
    | skip
  case binOp o t x y t' => simp only [den]; rw [h x (by simp), h y (by simp)]
  case lookup t x y ok => simp only [den]; rw [h x (by simp), h y (by simp)]
  case build t parts => simp only [den]; rw [getParts_congr (by simpa using h)]
  case buildSlice t n parts => simp only [den]; rw [getParts_congr (by simpa using h)]
  case unOp o t x => cases o <;> simp only [den] <;> try simp only [h x (by simp)]
  case makeMap t r => cases r <;> simp only [den]
  case slice t x lo hi mx =>
    have h1 := h x (by simp)
    have h2 : ∀ d, optInt ρ' lo d = optInt ρ lo d := fun d => optInt_congr fun y hy => h y (by cases hy; simp)
    have h3 : ∀ d, optInt ρ' hi d = optInt ρ hi d := fun d => optInt_congr fun y hy => h y (by cases hy; simp)
    simp only [den, h1, h2, h3]
  case call c =>
    split at hg
    · rename_i hc
      simp only [Call.operands, hc] at h
      simp only [den, hc]
      have h : ∀ x ∈ c.args.toList, ρ' x = ρ x := fun x hx => h x (by simpa using hx)
      generalize c.args.toList = l at h ⊢
      rcases l with _ | ⟨x, _ | ⟨y, l⟩⟩
      · rfl
      · generalize c.argTypes.toList = l2
        rcases l2 with _ | ⟨t, _ | ⟨t', l2⟩⟩
        · rfl
        · simp only [h x (by simp)]
        · rfl
      · rfl
    · rename_i hc
      simp only [Call.operands, hc] at h
      simp only [den, hc]
      have h : ∀ x ∈ c.args.toList, ρ' x = ρ x := fun x hx => h x (by simpa using hx)
      generalize c.args.toList = l at h ⊢
      rcases l with _ | ⟨x, _ | ⟨y, _ | ⟨z, l⟩⟩⟩
      · rfl
      · rfl
      · generalize c.argTypes.toList = l2
        rcases l2 with _ | ⟨t, _ | ⟨t', _ | ⟨t'', l2⟩⟩⟩
        · rfl
        · rfl
        · simp only [h x (by simp), h y (by simp)]
        · rfl
      · rfl
    · cases hg

/-- What has become of things: boxes and maps are as they were; rows too, or (b) dead. -/
def RkO (b : Bool) (o : AObj) (y : Option AObj) : Prop :=
  match o with
  | .row _ e sz α enc d xs => (∃ ro', y = some (.row ro' e sz α enc d xs)) ∨ (b = true ∧ y = some .dead)
  | o => y = some o
def Rk (b : Bool) (H H' : Heap) : Prop := ∀ (i : Nat) (o : AObj), H[i]? = some o → RkO b o H'[i]?
theorem Rk.refl {b : Bool} : Rk b H H := fun i o h => by cases o <;> first | exact .inl ⟨_, h⟩ | exact h
theorem Rk.trans {b : Bool} {H1 H2 : Heap} (h : Rk b H H1) (k : Rk b H1 H2) : Rk b H H2 := fun i o ho => by
  have h1 := h i o ho
  cases o <;> first | exact k i _ h1 | skip
  rename_i ro e sz α enc d xs
  rcases h1 with ⟨ro', h1⟩ | ⟨hb, h1⟩
  · exact k i (.row ro' e sz α enc d xs) h1
  · exact .inr ⟨hb, k i _ h1⟩
theorem Rk.append {b : Bool} {X : Heap} : Rk b H (H ++ X) := fun i o h => by
  have : (H ++ X)[i]? = some o := by rw [List.getElem?_append_left (List.getElem?_eq_some_iff.1 h).1]; exact h
  cases o <;> first | exact .inl ⟨_, this⟩ | exact this
theorem Rk.frz1 {b : Bool} (i : Nat) : Rk b H (Vx.frz1 H i) := fun j o h => by
  unfold Vx.frz1
  split
  · rename_i ro e sz α enc d xs hi
    rw [List.getElem?_set]
    by_cases hij : i = j
    · subst hij
      rw [if_pos rfl, if_pos (List.getElem?_eq_some_iff.1 h).1]
      rw [h] at hi
      cases hi
      exact .inl ⟨_, rfl⟩
    · rw [if_neg hij, h]
      cases o <;> first | exact .inl ⟨_, rfl⟩ | rfl
  · rw [h]
    cases o <;> first | exact .inl ⟨_, rfl⟩ | rfl
theorem Rk.frzC {b : Bool} (a : AV) : Rk b H (Vx.frzC H a) := by cases a <;> first | exact Rk.refl | exact Rk.frz1 _
theorem Rk.frzL {b : Bool} : ∀ (as : List AV) {H : Heap}, Rk b H (Vx.frzL H as)
  | [], H => Rk.refl
  | a :: as, H => (Rk.frzC a).trans (Rk.frzL as)
theorem Rk.row {H' : Heap} {b : Bool} (h : Rk b H H') (hb : b = false) {i : Nat} {ro : Bool} {e : TypeId} {sz : Nat} {α : Type} {enc : α → List PV} {d : α} {xs : List α} (hi : H[i]? = some (.row ro e sz α enc d xs)) : ∃ ro', H'[i]? = some (.row ro' e sz α enc d xs) := by
  rcases h i _ hi with h | ⟨h, _⟩
  · exact h
  · rw [hb] at h; cases h
theorem Rk.dead {b : Bool} {k : Nat} {ro : Bool} {e : TypeId} {sz : Nat} {α : Type} {enc : α → List PV} {d : α} {xs : List α} (hb : b = true) (hk : H[k]? = some (.row ro e sz α enc d xs)) : Rk b H (H.set k .dead) := fun j o h => by
  rw [List.getElem?_set]
  by_cases hij : k = j
  · subst hij
    rw [if_pos rfl, if_pos (List.getElem?_eq_some_iff.1 h).1]
    rw [h] at hk
    cases hk
    exact .inr ⟨hb, rfl⟩
  · rw [if_neg hij, h]
    cases o <;> first | exact .inl ⟨_, rfl⟩ | rfl
end
end Go.Vx

namespace Go.Vx
open Go.RowKit (Below)
section
variable {P : Program} {T : Tab} {ρ ρ' : Operand → Option AV} {H H' : Heap} {A B : AV → Heap → Prop}

/-- It looks at no row. -/
def boxy (ρ : Operand → Option AV) : Op → Bool
  | .indexAddr _ x _ | .slice _ x _ _ _ | .load _ x => match ρ x with
    | some (.own _) | some (.eptr ..) => false
    | _ => true
  | .call c => match c.args.toList with
    | [x] => match ρ x with
      | some (.own _) => false
      | _ => true
    | _ => true
  | _ => true

theorem chk_mk {b : Bool} {K : Prop} (h : b = true) (k : K) : chk b K := by subst h; exact k
theorem takeV_det {i : TI} {cs : List AV} {o : Nat} {K : AV → Prop} (h : takeV i cs o K) : ∃ v, K v ∧ ∀ K' : AV → Prop, K' v → takeV i cs o K' := by
  rcases takeV_inv h with ⟨h1, h2, h3⟩ | ⟨h1, c, h2, h3⟩
  · refine ⟨_, h3, fun K' hk => ?_⟩
    unfold takeV at h ⊢
    simp only [h1] at h ⊢
    exact chk_mono (fun _ => hk) h
  · refine ⟨_, h3, fun K' hk => ?_⟩
    unfold takeV
    simp only [h1, h2]
    exact hk
theorem entV_det {i : TI} {cs : List AV} {K : AV → Prop} (h : entV i cs K) : ∃ v, K v ∧ ∀ K' : AV → Prop, K' v → entV i cs K' := by
  unfold entV at h ⊢
  split at h
  · rename_i e
    obtain ⟨h1, h2⟩ := chk_inv h
    exact ⟨_, h2, fun K' hk => by simp only [h1]; exact hk⟩
  · rename_i e
    split at h
    · exact ⟨_, h, fun K' hk => hk⟩
    · exact h.elim

theorem den_det {op : Op} {b : Bool} (hs : stillOp op = true) (hb : b = true → boxy ρ op = true) (h : den P T op ρ H A) :
    ∃ v, A v H ∧ ∀ H', Rk b H H' → ∀ K : AV → Heap → Prop, K v H' → den P T op ρ H' K := by
  cases op <;> simp only [stillOp] at hs <;> first
    | (cases hs; done)
    | skip
  case move x => simp only [den] at h ⊢; split at h <;> first | exact h.elim | exact ⟨_, h, fun H' hR K hk => hk⟩
  case assign x => simp only [den] at h ⊢; split at h <;> first | exact h.elim | exact ⟨_, h, fun H' hR K hk => hk⟩
  case pick c x y =>
    simp only [den] at h ⊢
    split at h
    · split at h
      · exact ⟨_, h, fun H' hR K hk => hk⟩
      · rename_i t _ _ _ _ _ _ _ _
        cases t with
        | true => exact ⟨_, h.1 rfl, fun H' hR K hk => ⟨fun _ => hk, fun h => Bool.noConfusion h⟩⟩
        | false => exact ⟨_, h.2 rfl, fun H' hR K hk => ⟨fun h => Bool.noConfusion h, fun _ => hk⟩⟩
      · exact h.elim
    · exact h.elim
  case build t parts =>
    simp only [den] at h ⊢
    repeat' (split at h)
    all_goals first
      | exact h.elim
      | (obtain ⟨h1, h2⟩ := chk_inv h
         first
           | exact h2.elim
           | exact ⟨_, h2, fun H' hR K hk => chk_mono (fun _ => hk) h⟩)
  case binOp o t x y t' =>
    simp only [den] at h ⊢
    repeat' (split at h)
    all_goals first
      | exact h.elim
      | exact ⟨_, h, fun H' hR K hk => hk⟩
      | (unfold under at h ⊢; split at h <;> first | exact ⟨_, h, fun H' hR K hk => hk⟩ | exact ⟨_, h.2, fun H' hR K hk => ⟨h.1, hk⟩⟩)
      | (obtain ⟨r, h1, h2⟩ := h; exact ⟨_, h2, fun H' hR K hk => ⟨r, h1, hk⟩⟩)
  case unOp o t x =>
    cases o <;> simp only [den] at h ⊢ <;> first | exact h.elim | skip
    all_goals split at h <;> first | exact h.elim | exact ⟨_, h, fun H' hR K hk => hk⟩
  case convert t t' x =>
    simp only [den] at h ⊢
    repeat' (split at h)
    all_goals first | exact h.elim | exact ⟨_, h, fun H' hR K hk => hk⟩
  case fieldAddr t x f =>
    simp only [den] at h ⊢
    repeat' (split at h)
    all_goals first | exact h.elim | exact ⟨_, h, fun H' hR K hk => hk⟩
  case field t x f =>
    simp only [den] at h ⊢
    repeat' (split at h)
    all_goals first | exact h.elim | (obtain ⟨v, h1, h2⟩ := takeV_det h; exact ⟨v, h1, fun H' hR K hk => h2 _ hk⟩)
  case load t x =>
    simp only [den] at h ⊢
    split at h
    · split at h
      · rename_i hid
        obtain ⟨v, h1, h2⟩ := takeV_det h
        refine ⟨v, h1, fun H' hR K hk => ?_⟩
        have : H'[_]? = some _ := hR _ _ hid
        rw [this]
        exact h2 _ hk
      · exact h.elim
    · obtain ⟨v, h1, h2⟩ := takeV_det h
      exact ⟨v, h1, fun H' hR K hk => h2 _ hk⟩
    · split at h
      · rename_i hid
        have hb' : b = false := by
          cases b with
          | false => rfl
          | true => have := hb rfl; simp [boxy, *] at this
        obtain ⟨h0, hlt, h⟩ := chk_inv h
        obtain ⟨v, h1, h2⟩ := takeV_det h
        refine ⟨v, h1, fun H' hR K hk => ?_⟩
        obtain ⟨ro', he⟩ := hR.row hb' hid
        rw [he]
        simp only [h0, chk]
        exact ⟨hlt, h2 _ hk⟩
      · exact h.elim
    · exact h.elim
  case indexAddr t x i =>
    simp only [den] at h ⊢
    split at h
    case h_2 => exact h.elim
    split at h
    case h_3 => exact h.elim
    · split at h
      · exact ⟨_, h.2.2, fun H' hR K hk => ⟨h.1, h.2.1, hk⟩⟩
      · exact h.elim
    · split at h
      case h_2 => exact h.elim
      split at h
      case h_3 => exact h.elim
      · obtain ⟨h0, h1, h2, h3⟩ := chk_inv h
        exact ⟨_, h3, fun H' hR K hk => by simp only [h0, chk]; exact ⟨h1, h2, hk⟩⟩
      · rename_i hx
        split at h
        case h_2 => exact h.elim
        rename_i hid
        have hb' : b = false := by
          cases b with
          | false => rfl
          | true => have := hb rfl; simp only [boxy, hx] at this; cases this
        obtain ⟨h0, h1, h2, h3⟩ := chk_inv h
        refine ⟨_, h3, fun H' hR K hk => ?_⟩
        obtain ⟨ro', he⟩ := hR.row hb' hid
        rw [he]
        simp only [h0, chk]
        exact ⟨h1, h2, hk⟩
  case index t x i =>
    simp only [den] at h ⊢
    repeat' (split at h)
    all_goals first | exact h.elim | exact ⟨_, h.2.2, fun H' hR K hk => ⟨h.1, h.2.1, hk⟩⟩
  case extract x j =>
    simp only [den] at h ⊢
    repeat' (split at h)
    all_goals first | exact h.elim | exact ⟨_, h, fun H' hR K hk => hk⟩
  case nilCheck x =>
    simp only [den] at h ⊢
    repeat' (split at h)
    all_goals first | exact h.elim | exact ⟨_, h, fun H' hR K hk => hk⟩
  case lookup t m k ok =>
    simp only [den] at h ⊢
    split at h
    case h_2 => exact h.elim
    split at h
    case h_2 => exact h.elim
    split at h
    case h_2 => exact h.elim
    split at h
    case h_2 => exact h.elim
    split at h
    case h_2 => exact h.elim
    rename_i kk' ν ev kvs hid
    split at h
    case h_2 => exact h.elim
    rename_i key hkey
    have e := fun H' (hR : Rk b H H') => (hR _ _ hid : H'[_]? = some _)
    obtain ⟨h0, h1, h2⟩ := chk_inv h
    cases hl : look _ kvs key with
    | some y =>
      obtain ⟨v, g1, g2⟩ := entV_det (h1 y hl)
      refine ⟨_, g1, fun H' hR K hk => ?_⟩
      rw [e H' hR]
      simp only [hkey]
      exact chk_mk h0 ⟨fun y' e' => by rw [hl] at e'; cases e'; exact g2 _ hk, fun e' => by rw [hl] at e'; cases e'⟩
    | none =>
      obtain ⟨v, g1, g2⟩ := entV_det (h2 hl)
      refine ⟨_, g1, fun H' hR K hk => ?_⟩
      rw [e H' hR]
      simp only [hkey]
      exact chk_mk h0 ⟨fun y' e' => by rw [hl] at e'; (cases e'), fun e' => g2 _ hk⟩
  case slice t x lo hi mx =>
    simp only [den] at h ⊢
    repeat' (split at h)
    all_goals first
      | exact h.elim
      | exact ⟨_, h.2.2.2, fun H' hR K hk => ⟨h.1, h.2.1, h.2.2.1, hk⟩⟩
      | (obtain ⟨h0, h1, h2, h3, h4⟩ := chk_inv h
         first
           | exact ⟨_, h4, fun H' hR K hk => chk_mk h0 ⟨h1, h2, h3, hk⟩⟩
           | (rename_i hx _ _ _ _ _ _ _ _ hid _ _ _ _ hlo hhi
              have hb' : b = false := by
                cases b with
                | false => rfl
                | true => have := hb rfl; simp only [boxy, hx] at this; cases this
              refine ⟨_, h4, fun H' hR K hk => ?_⟩
              obtain ⟨ro', he⟩ := hR.row hb' hid
              rw [he]
              simp only [hlo, hhi]
              exact chk_mk h0 ⟨h1, h2, h3, hk⟩))
  case call c =>
    split at hs
    case h_2 => cases hs
    rename_i hc
    simp only [den, hc] at h ⊢
    split at h
    case h_2 => exact h.elim
    rename_i hargs _
    split at h
    case h_5 => exact h.elim
    · split at h
      · exact ⟨_, h, fun H' hR K hk => hk⟩
      · exact h.elim
    · split at h
      · exact ⟨_, h, fun H' hR K hk => hk⟩
      · exact h.elim
    · split at h
      · exact ⟨_, h, fun H' hR K hk => hk⟩
      · exact h.elim
    · rename_i hx _
      split at h
      · rename_i hk0 hid
        have hb' : b = false := by
          cases b with
          | false => rfl
          | true => have := hb rfl; simp only [boxy, hargs, hx] at this; cases this
        refine ⟨_, h, fun H' hR K hk => ?_⟩
        obtain ⟨ro', he⟩ := hR.row hb' hid
        rw [he]
        simp only [hk0]
        exact hk
      · exact h.elim

theorem frzK_rk {b : Bool} {H0 : Heap} : ∀ (cs : List AV) {H : Heap} {k k' : Heap → Prop}, Rk b H0 H → (∀ H, Rk b H0 H → k H → k' H) → frzK H cs k → frzK H cs k'
  | [], H, k, k', hR, hk, h => hk H hR h
  | c :: cs, H, k, k', hR, hk, h => by cases c <;> first | exact frzK_rk cs (hR.trans (Rk.frz1 _)) hk h | exact frzK_rk cs hR hk h
/-- What only makes things. -/
theorem den_gentle {op : Op} {b : Bool} (hg : gentle b op = true) (hst : stillOp op = false) (hAB : ∀ u H', Rk b H H' → A u H' → B u H') (h : den P T op ρ H A) : den P T op ρ H B := by
  revert h
  cases op <;> simp only [gentle] at hg <;> first
    | (cases hg; done)
    | (cases hst; done)
    | skip
  case alloc => simp only [den]; split <;> first | exact hAB _ _ Rk.append | exact id
  case box => simp only [den]; split <;> first | exact chk_mono (hAB _ _ Rk.append) | exact id
  case makeMap t r =>
    cases r <;> simp only [den] <;> try exact id
    repeat' split
    all_goals first | exact hAB _ _ Rk.append | exact id
  case makeSlice t l c =>
    simp only [den]
    repeat' split
    all_goals first | exact chk_mono (And.imp id (And.imp id (And.imp id (And.imp id (hAB _ _ Rk.append))))) | exact id
  case buildSlice t n parts =>
    simp only [den]
    intro h
    have key : ∀ (cs : List AV) (X : Heap), Rk b H (frzL H cs ++ X) := fun cs X => (Rk.frzL cs).trans Rk.append
    revert h
    repeat' split
    all_goals first
      | exact id
      | exact chk_mono (Exists.imp fun xs => And.imp id (And.imp id fun h => frzK_rk _ Rk.refl (fun H' hR h => hAB _ _ (hR.trans Rk.append) h) h))
      | exact chk_mono (Exists.imp fun xs => And.imp id (And.imp id (hAB _ _ (key _ _))))
  case call c =>
    split at hg
    · rename_i hc; simp only [stillOp, hc] at hst; cases hst
    · rename_i hc
      subst hg
      simp only [den, hc]
      repeat' split
      all_goals first
        | exact id
        | (refine chk_mono ?_
           repeat' split
           all_goals first
             | exact id
             | (refine chk_mono ?_
                repeat' split
                all_goals first
                  | exact id
                  | exact Exists.imp fun xs => And.imp id (And.imp id (hAB _ _ Rk.append))
                  | (rename_i hid
                     exact chk_mono (Exists.imp fun ys => And.imp id (And.imp id (hAB _ _ (by rw [hset_eq]; exact (Rk.dead rfl hid).trans Rk.append)))))))
    · cases hg

/-- The meaning of an instruction; pc: calls of functions are pure ones. -/
noncomputable def dp (pc : Bool) (P : Program) (T : Tab) (op : Op) (ρ : Operand → Option AV) (H : Heap) (K : AV → Heap → Prop) : Prop :=
  match pc with
  | false => den P T op ρ H K
  | true => match op with
    | .call c => match c.callee with
      | .value x => match ρ x with
        | some (.pv (.lit (.func (.func f) xs ys))) => match xs.toList, ys.toList with
          | [], [] => match getAll ρ c.args.toList with
            | some as => ∃ bs r, FitAL H as bs ∧ PureCall P f bs r ∧ K r (if flatV r then H else frzAL H as)
            | none => False
          | _, _ => False
        | _ => False
      | _ => den P T (.call c) ρ H K
    | op => den P T op ρ H K
/-- Operations that may come in any order with those that turn nothing. -/
def gentleP (pc b : Bool) (op : Op) : Bool :=
  gentle b op || (pc && match op with
    | .call c => match c.callee with
      | .value _ => true
      | _ => false
    | _ => false)
theorem dp_den {pc : Bool} {op : Op} (h : dp pc P T op ρ H A) : den P T op ρ H A := by
  cases pc with
  | false => exact h
  | true =>
    unfold dp at h
    dsimp only at h
    split at h
    · rename_i c
      split at h
      · rename_i hc
        split at h
        · rename_i hx
          split at h
          · rename_i hxs hys
            split at h
            · rename_i hargs
              simp only [den, hc, hx, hxs, hys, hargs]
              exact Or.inl h
            · exact h.elim
          · exact h.elim
        · exact h.elim
      · exact h
    · exact h
theorem dp_mono {pc : Bool} {op : Op} (hAB : ∀ u H', A u H' → B u H') (h : dp pc P T op ρ H A) : dp pc P T op ρ H B := by
  cases pc with
  | false => exact den_mono hAB h
  | true =>
    revert h
    unfold dp
    dsimp only
    repeat' split
    all_goals first | exact Exists.imp fun bs => Exists.imp fun r => And.imp id (And.imp id (hAB _ _)) | exact den_mono hAB | exact id
theorem dp_gen {pc b : Bool} {op : Op} (hg : gentle b op = true) : dp pc P T op ρ H A = den P T op ρ H A := by
  cases pc with
  | false => rfl
  | true =>
    unfold dp
    dsimp only
    split
    · rename_i c
      split
      · rename_i hc; simp only [gentle, hc] at hg; cases hg
      · rfl
    · rfl
theorem gentle_of_still {op : Op} {b : Bool} (hs : stillOp op = true) : gentle b op = true := by
  cases op <;> simp only [stillOp] at hs <;> first | (cases hs; done) | rfl | skip
  split at hs
  · rename_i hc; simp only [gentle, hc]
  · cases hs
theorem dp_congr {op : Op} {pc b : Bool} (hg : gentleP pc b op = true) (h : ∀ x ∈ op.operands.toList, ρ' x = ρ x) : dp pc P T op ρ' H A = dp pc P T op ρ H A := by
  cases hg1 : gentle b op with
  | true => rw [dp_gen hg1, dp_gen hg1]; exact den_congr hg1 h
  | false =>
    simp only [gentleP, hg1, Bool.false_or, Bool.and_eq_true] at hg
    obtain ⟨rfl, hg⟩ := hg
    split at hg
    · rename_i c
      split at hg
      · rename_i x hc
        have h' : ∀ y ∈ x :: c.args.toList, ρ' y = ρ y := fun y hy => h y (by
          simp only [Op.operands, Call.operands, hc]
          simpa using hy)
        unfold dp
        simp only [hc]
        rw [h' x (by simp), getAll_congr fun y hy => h' y (by simp [hy])]
      · cases hg
    · cases hg
theorem Rk.frzA {b : Bool} (a : AV) : Rk b H (Vx.frzA H a) := by
  rcases frzA_or a with e | ⟨cs, e⟩
  · rw [e]; exact Rk.frzC a
  · rw [e]; exact Rk.frzL cs
theorem Rk.frzAL {b : Bool} : ∀ (as : List AV) {H : Heap}, Rk b H (Vx.frzAL H as)
  | [], H => Rk.refl
  | a :: as, H => (Rk.frzA a).trans (Rk.frzAL as)
theorem dp_rk {op : Op} {pc b : Bool} (hg : gentleP pc b op = true) (h : dp pc P T op ρ H A) : dp pc P T op ρ H (fun u H' => Rk b H H' ∧ A u H') := by
  cases hg1 : gentle b op with
  | true =>
    rw [dp_gen hg1] at h ⊢
    cases hs : stillOp op with
    | true =>
      obtain ⟨v, h1, h2⟩ := den_det (b := false) hs (fun h => by cases h) h
      exact h2 H Rk.refl _ ⟨Rk.refl, h1⟩
    | false => exact den_gentle hg1 hs (fun u H' hR h => ⟨hR, h⟩) h
  | false =>
    simp only [gentleP, hg1, Bool.false_or, Bool.and_eq_true] at hg
    obtain ⟨rfl, hg⟩ := hg
    split at hg
    · rename_i c
      split at hg
      · rename_i x hc
        revert h
        unfold dp
        simp only [hc]
        repeat' split
        all_goals first
          | exact id
          | exact Exists.imp fun bs => Exists.imp fun r => And.imp id (And.imp id fun h => ⟨Rk.refl, h⟩)
          | exact Exists.imp fun bs => Exists.imp fun r => And.imp id (And.imp id fun h => ⟨by split <;> first | exact Rk.refl | exact Rk.frzAL _, h⟩)
      · cases hg
    · cases hg
/-- Operations that look at no memory. -/
def freeOp : Op → Bool
  | .move _ | .assign _ | .pick .. | .build .. | .binOp .. | .unOp .. | .convert .. | .fieldAddr .. | .field .. | .index .. | .extract .. | .nilCheck .. => true
  | _ => false
theorem den_free {op : Op} (hs : freeOp op = true) (h : den P T op ρ H A) : ∃ v, A v H ∧ ∀ H', ∀ K : AV → Heap → Prop, K v H' → den P T op ρ H' K := by
  have hst : stillOp op = true := by cases op <;> first | rfl | (cases hs; done)
  cases op <;> simp only [freeOp] at hs <;> first
    | (cases hs; done)
    | skip
  all_goals
    obtain ⟨v, h1, h2⟩ := den_det (b := false) hst (fun h => by cases h) h
    refine ⟨v, h1, fun H' K hk => ?_⟩
    have h3 := h2 H Rk.refl (fun u _ => u = v) rfl
    clear h1 h2 h hst
    revert h3
    simp only [den]
  case unOp o t x =>
    cases o <;> simp only [den] <;> first | exact id | skip
    all_goals split <;> first | exact id | (intro e; subst e; exact hk)
  all_goals repeat' split
  all_goals first
    | exact id
    | (intro e; subst e; exact hk)
    | exact And.imp (fun h e => by have := h e; subst this; exact hk) (fun h e => by have := h e; subst this; exact hk)
    | exact chk_mono (fun e => by subst e; exact hk)
    | exact under_mono (fun e => by subst e; exact hk)
    | exact Exists.imp fun r => And.imp id (fun e => by subst e; exact hk)
    | exact takeV_mono (fun u e => by subst e; exact hk)
    | exact And.imp id (And.imp id (fun e => by subst e; exact hk))
def isStore : Op → Bool
  | .store .. => true
  | _ => false
theorem dp_congrS {op : Op} {pc b : Bool} (hg : (gentleP pc b op || isStore op) = true) (h : ∀ x ∈ op.operands.toList, ρ' x = ρ x) : dp pc P T op ρ' H A = dp pc P T op ρ H A := by
  rcases Bool.or_eq_true _ _ ▸ hg with hg | hg
  · exact dp_congr hg h
  · obtain ⟨t, a, x, rfl⟩ : ∃ t a x, op = .store t a x := by
      cases op <;> first | exact ⟨_, _, _, rfl⟩ | (cases hg; done)
    have e : ∀ ρ : Operand → Option AV, dp pc P T (.store t a x) ρ H A = den P T (.store t a x) ρ H A := fun ρ => by cases pc <;> rfl
    rw [e, e]
    simp only [Op.operands] at h
    simp only [den, h a (by simp), h x (by simp)]
end
end Go.Vx

namespace Go.Vx
open Go.RowKit (Below)
section
variable {P : Program} {T : Tab}

theorem ev_get {E E' : Env} (h : E.get = E'.get) : ev E = ev E' := by
  funext x
  cases x <;> simp only [ev, h]
theorem get_setD {E E' : Env} (h : E.get = E'.get) (d : Option Nat) (v : AV) : (setD d v E).get = (setD d v E').get := by
  cases d with
  | none => exact h
  | some s => funext t; simp only [setD, Env.get, h]
theorem get_comm {E : Env} {x y : Option Nat} (v u : AV) (h : ∀ d, x = some d → y ≠ some d) : (setD y u (setD x v E)).get = (setD x v (setD y u E)).get := by
  cases x with
  | none => rfl
  | some d =>
    cases y with
    | none => rfl
    | some e =>
      have hne : e ≠ d := fun he => h d rfl (by rw [he])
      funext t
      simp only [setD, Env.get]
      by_cases h1 : t = e
      · subst h1; rw [if_pos rfl, if_neg hne, if_pos rfl]
      · rw [if_neg h1, if_neg h1]
theorem ev_setD {E : Env} {d : Option Nat} {v : AV} {x : Operand} (h : ∀ t, d = some t → x ≠ .tmp t) : ev (setD d v E) x = ev E x := by
  cases d with
  | none => rfl
  | some t =>
    cases x with
    | tmp s =>
      have : s ≠ t := fun e => h t rfl (by rw [e])
      simp only [ev, setD, Env.get, if_neg this]
    | _ => rfl

variable {ops : Array Oper} {K : Env → Heap → Prop} {b : Bool}

/-- Every order, without guards. -/
noncomputable def awpD (pc : Bool) (P : Program) (T : Tab) (ops : Array Oper) (n : Nat) : List Bool → Env → Heap → (Env → Heap → Prop) → Prop :=
  Nat.rec (motive := fun _ => List Bool → Env → Heap → (Env → Heap → Prop) → Prop)
    (fun l E H K => chk (isNil (rdyGo l 0 ops.toList)) (K E H))
    (fun _ ih l E H K => nextAny ops.toList (rdyGo l 0 ops.toList) (fun i o => dp pc P T o.op (ev E) H fun v H' => ih (setB l i) (setD o.dst v E) H' K) (K E H)) n
variable {pc : Bool}
theorem awpD_zero {l : List Bool} {E : Env} {H : Heap} : awpD pc P T ops 0 l E H K = chk (isNil (rdyGo l 0 ops.toList)) (K E H) := rfl
theorem awpD_succ {n : Nat} {l : List Bool} {E : Env} {H : Heap} : awpD pc P T ops (n + 1) l E H K = nextAny ops.toList (rdyGo l 0 ops.toList) (fun i o => dp pc P T o.op (ev E) H fun v H' => awpD pc P T ops n (setB l i) (setD o.dst v E) H' K) (K E H) := rfl
theorem awpAny_succ {n : Nat} {l : List Bool} {E : Env} {H : Heap} : awpAny P T ops (n + 1) l E H K = nextAny ops.toList (rdyGo l 0 ops.toList) (fun i o => awpOp P T ops o (awpAny P T ops n (setB l i)) E H K) (K E H) := rfl
theorem awpOp_none {o : Oper} (hg : o.guard = none) {next : Env → Heap → (Env → Heap → Prop) → Prop} {E : Env} {H : Heap} : awpOp P T ops o next E H K = den P T o.op (ev E) H fun v H' => next (setD o.dst v E) H' K := by
  unfold awpOp; rw [hg]

theorem allIn_of {p : Nat → Prop} : ∀ {l : List Nat}, (∀ i ∈ l, p i) → allIn p l
  | [], _ => trivial
  | x :: l, h => ⟨h x (by simp), allIn_of fun i hi => h i (by simp [hi])⟩
theorem nextAny_of {os : List Oper} {l : List Nat} {one : Nat → Oper → Prop} {Z : Prop} (hne : l ≠ []) (h : ∀ i ∈ l, ∃ o, os[i]? = some o ∧ one i o) : nextAny os l one Z := by
  unfold nextAny
  split
  · exact absurd rfl hne
  · refine allIn_of fun i hi => ?_
    obtain ⟨o, ho, h1⟩ := h i hi
    rw [nthO_eq, ho]
    exact h1
theorem nextAny_get {os : List Oper} {l : List Nat} {one : Nat → Oper → Prop} {Z : Prop} (h : nextAny os l one Z) {i : Nat} (hi : i ∈ l) : ∃ o, os[i]? = some o ∧ one i o := by
  unfold nextAny at h
  split at h
  · cases hi
  · have := allIn_mem h i hi
    rw [nthO_eq] at this
    split at this
    · rename_i o ho; exact ⟨o, ho, this⟩
    · exact this.elim

theorem awpD_congr (hK : ∀ E E' H, E.get = E'.get → K E H → K E' H) : ∀ (n : Nat) (l : List Bool) {E E' : Env} {H : Heap}, E.get = E'.get → awpD pc P T ops n l E H K → awpD pc P T ops n l E' H K
  | 0, l, E, E', H, he, h => chk_mono (hK _ _ _ he) h
  | n + 1, l, E, E', H, he, h => by
    rw [awpD_succ] at h ⊢
    unfold nextAny at h ⊢
    split at h
    · exact hK _ _ _ he h
    · refine allIn_of fun i hi => ?_
      have h1 := allIn_mem h i hi
      split at h1
      · rename_i o ho
        rw [nthO_eq] at ho
        show dp pc P T o.op (ev E') H _
        rw [← ev_get he]
        exact dp_mono (fun u H' hu => awpD_congr hK n _ (get_setD he _ _) hu) h1
      · exact h1.elim

theorem awpD_first {R : Heap → Heap → Prop} (hRr : ∀ H, R H H) (hRt : ∀ {H1 H2 H3}, R H1 H2 → R H2 H3 → R H1 H3) (hK : ∀ E E' H, E.get = E'.get → K E H → K E' H) {i : Nat} {oi : Oper} {v : AV} (hi : ops[i]? = some oi) (hs : stillOp oi.op = true) (C : Array Bool)
    (hCi : C.getD i true = false) (hcl : ∀ j ∈ Region.ready .any ops C, j = i) :
    ∀ (n : Nat) (l : Array Bool) {E : Env} {H : Heap}, l.size = C.size → (∀ j, l.getD j false = true → C.getD j false = true) →
      (∀ j oj, ops[j]? = some oj → C.getD j true = true → l.getD j true = false → (gentleP pc b oj.op || isStore oj.op) = true ∧ (∀ (ρ : Operand → Option AV) (H : Heap) (A : AV → Heap → Prop), dp pc P T oj.op ρ H A → dp pc P T oj.op ρ H fun u H' => R H H' ∧ A u H') ∧ oi.apart ops oj = true) →
      i ∈ Region.ready .any ops l → (∀ H', R H H' → ∀ K' : AV → Heap → Prop, K' v H' → den P T oi.op (ev E) H' K') →
      awpD pc P T ops n (l.setIfInBounds i true).toList (setD oi.dst v E) H K → awpD pc P T ops (n + 1) l.toList E H K := by
  intro n
  induction n with
  | zero =>
    intro l E H hsz hsub hgood hr hst h
    rw [awpD_succ, rdy_eq]
    refine nextAny_of (fun e => by rw [e] at hr; cases hr) fun j hj => ?_
    rw [awpD_zero, rdy_eq] at h
    obtain ⟨h1, h2⟩ := chk_inv h
    have h1 := isNil_eq.1 h1
    have hji : j = i := by
      by_cases hji : j = i
      · exact hji
      · have := ready_mono hj hji
        rw [h1] at this
        cases this
    subst hji
    refine ⟨oi, by rw [Array.getElem?_toList]; exact hi, ?_⟩
    rw [dp_gen (gentle_of_still (b := b) hs)]
    refine hst H (hRr H) _ ?_
    rw [awpD_zero, setB_set, ← Array.toList_setIfInBounds, rdy_eq, h1]
    exact h2
  | succ n ih =>
    intro l E H hsz hsub hgood hr hst h
    rw [awpD_succ, rdy_eq]
    refine nextAny_of (fun e => by rw [e] at hr; cases hr) fun j hj => ?_
    by_cases hji : j = i
    · subst hji
      refine ⟨oi, by rw [Array.getElem?_toList]; exact hi, ?_⟩
      rw [dp_gen (gentle_of_still (b := b) hs)]
      refine hst H (hRr H) _ ?_
      rw [setB_set, ← Array.toList_setIfInBounds]
      exact h
    · rw [awpD_succ, rdy_eq] at h
      obtain ⟨oj, hoj, h1⟩ := nextAny_get h (ready_mono hj hji)
      refine ⟨oj, hoj, ?_⟩
      rw [Array.getElem?_toList] at hoj
      obtain ⟨hjun, oj', hoj', hall⟩ := mem_ready.1 hj
      rw [hoj] at hoj'
      cases hoj'
      have hjC : C.getD j true = true := by
        cases hc : C.getD j true with
        | true => rfl
        | false => exact absurd (hcl j (mem_ready.2 ⟨hc, oj, hoj, fun e he hb => hsub _ (hall e he hb)⟩)) hji
      obtain ⟨hg, hgr, hap⟩ := hgood j oj hoj hjC hjun
      obtain ⟨a1, a2, a3⟩ := Oper.apart_spec hap
      have e1 : ∀ x ∈ oj.op.operands.toList, ev (setD oi.dst v E) x = ev E x := fun x hx => ev_setD fun t ht hxt => a1 t ht (by
        subst hxt
        exact List.mem_append_left _ (List.mem_filterMap.2 ⟨.tmp t, hx, rfl⟩))
      rw [dp_congrS hg e1] at h1
      refine dp_mono ?_ (hgr _ _ _ h1)
      rintro u H' ⟨hR, hu⟩
      have e2 : ∀ x ∈ oi.op.operands.toList, ev (setD oj.dst u E) x = ev E x := fun x hx => ev_setD fun t ht hxt => a3 t ht (by
        subst hxt
        exact List.mem_append_left _ (List.mem_filterMap.2 ⟨.tmp t, hx, rfl⟩))
      rw [setB_set, ← Array.toList_setIfInBounds]
      refine ih (l.setIfInBounds j true) (E := setD oj.dst u E) (H := H') (by simpa using hsz) (fun k hk => ?_) (fun k ok hok hkC hkl => ?_) (ready_mono hr (Ne.symm hji)) (fun H'' hR' K' hk => ?_) ?_
      · by_cases hjk : j = k
        · subst hjk
          have : j < l.size := by
            rcases Nat.lt_or_ge j l.size with h' | h'
            · exact h'
            · simp [h'] at hk
          have hc : j < C.size := by omega
          simp [hc] at hjC ⊢
          exact hjC
        · rw [getD_set_ne false hjk] at hk
          exact hsub k hk
      · refine hgood k ok hok hkC ?_
        by_cases hjk : j = k
        · subst hjk; exact hjun
        · rw [getD_set_ne true hjk] at hkl; exact hkl
      · rw [den_congr (gentle_of_still (b := b) hs) e2]
        exact hst H'' (hRt hR hR') K' hk
      · rw [setB_set, ← Array.toList_setIfInBounds, Array.setIfInBounds_comm _ _ (Ne.symm hji)] at hu
        exact awpD_congr hK n _ (get_comm v u a2) hu

/-! ### A plan: which operation is taken next -/
def boxOk (b : Bool) (ρ : Operand → Option AV) (op : Op) : Bool :=
  match b with
  | false => true
  | true => match stillOp op with
    | true => boxy ρ op
    | false => true
/-! What has come is told in full before one goes on, so that nothing is reckoned twice. -/
noncomputable def forceN (n : Nat) (k : Nat → Prop) : Prop := Nat.rec (motive := fun _ => Prop) (k 0) (fun m _ => k (m + 1)) n
theorem forceN_eq {n : Nat} {k : Nat → Prop} : forceN n k = k n := by cases n <;> rfl
noncomputable def forceV (v : AV) (k : AV → Prop) : Prop :=
  match v with
  | .own n => forceN n fun n => k (.own n)
  | .ptr n o => forceN n fun n => k (.ptr n o)
  | .map n => forceN n fun n => k (.map n)
  | v => k v
theorem forceV_eq {v : AV} {k : AV → Prop} : forceV v k = k v := by
  cases v <;> first | rfl | (simp only [forceV]; exact forceN_eq)
noncomputable def forceH (H : Heap) : (Heap → Prop) → Prop :=
  List.rec (motive := fun _ => (Heap → Prop) → Prop) (fun k => k []) (fun x _ ih k => ih fun xs => k (x :: xs)) H
theorem forceH_eq : ∀ {H : Heap} {k : Heap → Prop}, forceH H k = k H
  | [], k => rfl
  | x :: H, k => forceH_eq (H := H) (k := fun xs => k (x :: xs))
/-- Operations one behind the other, without guards. -/
noncomputable def awpL (pc b : Bool) (P : Program) (T : Tab) (l : List Oper) : Env → Heap → (Env → Heap → Prop) → Prop :=
  List.rec (motive := fun _ => Env → Heap → (Env → Heap → Prop) → Prop) (fun E H K => K E H)
    (fun o _ ih E H K => chk (boxOk b (ev E) o.op) (dp pc P T o.op (ev E) H fun v H' => forceV v fun v => forceH H' fun H' => ih (setD o.dst v E) H' K)) l
def setBs (l : List Bool) : List Nat → List Bool
  | [] => l
  | i :: is => setBs (setB l i) is
def dropN (i : Nat) : List Nat → List Nat
  | [] => []
  | j :: js => match Nat.beq j i with
    | true => dropN i js
    | false => j :: dropN i js
/-- What may come without i. -/
def reach (os : List Oper) (i : Nat) : Nat → List Bool → List Bool
  | 0, l => l
  | n + 1, l => match dropN i (rdyGo l 0 os) with
    | [] => l
    | js => reach os i n (setBs l js)
def goodGo (pc b fr : Bool) (ops : Array Oper) (oi : Oper) (l C : List Bool) : Nat → List Oper → Bool
  | _, [] => true
  | j, o :: os => (match nthB true C j && !nthB true l j with
    | true => (gentleP pc b o.op || (fr && isStore o.op)) && oi.apart ops o
    | false => true) && goodGo pc b fr ops oi l C (j + 1) os
def isOne (k : Nat) : List Nat → Bool
  | [j] => Nat.beq j k
  | _ => false
def subB : List Bool → List Bool → Bool
  | [], [] => true
  | a :: l, c :: C => (!a || c) && subB l C
  | _, _ => false
def hasN (k : Nat) : List Nat → Bool
  | [] => false
  | j :: js => Nat.beq j k || hasN k js
def allN (k : Nat) : List Nat → Bool
  | [] => true
  | j :: js => Nat.beq j k && allN k js
def firstOk (pc b : Bool) (ops : Array Oper) (os : List Oper) (l : List Bool) (k : Nat) : Bool :=
  match nthO os k with
  | some o => stillOp o.op && (let C := reach os k os.length l
    !nthB true C k && allN k (rdyGo C 0 os) && subB l C && goodGo pc b (freeOp o.op) ops o l C 0 os)
  | none => false
def planGo (pc b : Bool) (ops : Array Oper) (os : List Oper) : List Bool → List Nat → Bool
  | _, [] => true
  | l, k :: ks => hasN k (rdyGo l 0 os) && (isOne k (rdyGo l 0 os) || firstOk pc b ops os l k) && planGo pc b ops os (setB l k) ks
def noGuards : List Oper → Bool
  | [] => true
  | o :: os => o.guard.isNone && noGuards os
def planOk (pc b : Bool) (ops : Array Oper) (plan : List Nat) : Bool := noGuards ops.toList && planGo pc b ops ops.toList (falses ops.size) plan
def pickO (os : List Oper) : List Nat → List Oper
  | [] => []
  | k :: ks => match nthO os k with
    | some o => o :: pickO os ks
    | none => []

theorem noGuards_get : ∀ {os : List Oper}, noGuards os = true → ∀ o ∈ os, o.guard = none
  | [], _, o, h => by cases h
  | x :: os, h, o, ho => by
    simp only [noGuards, Bool.and_eq_true] at h
    rcases List.mem_cons.1 ho with rfl | ho
    · simpa using h.1
    · exact noGuards_get h.2 o ho
theorem hasN_mem {k : Nat} : ∀ {l : List Nat}, hasN k l = true → k ∈ l
  | [], h => by cases h
  | j :: js, h => by
    simp only [hasN, Bool.or_eq_true] at h
    rcases h with h | h
    · rw [Nat.eq_of_beq_eq_true h]; simp
    · exact List.mem_cons_of_mem _ (hasN_mem h)
theorem allN_mem {k : Nat} : ∀ {l : List Nat}, allN k l = true → ∀ j ∈ l, j = k
  | [], _, j, hj => by cases hj
  | i :: is, h, j, hj => by
    simp only [allN, Bool.and_eq_true] at h
    rcases List.mem_cons.1 hj with rfl | hj
    · exact Nat.eq_of_beq_eq_true h.1
    · exact allN_mem h.2 j hj
theorem isOne_eq {k : Nat} {l : List Nat} (h : isOne k l = true) : l = [k] := by
  unfold isOne at h
  split at h
  · rw [Nat.eq_of_beq_eq_true h]
  · cases h
theorem subB_spec : ∀ {l C : List Bool}, subB l C = true → l.length = C.length ∧ ∀ j, l.getD j false = true → C.getD j false = true
  | [], [], _ => ⟨rfl, fun j h => by simp at h⟩
  | a :: l, c :: C, h => by
    simp only [subB, Bool.and_eq_true, Bool.or_eq_true, Bool.not_eq_true'] at h
    obtain ⟨h1, h2⟩ := subB_spec h.2
    refine ⟨by simp [h1], fun j hj => ?_⟩
    cases j with
    | zero => simp at hj ⊢; rcases h.1 with h | h <;> simp_all
    | succ j => simpa using h2 j (by simpa using hj)
  | [], _ :: _, h => by cases h
  | _ :: _, [], h => by cases h
theorem goodGo_spec {ops : Array Oper} {fr : Bool} {oi : Oper} {l C : List Bool} : ∀ (os : List Oper) (n : Nat), goodGo pc b fr ops oi l C n os = true → ∀ (j : Nat) (o : Oper), os[j]? = some o → C.getD (n + j) true = true → l.getD (n + j) true = false → (gentleP pc b o.op || (fr && isStore o.op)) = true ∧ oi.apart ops o = true
  | [], n, _, j, o, h, _, _ => by simp at h
  | x :: os, n, h, j, o, ho, hc, hl => by
    simp only [goodGo, Bool.and_eq_true] at h
    cases j with
    | zero =>
      have e : x = o := by simpa using ho
      subst e
      have h1 := h.1
      rw [nthB_getD, nthB_getD] at h1
      rw [Nat.add_zero] at hc hl
      rw [hc, hl] at h1
      simpa using h1
    | succ j => exact goodGo_spec os (n + 1) h.2 j o (by simpa using ho) (by rw [show n + 1 + j = n + (j + 1) by omega]; exact hc) (by rw [show n + 1 + j = n + (j + 1) by omega]; exact hl)

theorem plan_sound (hK : ∀ E E' H, E.get = E'.get → K E H → K E' H) : ∀ (ks : List Nat) (l : List Bool) (n : Nat) {E : Env} {H : Heap}, planGo pc b ops ops.toList l ks = true →
    awpL pc b P T (pickO ops.toList ks) E H (fun E' H' => awpD pc P T ops n (setBs l ks) E' H' K) → awpD pc P T ops (ks.length + n) l E H K
  | [], l, n, E, H, _, h => by rw [List.length_nil, Nat.zero_add]; exact h
  | k :: ks, l, n, E, H, hp, h => by
    simp only [planGo, Bool.and_eq_true, Bool.or_eq_true] at hp
    obtain ⟨⟨hr, hp1⟩, hp2⟩ := hp
    have hmem := hasN_mem hr
    have hko : ∃ o, ops.toList[k]? = some o := by
      have e : l = l.toArray.toList := by simp
      rw [e, rdy_eq] at hmem
      obtain ⟨_, o, ho, _⟩ := mem_ready.1 hmem
      exact ⟨o, by rw [Array.getElem?_toList]; exact ho⟩
    obtain ⟨o, ho⟩ := hko
    simp only [pickO, nthO_eq, ho] at h
    have h : chk (boxOk b (ev E) o.op) (dp pc P T o.op (ev E) H fun v H' => forceV v fun v => forceH H' fun H' => awpL pc b P T (pickO ops.toList ks) (setD o.dst v E) H' fun E' H' => awpD pc P T ops n (setBs (setB l k) ks) E' H' K) := h
    simp only [forceV_eq, forceH_eq] at h
    obtain ⟨hbx, h⟩ := chk_inv h
    rw [List.length_cons, show ks.length + 1 + n = (ks.length + n) + 1 by omega]
    rcases hp1 with h1 | h1
    · rw [awpD_succ, isOne_eq h1]
      refine ⟨?_, trivial⟩
      dsimp only
      rw [nthO_eq, ho]
      exact dp_mono (fun u H' hu => plan_sound hK ks _ n hp2 hu) h
    · unfold firstOk at h1
      rw [nthO_eq, ho] at h1
      simp only [Bool.and_eq_true, Bool.not_eq_true'] at h1
      obtain ⟨hs, ⟨⟨h2, h3⟩, h4⟩, h5⟩ := h1
      generalize reach ops.toList k ops.toList.length l = C at h2 h3 h4 h5
      rw [dp_gen (gentle_of_still (b := b) hs)] at h
      obtain ⟨s1, s2⟩ := subB_spec h4
      have e : l = l.toArray.toList := by simp
      have ec : C = C.toArray.toList := by simp
      rw [e]
      rw [ec, rdy_eq] at h3
      have c1 : C.toArray.getD k true = false := by
        rw [nthB_getD] at h2
        rw [Array.getD_eq_getD_getElem?, List.getElem?_toArray]
        rwa [List.getD_eq_getElem?_getD] at h2
      have c2 : ∀ j, l.toArray.getD j false = true → C.toArray.getD j false = true := fun j hj => by
        rw [Array.getD_eq_getD_getElem?, List.getElem?_toArray, ← List.getD_eq_getElem?_getD] at hj ⊢
        exact s2 j hj
      have c3 : ∀ (j : Nat) (oj : Oper), ops[j]? = some oj → C.toArray.getD j true = true → l.toArray.getD j true = false → (gentleP pc b oj.op || (freeOp o.op && isStore oj.op)) = true ∧ o.apart ops oj = true := fun j oj hj hc hl => by
        rw [Array.getD_eq_getD_getElem?, List.getElem?_toArray, ← List.getD_eq_getElem?_getD] at hc hl
        exact goodGo_spec ops.toList 0 h5 j oj (by rw [Array.getElem?_toList]; exact hj) (by rw [Nat.zero_add]; exact hc) (by rw [Nat.zero_add]; exact hl)
      have c4 : k ∈ Region.ready .any ops l.toArray := by rw [← rdy_eq]; simpa using hmem
      cases hfr : freeOp o.op with
      | false =>
        obtain ⟨v, g1, g2⟩ := den_det (b := b) hs (fun hb => by subst hb; simpa only [boxOk, hs] using hbx) h
        have g1 := plan_sound hK ks _ n hp2 g1
        rw [setB_set] at g1
        refine awpD_first (b := b) (R := Rk b) (fun _ => Rk.refl) (fun h1 h2 => h1.trans h2) hK (i := k) (by rw [← Array.getElem?_toList]; exact ho) hs C.toArray c1 (fun j hj => allN_mem h3 j hj) _ l.toArray (by simpa using s1) c2 (fun j oj hj hc hl => ?_) c4 g2 ?_
        · obtain ⟨d1, d2⟩ := c3 j oj hj hc hl
          rw [hfr, Bool.false_and, Bool.or_false] at d1
          exact ⟨by rw [d1]; rfl, fun ρ H A h => dp_rk d1 h, d2⟩
        · rw [Array.toList_setIfInBounds]
          simpa using g1
      | true =>
        obtain ⟨v, g1, g2⟩ := den_free hfr h
        have g1 := plan_sound hK ks _ n hp2 g1
        rw [setB_set] at g1
        refine awpD_first (b := b) (R := fun _ _ => True) (fun _ => trivial) (fun _ _ => trivial) hK (i := k) (by rw [← Array.getElem?_toList]; exact ho) hs C.toArray c1 (fun j hj => allN_mem h3 j hj) _ l.toArray (by simpa using s1) c2 (fun j oj hj hc hl => ?_) c4 (fun H' _ => g2 H') ?_
        · obtain ⟨d1, d2⟩ := c3 j oj hj hc hl
          rw [hfr, Bool.true_and] at d1
          exact ⟨d1, fun ρ H A h => dp_mono (fun u H' h => ⟨trivial, h⟩) h, d2⟩
        · rw [Array.toList_setIfInBounds]
          simpa using g1

theorem awpD_any (hgd : ∀ o ∈ ops.toList, o.guard = none) : ∀ (n : Nat) (l : List Bool) {E : Env} {H : Heap}, awpD pc P T ops n l E H K → awpAny P T ops n l E H K
  | 0, l, E, H, h => h
  | n + 1, l, E, H, h => by
    rw [awpD_succ] at h
    rw [awpAny_succ]
    unfold nextAny at h ⊢
    split at h
    · exact h
    · refine allIn_of fun i hi => ?_
      have h1 := allIn_mem h i hi
      split at h1
      · rename_i o ho
        rw [nthO_eq] at ho
        show awpOp P T ops o (awpAny P T ops n (setB l i)) E H K
        rw [awpOp_none (hgd o (List.mem_of_getElem? ho))]
        exact den_mono (fun u H' hu => awpD_any hgd n _ hu) (dp_den h1)
      · exact h1.elim
end

/-- A region that draws its order: by a plan that takes first what may be; then (if anything is left) in every order. -/
theorem draw_plan {P : Program} {T : Tab} (hT : TabOk P T) {N : Nat} {id : Nat} {ops : Array Oper} {E : Env} {H : Heap} {Q : Exit → Env → Heap → Prop} (hm : P.follows .mixedOrders = true) (pc b : Bool) (plan : List Nat) (n : Nat) (Em : Env) (Hm : Heap)
    (hc : (ops.toList.all (dstOk N) && planOk pc b ops plan && Nat.beq ops.size (plan.length + n)) = true)
    (h : awpL pc b P T (pickO ops.toList plan) E H fun E' H' => awpD pc P T ops n (setBs (falses ops.size) plan) E' H' fun E' H' => Sub E' H' Em Hm) (hq : Q .normal Em Hm) : DrawSem P N id ops E H Q := by
  constructor
  intro w0 F S0 s S a w C hd hN
  simp only [Bool.and_eq_true, planOk] at hc
  obtain ⟨⟨hc1, hc2, hc3⟩, hc4⟩ := hc
  have hsz := Nat.eq_of_beq_eq_true hc4
  have hK : ∀ (E E' : Env) (H : Heap), E.get = E'.get → Sub E H Em Hm → Sub E' H Em Hm := by
    rintro E E' H he ⟨r, h1, h2, h3⟩
    refine ⟨r, h1, ?_, h3⟩
    have key : ∀ (X : Env), matchE r E X → matchE r E' X := by
      intro X
      induction X with
      | nil => exact fun _ => trivial
      | cons x X ih => exact fun h => ⟨by rw [← he]; exact h.1, ih h.2⟩
    exact key _ h2
  have h := awpD_any (noGuards_get hc2) _ _ (plan_sound (b := b) hK plan (falses ops.size) n hc3 h)
  rw [← hsz] at h
  refine wp_region_any hm (awpAny_sound (N := N) (w0 := w0) (F := F) (S0 := S0) (E := E) (H := H) (K := fun E' H' => Sub E' H' Em Hm) hT hc1 ?_ _ _ (C.drew (w.drawn + 1)) hd hN (by rw [falses_eq] at h; rwa [Array.toList_replicate]))
  intro E' H' a' w' s' S' C' hd' hN' hsub
  obtain ⟨s'', C''⟩ := C'.anew hsub
  exact ⟨hd', hN', Em, Hm, s'', S', C'', hq⟩

/-- The same, where the plan takes all. -/
theorem draw_all {P : Program} {T : Tab} (hT : TabOk P T) {N : Nat} {id : Nat} {ops : Array Oper} {E : Env} {H : Heap} {Q : Exit → Env → Heap → Prop} (hm : P.follows .mixedOrders = true) (pc b : Bool) (plan : List Nat)
    (hc : (ops.toList.all (dstOk N) && planOk pc b ops plan && Nat.beq ops.size plan.length && isNil (rdyGo (setBs (falses ops.size) plan) 0 ops.toList)) = true)
    (h : awpL pc b P T (pickO ops.toList plan) E H (Q .normal)) : DrawSem P N id ops E H Q := by
  constructor
  intro w0 F S0 s S a w C hd hN
  simp only [Bool.and_eq_true, planOk] at hc
  obtain ⟨⟨⟨hc1, hc2, hc3⟩, hc4⟩, hc5⟩ := hc
  have hsz := Nat.eq_of_beq_eq_true hc4
  let K : Env → Heap → Prop := fun E' H' => ∃ E0, E0.get = E'.get ∧ Q .normal E0 H'
  have hK : ∀ (E E' : Env) (H : Heap), E.get = E'.get → K E H → K E' H := fun E E' H he ⟨E0, h1, h2⟩ => ⟨E0, h1.trans he, h2⟩
  have mono : ∀ (l : List Oper) {E : Env} {H : Heap} {A B : Env → Heap → Prop}, (∀ E H, A E H → B E H) → awpL pc b P T l E H A → awpL pc b P T l E H B := by
    intro l
    induction l with
    | nil => intro E H A B hAB h; exact hAB _ _ h
    | cons o l ih => intro E H A B hAB h; exact chk_mono (dp_mono fun u H' hu => by rw [forceV_eq, forceH_eq] at hu ⊢; exact ih hAB hu) h
  have h := awpD_any (noGuards_get hc2) _ _ (plan_sound (b := b) (n := 0) hK plan (falses ops.size) hc3 (mono _ (fun E' H' hq => chk_mk hc5 ⟨E', rfl, hq⟩) h))
  rw [Nat.add_zero, ← hsz] at h
  refine wp_region_any hm (awpAny_sound (N := N) (w0 := w0) (F := F) (S0 := S0) (E := E) (H := H) (K := K) hT hc1 ?_ _ _ (C.drew (w.drawn + 1)) hd hN (by rw [falses_eq] at h; rwa [Array.toList_replicate]))
  rintro E' H' a' w' s' S' C' hd' hN' ⟨E0, he, hq⟩
  exact ⟨hd', hN', E0, H', s', S', ⟨fun t a ha => C'.slots t a (by rw [← he]; exact ha), C'.objs, C'.apart, C'.mine, C'.lt, C'.sub, C'.new, C'.keep, C'.imm, C'.grow, C'.os, C'.tape, C'.output⟩, hq⟩
def upto : Nat → List Nat
  | n => List.range n
theorem pickO_self {os : List Oper} : ∀ (xs pre : List Oper), pre ++ xs = os → pickO os (List.range' pre.length xs.length) = xs
  | [], pre, h => rfl
  | x :: xs, pre, h => by
    rw [List.length_cons, List.range'_succ, pickO, nthO_eq, ← h, List.getElem?_append_right (Nat.le_refl _), Nat.sub_self]
    simp only [List.getElem?_cons_zero]
    have := pickO_self (os := os) xs (pre ++ [x]) (by simpa using h)
    rw [List.length_append, List.length_singleton] at this
    rw [h, this]
/-- The same, in the order in which they stand. -/
theorem draw_lex {P : Program} {T : Tab} (hT : TabOk P T) {N : Nat} {id : Nat} {ops : Array Oper} {E : Env} {H : Heap} {Q : Exit → Env → Heap → Prop} (hm : P.follows .mixedOrders = true) (pc b : Bool)
    (hc : (ops.toList.all (dstOk N) && planOk pc b ops (List.range' 0 ops.toList.length) && isNil (rdyGo (setBs (falses ops.size) (List.range' 0 ops.toList.length)) 0 ops.toList)) = true)
    (h : awpL pc b P T ops.toList E H (Q .normal)) : DrawSem P N id ops E H Q := by
  refine draw_all hT hm pc b (List.range' 0 ops.toList.length) ?_ ?_
  · simp only [Bool.and_eq_true] at hc ⊢
    refine ⟨⟨hc.1, ?_⟩, hc.2⟩
    rw [List.length_range', Array.length_toList]
    exact Nat.beq_refl _
  · have := pickO_self (os := ops.toList) ops.toList [] rfl
    rw [List.length_nil] at this
    rw [this]
    exact h
end Go.Vx

namespace Go.Vx
open Go.RowKit (Below)

/-! ### A plan that is a tree: where several may come next, and none first, all of them -/
inductive PT
  | fin
  | one (k : Nat) (t : PT)
  | alt (c : PT)
  | br (k : Nat) (t c : PT)
  | no
def altsP : PT → List Nat
  | .br k _ c => k :: altsP c
  | _ => []
def allHas (ks : List Nat) : List Nat → Bool
  | [] => true
  | j :: js => hasN j ks && allHas ks js
def treeOk (pc b : Bool) (ops : Array Oper) (os : List Oper) : PT → Bool → List Bool → Nat → Bool
  | .fin, chain, l, n => !chain && isNil (rdyGo l 0 os)
  | .one k t, chain, l, n => match n with
    | 0 => false
    | n + 1 => !chain && hasN k (rdyGo l 0 os) && (isOne k (rdyGo l 0 os) || firstOk pc b ops os l k) && treeOk pc b ops os t false (setB l k) n
  | .alt c, chain, l, n => !chain && !isNil (rdyGo l 0 os) && allHas (altsP c) (rdyGo l 0 os) && treeOk pc b ops os c true l n
  | .br k t c, chain, l, n => match n with
    | 0 => false
    | n + 1 => chain && treeOk pc b ops os t false (setB l k) n && treeOk pc b ops os c true l (n + 1)
  | .no, chain, l, n => chain

def stepT (pc b : Bool) (P : Program) (T : Tab) (os : List Oper) (k : Nat) (ih : Env → Heap → (Env → Heap → Prop) → Prop) (E : Env) (H : Heap) (K : Env → Heap → Prop) : Prop :=
  match nthO os k with
  | some o => chk (boxOk b (ev E) o.op) (dp pc P T o.op (ev E) H fun v H' => forceV v fun v => forceH H' fun H' => ih (setD o.dst v E) H' K)
  | none => False
noncomputable def awpT (pc b : Bool) (P : Program) (T : Tab) (os : List Oper) (t : PT) : Env → Heap → (Env → Heap → Prop) → Prop :=
  PT.rec (motive := fun _ => Env → Heap → (Env → Heap → Prop) → Prop)
    (fin := fun E H K => K E H)
    (one := fun k _ ih E H K => stepT pc b P T os k ih E H K)
    (alt := fun _ ih E H K => ih E H K)
    (br := fun k _ _ iht ihc E H K => stepT pc b P T os k iht E H K ∧ ihc E H K)
    (no := fun _ _ _ => True) t

section
variable {P : Program} {T : Tab} {ops : Array Oper} {K : Env → Heap → Prop} {pc b : Bool}
theorem allHas_mem {ks : List Nat} : ∀ {js : List Nat}, allHas ks js = true → ∀ j ∈ js, j ∈ ks
  | [], _, j, hj => by cases hj
  | i :: is, h, j, hj => by
    simp only [allHas, Bool.and_eq_true] at h
    rcases List.mem_cons.1 hj with rfl | hj
    · exact hasN_mem h.1
    · exact allHas_mem h.2 j hj

/-- One step of a plan. -/
theorem one_sound (hK : ∀ E E' H, E.get = E'.get → K E H → K E' H) (k : Nat) (l : List Bool) (n : Nat) {E : Env} {H : Heap} {A : AV → Heap → Prop} {o : Oper} (ho : ops.toList[k]? = some o)
    (hr : hasN k (rdyGo l 0 ops.toList) = true) (hp : (isOne k (rdyGo l 0 ops.toList) || firstOk pc b ops ops.toList l k) = true) (hbx : boxOk b (ev E) o.op = true) (h : dp pc P T o.op (ev E) H A)
    (hA : ∀ v H', A v H' → awpD pc P T ops n (setB l k) (setD o.dst v E) H' K) : awpD pc P T ops (n + 1) l E H K := by
  have hp2 : planGo pc b ops ops.toList l [k] = true := by
    simp only [planGo, Bool.and_true]
    rw [hr, hp]; rfl
  have := plan_sound (pc := pc) (b := b) (P := P) (T := T) (K := K) hK [k] l n (E := E) (H := H) hp2 (by
    simp only [pickO, nthO_eq, ho]
    exact chk_mk hbx (dp_mono (fun v H' hv => by rw [forceV_eq, forceH_eq]; exact hA v H' hv) h))
  rw [List.length_singleton, Nat.add_comm] at this
  exact this

theorem tree_sound (hK : ∀ E E' H, E.get = E'.get → K E H → K E' H) : ∀ (t : PT) (l : List Bool) (n : Nat) {E : Env} {H : Heap},
    (treeOk pc b ops ops.toList t false l n = true → awpT pc b P T ops.toList t E H K → awpD pc P T ops n l E H K) ∧
    (treeOk pc b ops ops.toList t true l n = true → awpT pc b P T ops.toList t E H K → ∀ k ∈ altsP t, ∃ o m, ops.toList[k]? = some o ∧ n = m + 1 ∧ dp pc P T o.op (ev E) H fun v H' => awpD pc P T ops m (setB l k) (setD o.dst v E) H' K)
  | .fin, l, n, E, H => ⟨fun h k => by
      simp only [treeOk, Bool.not_false, Bool.true_and] at h
      have hK' : K E H := k
      cases n with
      | zero => exact chk_mk h hK'
      | succ n =>
        rw [awpD_succ]
        have : rdyGo l 0 ops.toList = [] := isNil_eq.1 h
        rw [this]
        exact hK', fun h k j hj => by cases hj⟩
  | .one k t, l, n, E, H => ⟨fun h hk => by
      unfold treeOk at h
      split at h
      · cases h
      rename_i n
      simp only [Bool.not_false, Bool.true_and, Bool.and_eq_true] at h
      obtain ⟨⟨h1, h2⟩, h3⟩ := h
      have hk : stepT pc b P T ops.toList k (awpT pc b P T ops.toList t) E H K := hk
      unfold stepT at hk
      split at hk
      case h_2 => exact hk.elim
      rename_i o ho
      rw [nthO_eq] at ho
      obtain ⟨hbx, hk⟩ := chk_inv hk
      exact one_sound hK k l n ho h1 h2 hbx hk fun v H' hv => (tree_sound hK t (setB l k) n).1 h3 (by rw [forceV_eq, forceH_eq] at hv; exact hv), fun h k j hj => by cases hj⟩
  | .alt c, l, n, E, H => ⟨fun h hk => by
      simp only [treeOk, Bool.not_false, Bool.true_and, Bool.and_eq_true, Bool.not_eq_true'] at h
      obtain ⟨⟨h1, h2⟩, h3⟩ := h
      have hc := (tree_sound hK c l n).2 h3 hk
      have hne : rdyGo l 0 ops.toList ≠ [] := fun e => by rw [isNil_eq.2 e] at h1; cases h1
      cases n with
      | zero =>
        obtain ⟨j, js, hj⟩ := List.exists_cons_of_ne_nil hne
        obtain ⟨o, m, _, hm, _⟩ := hc j (allHas_mem h2 j (by rw [hj]; simp))
        omega
      | succ n =>
        rw [awpD_succ]
        refine nextAny_of hne fun i hi => ?_
        obtain ⟨o, m, ho, hm, hd⟩ := hc i (allHas_mem h2 i hi)
        obtain rfl : n = m := by omega
        exact ⟨o, ho, hd⟩, fun h k j hj => by cases hj⟩
  | .br k t c, l, n, E, H => ⟨fun h hk => by
      unfold treeOk at h
      split at h <;> simp at h, fun h hk j hj => by
      unfold treeOk at h
      split at h
      · cases h
      rename_i n
      simp only [Bool.true_and, Bool.and_eq_true] at h
      obtain ⟨h1, h2⟩ := h
      have hk : stepT pc b P T ops.toList k (awpT pc b P T ops.toList t) E H K ∧ awpT pc b P T ops.toList c E H K := hk
      rcases List.mem_cons.1 hj with rfl | hj
      · have hk1 := hk.1
        unfold stepT at hk1
        split at hk1
        case h_2 => exact hk1.elim
        rename_i o ho
        rw [nthO_eq] at ho
        obtain ⟨hbx, hk1⟩ := chk_inv hk1
        exact ⟨o, n, ho, rfl, dp_mono (fun v H' hv => (tree_sound hK t (setB l j) n).1 h1 (by rw [forceV_eq, forceH_eq] at hv; exact hv)) hk1⟩
      · exact (tree_sound hK c l (n + 1)).2 h2 hk.2 j hj⟩
  | .no, l, n, E, H => ⟨fun h => absurd h (by simp [treeOk]), fun h hk j hj => (by cases hj)⟩
end

/-- A region that draws its order, by a tree. -/
theorem draw_tree {P : Program} {T : Tab} (hT : TabOk P T) {N : Nat} {id : Nat} {ops : Array Oper} {E : Env} {H : Heap} {Q : Exit → Env → Heap → Prop} (hm : P.follows .mixedOrders = true) (pc b : Bool) (t : PT) (Em : Env) (Hm : Heap)
    (hc : (ops.toList.all (dstOk N) && noGuards ops.toList && treeOk pc b ops ops.toList t false (falses ops.size) ops.size) = true)
    (h : awpT pc b P T ops.toList t E H fun E' H' => Sub E' H' Em Hm) (hq : Q .normal Em Hm) : DrawSem P N id ops E H Q := by
  constructor
  intro w0 F S0 s S a w C hd hN
  simp only [Bool.and_eq_true] at hc
  obtain ⟨⟨hc1, hc2⟩, hc3⟩ := hc
  have hK : ∀ (E E' : Env) (H : Heap), E.get = E'.get → Sub E H Em Hm → Sub E' H Em Hm := by
    rintro E E' H he ⟨r, h1, h2, h3⟩
    refine ⟨r, h1, ?_, h3⟩
    have key : ∀ (X : Env), matchE r E X → matchE r E' X := by
      intro X
      induction X with
      | nil => exact fun _ => trivial
      | cons x X ih => exact fun h => ⟨by rw [← he]; exact h.1, ih h.2⟩
    exact key _ h2
  have h := awpD_any (noGuards_get hc2) _ _ ((tree_sound (b := b) hK t (falses ops.size) ops.size).1 hc3 h)
  refine wp_region_any hm (awpAny_sound (N := N) (w0 := w0) (F := F) (S0 := S0) (E := E) (H := H) (K := fun E' H' => Sub E' H' Em Hm) hT hc1 ?_ _ _ (C.drew (w.drawn + 1)) hd hN (by rw [falses_eq] at h; rwa [Array.toList_replicate]))
  intro E' H' a' w' s' S' C' hd' hN' hsub
  obtain ⟨s'', C''⟩ := C'.anew hsub
  exact ⟨hd', hN', Em, Hm, s'', S', C'', hq⟩
end Go.Vx

