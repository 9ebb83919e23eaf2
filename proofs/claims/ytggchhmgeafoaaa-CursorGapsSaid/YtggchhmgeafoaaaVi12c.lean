import Derived.Test.YtggchhmgeafoaaaVi12b
set_option linter.unusedVariables false
set_option linter.unusedSimpArgs false
set_option linter.unnecessarySimpa false
namespace Go.Vi
open Go Go.RowKit
def freeze1 (σ : List Ob) (l : Nat) : List Ob := match σ[l]? with
 | some o => σ.set l { o with fz := true }
 | none => σ
def freeze : List Nat → List Ob → List Ob
 | [], σ => σ
 | l :: z, σ => freeze z (freeze1 σ l)
theorem freeze1_ok {C : Ctx} (hi : Inv C) (l : Nat) : Ext C ⟨C.F, freeze1 C.σ l, C.bs, C.w⟩ ∧ Inv ⟨C.F, freeze1 C.σ l, C.bs, C.w⟩ := by
 unfold freeze1
 split
 case h_2 => exact ⟨.refl C, hi⟩
 rename_i o ho
 have hl := (List.getElem?_eq_some_iff.1 ho).1
 have parts : ∀ m (w : Ob), (C.σ.set l { o with fz := true })[m]? = some w → (m ≠ l ∧ C.σ[m]? = some w) ∨ (m = l ∧ w = { o with fz := true }) := by
  intro m w hw
  by_cases e : l = m
  ·subst e
   rw [List.getElem?_set_self hl] at hw
   cases hw
   exact .inr ⟨rfl, rfl⟩
  ·rw [List.getElem?_set_ne e] at hw
   exact .inl ⟨fun h => e h.symm, hw⟩
 have hown : ∀ b, Ctx.owned ⟨C.F, C.σ.set l { o with fz := true }, C.bs, C.w⟩ b → ∃ m o', m ≠ l ∧ C.σ[m]? = some o' ∧ o'.real = true ∧ o'.fz = false ∧ C.bs[m]? = some b := by
  rintro b ⟨m, w, h1, h2, h3, h4⟩
  rcases parts m w h1 with ⟨k1, k2⟩ | ⟨rfl, rfl⟩
  ·exact ⟨m, w, k1, k2, h2, h3, h4⟩
  ·cases h3
 have hown' : ∀ b, Ctx.owned ⟨C.F, C.σ.set l { o with fz := true }, C.bs, C.w⟩ b → C.owned b := fun b h => by
  obtain ⟨m, o', _, h1, h2, h3, h4⟩ := hown b h
  exact ⟨m, o', h1, h2, h3, h4⟩
 have hx : Ext C ⟨C.F, C.σ.set l { o with fz := true }, C.bs, C.w⟩ := by
  refine ⟨rfl, rfl, rfl, rfl, Nat.le_refl _, fun b _ hno => ⟨rfl, fun h => hno (hown' b h)⟩, fun m w b hw hb => ?_⟩
  by_cases e : l = m
  ·subst e
   rw [ho] at hw; cases hw
   exact ⟨{ o with fz := true }, b, List.getElem?_set_self hl, hb, rfl, Nat.le_refl _, fun _ => ⟨rfl, rfl, rfl, fun _ arr e h => ⟨arr, h, rfl⟩⟩⟩
  ·exact ⟨w, b, by show (C.σ.set l _)[m]? = _; rw [List.getElem?_set_ne e]; exact hw, hb, rfl, Nat.le_refl _, fun _ => ⟨rfl, rfl, rfl, fun _ arr e h => ⟨arr, h, rfl⟩⟩⟩
 refine ⟨hx, hi.F, by simp [hi.len], fun m w b hw hb => ?_, fun m m' w w' b hw hw' hr hr' hf hf' hb hb' => ?_⟩
 ·have lift : ∀ (o' : Ob), ObOK C o' b → (o'.real = true → w.fz = true → ¬ Ctx.owned ⟨C.F, C.σ.set l { o with fz := true }, C.bs, C.w⟩ b) → w = { o' with fz := w.fz } → ObOK ⟨C.F, C.σ.set l { o with fz := true }, C.bs, C.w⟩ w b := by
   intro o' k hfz he
   rw [he]
   refine ⟨k.rows, k.sz, k.pos, k.one, fun hr => ?_, k.pure, fun hr hf => hfz hr hf⟩
   obtain ⟨hF, arr, e, q, a1, a2, a3, a4, a5, a6⟩ := k.block hr
   refine ⟨hF, arr, e, q, a1, a2, a3, a4, a5, fun j i r d hj hi' => ?_⟩
   obtain ⟨v, hv, hrep⟩ := a6 j i r d hj hi'
   exact ⟨v, hv, hrep.ext hx⟩
  rcases parts m w hw with ⟨k1, k2⟩ | ⟨rfl, rfl⟩
  ·exact lift w (hi.ob m w b k2 hb) (fun hr hf h => (hi.ob m w b k2 hb).frozen hr hf (hown' b h)) rfl
  ·refine lift o (hi.ob m o b ho hb) (fun hr _ h => ?_) rfl
   obtain ⟨m', o', k1, k2, k3, k4, k5⟩ := hown b h
   by_cases hf : o.fz = true
   ·exact (hi.ob m o b ho hb).frozen hr hf (hown' b h)
   ·exact k1 (hi.dis m m' o o' b ho k2 hr k3 (by simpa using hf) k4 hb k5).symm
 ·rcases parts m w hw with ⟨k1, k2⟩ | ⟨rfl, rfl⟩ <;> rcases parts m' w' hw' with ⟨k1', k2'⟩ | ⟨rfl, rfl⟩
  ·exact hi.dis m m' w w' b k2 k2' hr hr' hf hf' hb hb'
  ·cases hf'
  ·cases hf
  ·rfl
theorem freeze_ok : ∀ (z : List Nat) {C : Ctx} (_ : Inv C), Ext C ⟨C.F, freeze z C.σ, C.bs, C.w⟩ ∧ Inv ⟨C.F, freeze z C.σ, C.bs, C.w⟩
 | [], C, hi => ⟨.refl C, hi⟩
 | l :: z, C, hi => by
  obtain ⟨h1, h2⟩ := freeze1_ok hi l
  obtain ⟨k1, k2⟩ := freeze_ok z h2
  exact ⟨h1.trans k1, k2⟩
theorem CallD.freeze {P : Program} {f : FuncId} {ds : List D} {σ : List Ob} {Q : D → List Ob → Prop} (z : List Nat) (h : CallD P f ds (Vi.freeze z σ) Q) : CallD P f ds σ Q := by
 refine ⟨h.enters, fun C vs hσ hi hrow => ?_⟩
 subst hσ
 obtain ⟨h1, h2⟩ := freeze_ok z hi
 refine (h.calls ⟨C.F, Vi.freeze z C.σ, C.bs, C.w⟩ vs rfl h2 ⟨hrow.1, fun i d v hd hv => (hrow.2 i d v hd hv).ext h1⟩).mono ?_
 rintro e w' ⟨v, C', d, a1, a2, a3, a4, a5, a6⟩
 exact ⟨v, C', d, a1, a2, h1.trans a3, a4, a5, a6⟩
theorem freeze1_length {σ : List Ob} {l : Nat} : (freeze1 σ l).length = σ.length := by unfold freeze1; split <;> simp
theorem freeze_length : ∀ {z : List Nat} {σ : List Ob}, (freeze z σ).length = σ.length
 | [], σ => rfl
 | l :: z, σ => by rw [Vi.freeze, freeze_length, freeze1_length]
def isin : List Nat → Nat → Bool
 | [], _ => false
 | x :: xs, l => if x = l then true else isin xs l
def reachO (σ : List Ob) (acc : List Nat) (l : Nat) (go : List Nat → List D → List Nat) : List Nat :=
 if isin acc l = true then acc else match σ[l]? with
  | some o => if o.fz = true then acc else if o.pure = true then acc ++ [l] else go (acc ++ [l]) o.rows.flatten
  | none => acc
def reachL (σ : List Ob) : Nat → List Nat → List D → List Nat
 | 0, acc, _ => acc
 | _ + 1, acc, [] => acc
 | k + 1, acc, d :: ds => match d with
  | .own l _ _ _ _ _ => reachL σ k (reachO σ acc l (reachL σ k)) ds
  | .ptr l _ _ _ => reachL σ k (reachO σ acc l (reachL σ k)) ds
  | .agg cs => reachL σ k (reachL σ k acc cs) ds
  | .tup cs => reachL σ k (reachL σ k acc cs) ds
  | .fn _ cs => reachL σ k (reachL σ k acc cs) ds
  | _ => reachL σ k acc ds
def capt (σ : List Ob) : List D → List Nat
 | [] => []
 | .fn _ caps :: ds => captL σ caps ++ capt σ ds
 | _ :: ds => capt σ ds
where
 captL (σ : List Ob) : List D → List Nat
 | [] => []
 | .ptr l _ _ _ :: ds => (match σ[l]? with
  | some o => if o.pure = true then [l] else []
  | none => []) ++ captL σ ds
 | _ :: ds => captL σ ds
end Go.Vi
