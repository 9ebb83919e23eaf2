import Derived.Test.YtggchhmgeafoaaaVi23
set_option linter.unusedVariables false
set_option linter.unusedSimpArgs false
set_option linter.unnecessarySimpa false
namespace Go.Vi
open Go
theorem CallG.weak {P : Program} {f : FuncId} {ds : List D} {σ : List Ob} {r r' : D} {τ : List Ob} (h : CallG P f ds σ r τ) (hw : ∀ C v, C.σ = τ → Rep C r v → Rep C r' v) : CallG P f ds σ r' τ := by
 refine ⟨h.enters, fun C vs hσ hi hr => (h.calls C vs hσ hi hr).mono ?_⟩
 rintro e w' ⟨v, C', d, h1, h2, h3, h4, h5, h6, h7⟩
 rw [h6] at h5
 exact ⟨v, C', r', h1, h2, h3, h4, hw C' v h7 h5, rfl, h7⟩
theorem emp_rep {C : Ctx} {A : Option Addr} : Rep C (.list none true []) (.slice A 0 0) :=
 .pure (.list none true [] A 0 0 (fun _ _ => .bool false) (by simp) (by simp) (by simp) (by simp) (by simp) (by simp) (by simp) (by simp) (by simp))
theorem CallG.nl {P : Program} {f : FuncId} {ds : List D} {σ : List Ob} {b : Bool} {τ : List Ob} (h : CallG P f ds σ (.list (some b) true []) τ) : CallG P f ds σ (.list none true []) τ := by
 refine h.weak fun C v _ hv => ?_
 cases hv with
 | pure hv =>
  cases hv with
  | list nl tg rows A cap sz vf h1 h2 h3 h4 h5 h9 h6 h7 h8 =>
   have : cap = 0 := h4 rfl
   subst this
   exact emp_rep
theorem CallG.emp {P : Program} {f : FuncId} {ds : List D} {b pu : Bool} {sz : Nat} (h : CallG P f ds [] (.own 0 0 0 0 sz none) [acc b sz pu []]) : CallG P f ds [] (.list none true []) [] := by
 have h' : CallG P f ds [] (.list none true []) [acc b sz pu []] := by
  refine h.weak fun C v hC hv => ?_
  obtain ⟨A, cap, ob, bb, rfl, q1, q2, q3, q3', q4, q5, q5', q6, q7⟩ := rep_own hv
  rw [hC] at q1
  simp at q1
  subst q1
  have := (q7 rfl rfl).2.1
  subst this
  exact emp_rep
 refine CallD.gc (h'.mono fun d σ' ⟨h1, h2⟩ => ?_)
 subst h1 h2
 exact ⟨_, [], ⟨[], by simp [preW], by simp, by simp [keptW], .inl rfl⟩, rfl, rfl⟩
theorem CallG.nils {P : Program} {f : FuncId} {post : List D} {tg : Bool} {rows : List (List D)} {σ : List Ob} {r : D} {τ : List Ob} (h : ∀ b, (b = true → rows = []) → CallG P f (.list (some b) tg rows :: post) σ r τ) : CallG P f (.list none tg rows :: post) σ r τ := by
 refine ⟨(h false (by simp)).enters, fun C vs hσ hi ⟨hl, hr⟩ => ?_⟩
 obtain ⟨v, vs, rfl⟩ : ∃ v vs', vs = v :: vs' := by
  cases vs with
  | nil => simp at hl
  | cons v vs => exact ⟨v, vs, rfl⟩
 obtain ⟨b, hb, hv⟩ := list_nils (hr 0 _ v rfl rfl)
 refine (h b hb).calls C _ hσ hi ⟨by simpa using hl, fun i d u hd hu => ?_⟩
 cases i with
 | zero => simp at hd hu; subst hd hu; exact hv
 | succ i => exact hr (i + 1) d u (by simpa using hd) hu
end Go.Vi
