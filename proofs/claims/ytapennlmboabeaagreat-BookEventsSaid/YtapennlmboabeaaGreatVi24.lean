import Derived.Test.YtapennlmboabeaaGreatVi23
set_option linter.unusedVariables false
set_option linter.unusedSimpArgs false
set_option linter.unnecessarySimpa false
namespace Go.Vi
open Go
theorem aa.weak {P : Program} {f : FuncId} {ds : List D} {σ : List Ob} {r r' : D} {τ : List Ob} (h : aa P f ds σ r τ) (hw : ∀ C v, C.σ = τ → ef C r v → ef C r' v) : aa P f ds σ r' τ := by
 refine ⟨h.enters, fun C vs hσ hi hr => (h.calls C vs hσ hi hr).mono ?_⟩
 rintro e w' ⟨v, C', d, h1, h2, h3, h4, h5, h6, h7⟩
 rw [h6] at h5
 exact ⟨v, C', r', h1, h2, h3, h4, hw C' v h7 h5, rfl, h7⟩
theorem u5 {C : fZ} {A : Option Addr} : ef C (.list none true []) (.slice A 0 0) :=
 .pure (.list none true [] A 0 0 (fun _ _ => .bool false) (by simp) (by simp) (by simp) (by simp) (by simp) (by simp) (by simp) (by simp) (by simp))
theorem aa.nl {P : Program} {f : FuncId} {ds : List D} {σ : List Ob} {b : Bool} {τ : List Ob} (h : aa P f ds σ (.list (some b) true []) τ) : aa P f ds σ (.list none true []) τ := by
 refine h.weak fun C v _ hv => ?_
 cases hv with
 | pure hv =>
  cases hv with
  | list nl tg rows A cap sz vf h1 h2 h3 h4 h5 h9 h6 h7 h8 =>
   have : cap = 0 := h4 rfl
   subst this
   exact u5
theorem aa.emp {P : Program} {f : FuncId} {ds : List D} {b pu : Bool} {sz : Nat} (h : aa P f ds [] (.own 0 0 0 0 sz none) [bw b sz pu []]) : aa P f ds [] (.list none true []) [] := by
 have h' : aa P f ds [] (.list none true []) [bw b sz pu []] := by
  refine h.weak fun C v hC hv => ?_
  obtain ⟨A, cap, ob, bb, rfl, q1, q2, q3, q3', q4, q5, q5', q6, q7⟩ := gS hv
  rw [hC] at q1
  simp at q1
  subst q1
  have := (q7 rfl rfl).2.1
  subst this
  exact u5
 refine ib.gc (h'.mono fun d σ' ⟨h1, h2⟩ => ?_)
 subst h1 h2
 exact ⟨_, [], ⟨[], by simp [pW], by simp, by simp [i3], .inl rfl⟩, rfl, rfl⟩
theorem aa.nils {P : Program} {f : FuncId} {post : List D} {tg : Bool} {rows : List (List D)} {σ : List Ob} {r : D} {τ : List Ob} (h : ∀ b, (b = true → rows = []) → aa P f (.list (some b) tg rows :: post) σ r τ) : aa P f (.list none tg rows :: post) σ r τ := by
 refine ⟨(h false (by simp)).enters, fun C vs hσ hi ⟨hl, hr⟩ => ?_⟩
 obtain ⟨v, vs, rfl⟩ : ∃ v vs', vs = v :: vs' := by
  cases vs with
  | nil => simp at hl
  | cons v vs => exact ⟨v, vs, rfl⟩
 obtain ⟨b, hb, hv⟩ := qt (hr 0 _ v rfl rfl)
 refine (h b hb).calls C _ hσ hi ⟨by simpa using hl, fun i d u hd hu => ?_⟩
 cases i with
 | zero => simp at hd hu; subst hd hu; exact hv
 | succ i => exact hr (i + 1) d u (by simpa using hd) hu
theorem aA.toG {P : Program} {f : FuncId} {ds : List D} {r : D} (h : aA P f ds r) (hv : cV (fJ []) ds = some ds) (hp : ds.all D.pt = true) : aa P f ds [] r [] := i8 h hv (by simp [hp])
end Go.Vi
