import Derived.Test.YtoljgjdloegnoaaVi27
set_option linter.unusedVariables false
set_option linter.unusedSimpArgs false
set_option linter.unnecessarySimpa false
namespace Go.Vi
open Go
variable {base : List Ob} {env : Env} {σ : List Ob}
theorem Ent_emp {t l sz : Nat} {b pu : Bool} (h : lk env t = .own l 0 0 0 sz none) (ho : σ[l]? = some (acc b sz pu [])) : Ent base env σ ((t, .list none true []) :: env) σ := fun C0 C a N h0 hx hσ hst =>
 ⟨C, rfl, hσ, hx, hst.inv, hst.size, hst.defers, fun t' => by
  show Rep _ (if t = t' then _ else lk env t') _
  by_cases e : t = t'
  ·subst e
   rw [if_pos rfl]
   have hv := hst.rep t
   rw [h] at hv
   obtain ⟨A, cap, ob, bb, hv', q1, q2, q3, q3', q4, q5, q5', q6, q7⟩ := rep_own hv
   rw [hσ, ho] at q1
   simp at q1
   subst q1
   have := (q7 rfl rfl).2.1
   subst this
   rw [hv']
   exact emp_rep
  ·rw [if_neg e]; exact hst.rep t'⟩
end Go.Vi
