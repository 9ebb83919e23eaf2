import Derived.Test.YtfpohilhapaiiaaVi24
set_option linter.unusedVariables false
set_option linter.unusedSimpArgs false
set_option linter.unnecessarySimpa false
namespace Go.Vi
open Go
variable {base : List Ob} {env : Env} {σ : List Ob}
/-- A slot's thing, told as a callee tells it. -/
theorem Ent_norm {t : Nat} {d : D} (h : lk env t = d) : Ent base env σ ((t, d.norm1) :: env) σ := fun C0 C a N h0 hx hσ hst =>
  ⟨C, rfl, hσ, hx, hst.inv, hst.size, hst.defers, fun t' => by
    show Rep _ (if t = t' then _ else lk env t') _
    by_cases e : t = t'
    · subst e
      rw [if_pos rfl]
      have := hst.rep t
      rw [h] at this
      exact this.norm1
    · rw [if_neg e]; exact hst.rep t'⟩
end Go.Vi
