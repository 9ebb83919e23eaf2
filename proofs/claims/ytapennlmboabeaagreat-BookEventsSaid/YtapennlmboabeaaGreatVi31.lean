import Derived.Test.YtapennlmboabeaaGreatVi30
set_option linter.unusedVariables false
set_option linter.unusedSimpArgs false
set_option linter.unnecessarySimpa false
namespace Go.Vi
open Go
variable {base : List Ob} {env : fy} {σ : List Ob}
def pS : D → D
 | .list (some true) true [] => .list none false []
 | d => d
theorem zg {C : fZ} {d : D} {v : Value} (h : ef C d v) : ef C (pS d) v := by
 unfold pS
 split
 ·cases h with
  | pure hv =>
   cases hv with
   | list nl tg rows A cap sz vf h1 h2 h3 h4 h5 h9 h6 h7 h8 =>
    exact .pure (.list none false [] A cap sz vf (by simp) h2 h3 (by simp) h5 h9 h6 h7 h8)
 ·exact h
theorem vK (d : D) : pS d = d ∨ pS d = .list none false [] := by
 unfold pS
 split
 ·exact .inr rfl
 ·exact .inl rfl
theorem rT {α : Type} (x d : α) (B : List α) : ∀ (A : List α) (n : Nat), A.length = n → (A ++ d :: B).set n x = A ++ x :: B
 | [], _, h => by subst h; rfl
 | a :: A, _, h => by
  subst h
  show a :: (A ++ d :: B).set A.length x = _
  rw [rT x d B A _ rfl]; rfl
end Go.Vi
