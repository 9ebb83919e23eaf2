import Derived.Test.YtgefljdclekadaaGreatVi30
set_option linter.unusedVariables false
set_option linter.unusedSimpArgs false
set_option linter.unnecessarySimpa false
namespace Go.Vi
open Go
variable {base : List Ob} {env : bK} {σ : List Ob}
def fW : D → D
 | .list (some true) true [] => .list none false []
 | d => d
theorem qX {C : bT} {d : D} {v : Value} (h : bq C d v) : bq C (fW d) v := by
 unfold fW
 split
 ·cases h with
  | pure hv =>
   cases hv with
   | list nl tg rows A cap sz vf h1 h2 h3 h4 h5 h9 h6 h7 h8 =>
    exact .pure (.list none false [] A cap sz vf (by simp) h2 h3 (by simp) h5 h9 h6 h7 h8)
 ·exact h
theorem mi (d : D) : fW d = d ∨ fW d = .list none false [] := by
 unfold fW
 split
 ·exact .inr rfl
 ·exact .inl rfl
theorem iV {α : Type} (x d : α) (B : List α) : ∀ (A : List α) (n : Nat), A.length = n → (A ++ d :: B).set n x = A ++ x :: B
 | [], _, h => by subst h; rfl
 | a :: A, _, h => by
  subst h
  show a :: (A ++ d :: B).set A.length x = _
  rw [iV x d B A _ rfl]; rfl
theorem ye {P : Program} {N : Nat} {k : List LI} {post : bK → List Ob → Prop} (l : Nat) {o : Ob} {R : List D} (cs : List D) (ho : σ[l]? = some o) (hfz : o.fz = false) (hreal : o.real = true) (hr : o.rows = [R]) (hm : R.map fW = cs)
  (h : dQ P N base k post env (σ.set l { o with rows := [cs] })) : dQ P N base k post env σ := by
 subst hm
 have key : ∀ n, n ≤ R.length → dQ P N base k post env (σ.set l { o with rows := [(R.take n).map fW ++ R.drop n] }) → dQ P N base k post env σ := by
  intro n
  induction n with
  | zero =>
   intro _ h
   have e : σ.set l { o with rows := [(R.take 0).map fW ++ R.drop 0] } = σ := by
    have : ({ o with rows := [(R.take 0).map fW ++ R.drop 0] } : Ob) = o := by
     cases o; simp only at hr; simp [hr]
    rw [this]
    obtain ⟨hl, rfl⟩ := List.getElem?_eq_some_iff.1 ho
    exact List.set_getElem_self hl
   rw [e] at h
   exact h
  | succ n ih =>
   intro hn h
   refine ih (by omega) ?_
   obtain ⟨d, hd⟩ : ∃ d, R[n]? = some d := ⟨_, List.getElem?_eq_getElem (by omega)⟩
   have hl := (List.getElem?_eq_some_iff.1 ho).1
   have e2 : (R.take (n + 1)).map fW ++ R.drop (n + 1) = ((R.take n).map fW ++ R.drop n).set n (fW d) := by
    obtain ⟨hlt, hd'⟩ := List.getElem?_eq_some_iff.1 hd
    have a1 : R.drop n = d :: R.drop (n + 1) := by rw [List.drop_eq_getElem_cons hlt, hd']
    have a2 : R.take (n + 1) = R.take n ++ [d] := by rw [List.take_add_one, hd]; rfl
    rw [a1, a2, List.map_append, iV _ _ _ _ n (by rw [List.length_map, List.length_take]; omega), List.append_assoc]
    rfl
   rcases mi d with e | e
   ·rw [e2, e] at h
    have : ((R.take n).map fW ++ R.drop n).set n d = (R.take n).map fW ++ R.drop n := by
     obtain ⟨hlt, hd'⟩ := List.getElem?_eq_some_iff.1 hd
     have a1 : R.drop n = d :: R.drop (n + 1) := by rw [List.drop_eq_getElem_cons hlt, hd']
     rw [a1, iV _ _ _ _ n (by rw [List.length_map, List.length_take]; omega)]
    rw [this] at h
    exact h
   ·have hi : ((R.take n).map fW ++ R.drop n)[n]? = some d := by
     have e0 : ((R.take n).map fW).length = n := by rw [List.length_map, List.length_take]; omega
     rw [List.getElem?_append_right (by omega), e0, Nat.sub_self, List.getElem?_drop, Nat.add_zero]
     exact hd
    have hE := n9 (base := base) (env := env) (σ := σ.set l { o with rows := [(R.take n).map fW ++ R.drop n] }) (l := l) (j := 0) (i := n) (o := { o with rows := [(R.take n).map fW ++ R.drop n] }) (r := (R.take n).map fW ++ R.drop n) (d := d) (d' := fW d)
     (List.getElem?_set_self hl) hfz hreal rfl hi (fun C v hv => qX hv) (by rw [e]; rfl) (fun _ => by rw [e]; rfl)
    refine ck hE ?_
    rw [List.set_set, ← e2]
    exact h
 refine key R.length (Nat.le_refl _) ?_
 rw [List.take_length, List.drop_length, List.append_nil]
 exact h
end Go.Vi
