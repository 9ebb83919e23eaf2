import Derived.Test.YtapennlmboabeaaGreatVi31
set_option linter.unusedVariables false
set_option linter.unusedSimpArgs false
set_option linter.unnecessarySimpa false
namespace Go.Vi
open Go
variable {base : List Ob} {env : fy} {σ : List Ob}
theorem Bk (l : Nat) {o : Ob} {R : List D} (cs : List D) (ho : σ[l]? = some o) (hfz : o.fz = false) (hreal : o.real = true) (hr : o.rows = [R]) (hm : R.map pS = cs) :
  lV base env σ env (σ.set l { o with rows := [cs] }) := by
 subst hm
 have hl := (List.getElem?_eq_some_iff.1 ho).1
 have key : ∀ n, n ≤ R.length → lV base env σ env (σ.set l { o with rows := [(R.take n).map pS ++ R.drop n] }) := by
  intro n
  induction n with
  | zero =>
   intro _
   have e : σ.set l { o with rows := [(R.take 0).map pS ++ R.drop 0] } = σ := by
    have : ({ o with rows := [(R.take 0).map pS ++ R.drop 0] } : Ob) = o := by
     cases o; simp only at hr; simp [hr]
    rw [this]
    obtain ⟨hl, rfl⟩ := List.getElem?_eq_some_iff.1 ho
    exact List.set_getElem_self hl
   rw [e]
   exact lV.refl
  | succ n ih =>
   intro hn
   refine (ih (by omega)).trans ?_
   obtain ⟨d, hd⟩ : ∃ d, R[n]? = some d := ⟨_, List.getElem?_eq_getElem (by omega)⟩
   have e2 : (R.take (n + 1)).map pS ++ R.drop (n + 1) = ((R.take n).map pS ++ R.drop n).set n (pS d) := by
    obtain ⟨hlt, hd'⟩ := List.getElem?_eq_some_iff.1 hd
    have a1 : R.drop n = d :: R.drop (n + 1) := by rw [List.drop_eq_getElem_cons hlt, hd']
    have a2 : R.take (n + 1) = R.take n ++ [d] := by rw [List.take_add_one, hd]; rfl
    rw [a1, a2, List.map_append, rT _ _ _ _ n (by rw [List.length_map, List.length_take]; omega), List.append_assoc]
    rfl
   rcases vK d with e | e
   ·rw [e2, e]
    have : ((R.take n).map pS ++ R.drop n).set n d = (R.take n).map pS ++ R.drop n := by
     obtain ⟨hlt, hd'⟩ := List.getElem?_eq_some_iff.1 hd
     have a1 : R.drop n = d :: R.drop (n + 1) := by rw [List.drop_eq_getElem_cons hlt, hd']
     rw [a1, rT _ _ _ _ n (by rw [List.length_map, List.length_take]; omega)]
    rw [this]
    exact lV.refl
   ·have hi : ((R.take n).map pS ++ R.drop n)[n]? = some d := by
     have e0 : ((R.take n).map pS).length = n := by rw [List.length_map, List.length_take]; omega
     rw [List.getElem?_append_right (by omega), e0, Nat.sub_self, List.getElem?_drop, Nat.add_zero]
     exact hd
    have hE := wE (base := base) (env := env) (σ := σ.set l { o with rows := [(R.take n).map pS ++ R.drop n] }) (l := l) (j := 0) (i := n) (o := { o with rows := [(R.take n).map pS ++ R.drop n] }) (r := (R.take n).map pS ++ R.drop n) (d := d) (d' := pS d)
     (List.getElem?_set_self hl) hfz hreal rfl hi (fun C v hv => zg hv) (by rw [e]; rfl) (fun _ => by rw [e]; rfl)
    rw [List.set_set, ← e2] at hE
    exact hE
 have := key R.length (Nat.le_refl _)
 rwa [List.take_length, List.drop_length, List.append_nil] at this
theorem aa.ent {P : Program} {f : FuncId} {ds : List D} {τ τ' : List Ob} (h : aa P f ds σ (.tup []) τ) (hE : lV σ [] τ [] τ') : aa P f ds σ (.tup []) τ' := by
 refine ⟨h.enters, fun C vs hσ hi hr => (h.calls C vs hσ hi hr).mono ?_⟩
 rintro e w' ⟨v, C', d, h1, h2, h3, h4, h5, h6, h7⟩
 subst h6
 obtain ⟨C'', g1, g2, g3, g4⟩ := hE C C' ⟨#[], []⟩ 0 hσ h3 h7 ⟨h4, rfl, rfl, fun t => ef.undef _⟩
 refine ⟨v, C'', .tup [], h1, g1.trans h2, g3, g4.inv, ?_, rfl, g2⟩
 have hv : v = .tuple #[] := by
  cases h5 with
  | pure h =>
   cases h with
   | tup cs vs hl _ => 
    have : vs = [] := List.eq_nil_of_length_eq_zero hl.symm
    subst this; rfl
  | tup cs vs hl _ =>
   have : vs = [] := List.eq_nil_of_length_eq_zero hl.symm
   subst this; rfl
 rw [hv]
 exact .tup [] [] rfl (by simp)
theorem aa.nlO {P : Program} {f : FuncId} {ds : List D} {τ : List Ob} (l : Nat) {o : Ob} {R : List D} (cs : List D) (h : aa P f ds σ (.tup []) τ) (ho : τ[l]? = some o) (hfz : o.fz = false) (hreal : o.real = true) (hr : o.rows = [R]) (hm : R.map pS = cs) :
  aa P f ds σ (.tup []) (τ.set l { o with rows := [cs] }) := h.ent (Bk l cs ho hfz hreal hr hm)
end Go.Vi
