import Derived.Test.YtggchhmgeafoaaaVi28
set_option linter.unusedVariables false
set_option linter.unusedSimpArgs false
set_option linter.unnecessarySimpa false
namespace Go.Vi
open Go
variable {base : List Ob} {env : Env} {σ : List Ob}
theorem Ent_cell {l j i : Nat} {o : Ob} {r : List D} {d d' : D} (ho : σ[l]? = some o) (hfz : o.fz = false) (hreal : o.real = true) (hj : o.rows[j]? = some r) (hi : r[i]? = some d)
  (hw : ∀ C v, Rep C d v → Rep C d' v) (hc : d'.cell = true) (hp : o.pure = true → d'.pt1 = true) : Ent base env σ env (σ.set l { o with rows := o.rows.set j (r.set i d') }) := by
 intro C0 C a N h0 hx hσ hst
 subst hσ
 have hl := (List.getElem?_eq_some_iff.1 ho).1
 have hb : C.bs[l]? = some (C.bs[l]'(by rw [hst.inv.len]; exact hl)) := List.getElem?_eq_getElem _
 generalize C.bs[l]'(by rw [hst.inv.len]; exact hl) = bb at hb
 have hO := hst.inv.ob l o bb ho hb
 obtain ⟨hF, arr, e, qq, a1, a2, a3, a4, a5, a6⟩ := hO.block hreal
 have rows : ∀ (j' : Nat) r', (o.rows.set j (r.set i d'))[j']? = some r' → (j' = j ∧ r' = r.set i d') ∨ (j' ≠ j ∧ o.rows[j']? = some r') := by
  intro j' r' h
  by_cases hjj : j = j'
  ·subst hjj
   rw [List.getElem?_set_self (List.getElem?_eq_some_iff.1 hj).1] at h
   cases h; exact .inl ⟨rfl, rfl⟩
  ·rw [List.getElem?_set_ne hjj] at h
   exact .inr ⟨fun h => hjj h.symm, h⟩
 have cells : ∀ (i' : Nat) x, (r.set i d')[i']? = some x → (i' = i ∧ x = d') ∨ (i' ≠ i ∧ r[i']? = some x) := by
  intro i' x h
  by_cases hii : i = i'
  ·subst hii
   rw [List.getElem?_set_self (List.getElem?_eq_some_iff.1 hi).1] at h
   cases h; exact .inl ⟨rfl, rfl⟩
  ·rw [List.getElem?_set_ne hii] at h
   exact .inr ⟨fun h => hii h.symm, h⟩
 obtain ⟨hx2, hi2⟩ := turnOb hst.inv ho hb { o with rows := o.rows.set j (r.set i d') } bb (w' := C.w) ⟨rfl, rfl, rfl⟩ (Nat.le_refl _) (fun _ _ _ => rfl) hfz hfz rfl
  (fun r' hr' => by
   rcases List.mem_or_eq_of_mem_set hr' with h | h
   ·exact hO.sz r' h
   ·subst h; rw [List.length_set]; exact hO.sz r (List.mem_of_getElem? hj))
  (fun r' hr' x hx => by
   rcases List.mem_or_eq_of_mem_set hr' with h | h
   ·exact hO.one r' h x hx
   ·subst h
    rcases List.mem_or_eq_of_mem_set hx with h | h
    ·exact hO.one r (List.mem_of_getElem? hj) x h
    ·subst h; exact hc)
  (fun h => by rw [hreal] at h; cases h)
  (fun hpu r' hr' x hx => by
   rcases List.mem_or_eq_of_mem_set hr' with h | h
   ·exact hO.pure hpu r' h x hx
   ·subst h
    rcases List.mem_or_eq_of_mem_set hx with h | h
    ·exact hO.pure hpu r (List.mem_of_getElem? hj) x h
    ·subst h; exact hp hpu)
  (by simp) (fun _ => ⟨rfl, rfl, rfl⟩) (fun _ => .inl ⟨hreal, rfl⟩) (fun _ arr e h => ⟨arr, h, rfl⟩)
  (fun _ => ⟨arr, e, qq, a1, a2, by simpa using a3, a4, by simpa using a5, fun j' i' r' x hj' hi' => by
   rcases rows j' r' hj' with ⟨rfl, rfl⟩ | ⟨_, hj''⟩
   ·rcases cells i' x hi' with ⟨rfl, rfl⟩ | ⟨_, hi''⟩
    ·obtain ⟨v, hv, hrep⟩ := a6 j' i' r _ hj hi
     exact ⟨v, hv, hw _ _ hrep⟩
    ·exact a6 j' i' r x hj hi''
   ·exact a6 j' i' r' x hj'' hi'⟩)
 exact ⟨⟨C.F, C.σ.set l { o with rows := o.rows.set j (r.set i d') }, C.bs.set l bb, C.w⟩, rfl, rfl, hx.trans hx2, hi2, hst.size, hst.defers, fun t => (hst.rep t).ext hx2⟩
theorem Ent_cellN {l j i : Nat} {o : Ob} {r : List D} {d : D} (ho : σ[l]? = some o) (hfz : o.fz = false) (hreal : o.real = true) (hj : o.rows[j]? = some r) (hi : r[i]? = some d) (hc : d.norm1.cell = true) (hp : o.pure = true → d.norm1.pt1 = true) :
  Ent base env σ env (σ.set l { o with rows := o.rows.set j (r.set i d.norm1) }) := Ent_cell ho hfz hreal hj hi (fun _ _ h => h.norm1) hc hp
end Go.Vi
