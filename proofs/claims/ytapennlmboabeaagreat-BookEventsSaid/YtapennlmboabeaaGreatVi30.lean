import Derived.Test.YtapennlmboabeaaGreatVi29
set_option linter.unusedVariables false
set_option linter.unusedSimpArgs false
set_option linter.unnecessarySimpa false
namespace Go.Vi
open Go
variable {base : List Ob} {env : fy} {σ : List Ob}
theorem vm {l j i : Nat} {o : Ob} {r : List D} {d d' : D} (ho : σ[l]? = some o) (hfz : o.fz = false) (hreal : o.real = true) (hj : o.rows[j]? = some r) (hi : r[i]? = some d)
  (hw : ∀ C v, C.σ = σ → i2 C → ef C d v → ef C d' v) (hc : d'.cell = true) (hp : o.pure = true → d'.pt1 = true) : lV base env σ env (σ.set l { o with rows := o.rows.set j (r.set i d') }) := by
 intro C0 C a N h0 hx hσ hst
 subst hσ
 have hl := (List.getElem?_eq_some_iff.1 ho).1
 have hb : C.bs[l]? = some (C.bs[l]'(by rw [hst.inv.len]; exact hl)) := List.getElem?_eq_getElem _
 generalize C.bs[l]'(by rw [hst.inv.len]; exact hl) = bb at hb
 have hO := hst.inv.ob l o bb ho hb
 obtain ⟨hF, arr, e, qq, a1, a2, a3, a4, a5, a6⟩ := hO.block hreal
 have rows : ∀ (j' : Nat) r', (o.rows.set j (r.set i d'))[j']? = some r' → (j' = j ∧ r' = r.set i d') ∨ (j' ≠ j ∧ o.rows[j']? = some r') := by
  intro j' r' h
  by_cases hjj : j = j'
  ·subst hjj
   rw [List.getElem?_set_self (List.getElem?_eq_some_iff.1 hj).1] at h
   cases h; exact .inl ⟨rfl, rfl⟩
  ·rw [List.getElem?_set_ne hjj] at h
   exact .inr ⟨fun h => hjj h.symm, h⟩
 have cells : ∀ (i' : Nat) x, (r.set i d')[i']? = some x → (i' = i ∧ x = d') ∨ (i' ≠ i ∧ r[i']? = some x) := by
  intro i' x h
  by_cases hii : i = i'
  ·subst hii
   rw [List.getElem?_set_self (List.getElem?_eq_some_iff.1 hi).1] at h
   cases h; exact .inl ⟨rfl, rfl⟩
  ·rw [List.getElem?_set_ne hii] at h
   exact .inr ⟨fun h => hii h.symm, h⟩
 obtain ⟨hx2, hi2⟩ := j0 hst.inv ho hb { o with rows := o.rows.set j (r.set i d') } bb (w' := C.w) ⟨rfl, rfl, rfl⟩ (Nat.le_refl _) (fun _ _ _ => rfl) hfz hfz rfl
  (fun r' hr' => by
   rcases List.mem_or_eq_of_mem_set hr' with h | h
   ·exact hO.sz r' h
   ·subst h; rw [List.length_set]; exact hO.sz r (List.mem_of_getElem? hj))
  (fun r' hr' x hx => by
   rcases List.mem_or_eq_of_mem_set hr' with h | h
   ·exact hO.one r' h x hx
   ·subst h
    rcases List.mem_or_eq_of_mem_set hx with h | h
    ·exact hO.one r (List.mem_of_getElem? hj) x h
    ·subst h; exact hc)
  (fun h => by rw [hreal] at h; cases h)
  (fun hpu r' hr' x hx => by
   rcases List.mem_or_eq_of_mem_set hr' with h | h
   ·exact hO.pure hpu r' h x hx
   ·subst h
    rcases List.mem_or_eq_of_mem_set hx with h | h
    ·exact hO.pure hpu r (List.mem_of_getElem? hj) x h
    ·subst h; exact hp hpu)
  (by simp) (fun _ => ⟨rfl, rfl, rfl⟩) (fun _ => .inl ⟨hreal, rfl⟩) (fun _ arr e h => ⟨arr, h, rfl⟩)
  (fun _ => ⟨arr, e, qq, a1, a2, by simpa using a3, a4, by simpa using a5, fun j' i' r' x hj' hi' => by
   rcases rows j' r' hj' with ⟨rfl, rfl⟩ | ⟨_, hj''⟩
   ·rcases cells i' x hi' with ⟨rfl, rfl⟩ | ⟨_, hi''⟩
    ·obtain ⟨v, hv, hrep⟩ := a6 j' i' r _ hj hi
     exact ⟨v, hv, hw _ _ rfl hst.inv hrep⟩
    ·exact a6 j' i' r x hj hi''
   ·exact a6 j' i' r' x hj'' hi'⟩)
 exact ⟨⟨C.F, C.σ.set l { o with rows := o.rows.set j (r.set i d') }, C.bs.set l bb, C.w⟩, rfl, rfl, hx.trans hx2, hi2, hst.size, hst.defers, fun t => (hst.rep t).ext hx2⟩
theorem uh {C : fZ} {l i k n z : Nat} {cl : Option Nat} {v : Value} {o : Ob} {rows : List (List D)} (hi : i2 C) (h : ef C (.own l i k n z cl) v) (ho : C.σ[l]? = some o) (hfz : o.fz = true) (hv : jk C.σ (.own l i k n z cl) = some rows) : ef C (.list none false rows) v := by
 refine .pure (lO hi h hv (fun _ h => h) fun o' b ho' hb hr => ?_)
 rw [ho] at ho'
 cases ho'
 have hO := hi.ob l o b ho hb
 obtain ⟨hF, arr, e, q, a1, _⟩ := hO.block hr
 exact ⟨(Array.getElem?_eq_some_iff.1 a1).1, hF, hO.frozen hr hfz⟩
theorem lE {l j i m i' k n z : Nat} {cl : Option Nat} {o om : Ob} {r : List D} {rows : List (List D)} (ho : σ[l]? = some o) (hfz : o.fz = false) (hreal : o.real = true) (hj : o.rows[j]? = some r) (hi : r[i]? = some (.own m i' k n z cl)) (hm : σ[m]? = some om) (hmf : om.fz = true)
  (hv : jk σ (.own m i' k n z cl) = some rows) : lV base env σ env (σ.set l { o with rows := o.rows.set j (r.set i (.list none false rows)) }) :=
 vm ho hfz hreal hj hi (fun C v hσ hinv h => by subst hσ; exact uh hinv h hm hmf hv) rfl (fun _ => rfl)
theorem mE {P : Program} {N : Nat} {k : List LI} {post : fy → List Ob → Prop} (l : Nat) {o : Ob} (ho : σ[l]? = some o) (hp : o.pure = true) (h : (∀ r ∈ o.rows, ∀ d ∈ r, d.pt1 = true) → jf P N base k post env σ) : jf P N base k post env σ := by
 intro its hl C0 C a h0 hx hσ hst bb cs
 have hlt : l < C.bs.length := by rw [hst.inv.len, hσ]; exact (List.getElem?_eq_some_iff.1 ho).1
 have hO := hst.inv.ob l o _ (by rw [hσ]; exact ho) (List.getElem?_eq_getElem hlt)
 exact h (hO.pure hp) its hl C0 C a h0 hx hσ hst bb cs
theorem pe {f : D → Option D} {d d' : D} (hd : f d = some d') : ∀ (R : List D) (j : Nat), (∀ x ∈ R, f x = some x) → cV f (R.set j d) = some (R.set j d')
 | [], j, _ => rfl
 | x :: R, 0, h => by
  simp only [List.set_cons_zero, cV, hd, nf (ds := R) fun x hx => h x (by simp [hx])]
 | x :: R, j + 1, h => by
  simp only [List.set_cons_succ, cV, h x (by simp), pe hd R j fun x hx => h x (by simp [hx])]
theorem jv {g : Bool} {q : List Nat} {σ : List Ob} {m m' i k n z : Nat} {cl : Option Nat} {R : List D} {j : Nat} (hR : ∀ x ∈ R, x.pt1 = true) (hm : idx q m = some m') : cV (cr g q σ) (R.set j (.own m i k n z cl)) = some (R.set j (.own m' i k n z cl)) :=
 pe (by simp only [cr, dm, hm]) R j fun x hx => lJ (hR x hx)
theorem oF {g : Bool} {q : List Nat} {σ : List Ob} {d : D} {R : List D} {j : Nat} (hR : ∀ x ∈ R, x.pt1 = true) (hd : d.pt1 = true) : cV (cr g q σ) (R.set j d) = some (R.set j d) :=
 pe (lJ hd) R j fun x hx => lJ (hR x hx)
theorem ou {d : D} {R : List D} {j : Nat} (hR : ∀ x ∈ R, x.pt1 = true) (hd : d.pt1 = true) : (R.set j d).all D.pt1 = true := by
 rw [List.all_eq_true]
 intro x hx
 rcases List.mem_or_eq_of_mem_set hx with h | h
 ·exact hR x h
 ·rw [h]; exact hd
end Go.Vi
