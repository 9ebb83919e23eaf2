import Derived.Test.YtapennlmboabeaaGreatVi22
set_option linter.unusedVariables false
set_option linter.unusedSimpArgs false
set_option linter.unnecessarySimpa false
namespace Go.Vi
open Go Go.RowKit
theorem dH {σ : List Ob} {x y : D} : tl σ .ptr x y = jA .ptr x y := by cases x <;> rfl
theorem cD {σ : List Ob} {x y : D} : tl σ .bool x y = jA .bool x y := by cases x <;> rfl
theorem cE {σ : List Ob} {x y : D} : tl σ .func x y = jA .func x y := by cases x <;> rfl
theorem dI {σ : List Ob} {ks : List FK} {x y : D} : tl σ (.row ks) x y = jA (.row ks) x y := by cases x <;> rfl
theorem cF {σ : List Ob} {nl : Option Bool} {tg : Bool} {rows : List (List D)} {y : D} : tl σ .slice (.list nl tg rows) y = jA .slice (.list nl tg rows) y := id rfl
def B6 (o : Option Ob) (n : Nat) : Option Bool := match o with
 | some o => if o.rows.length = n then some (!o.real && o.nl) else none
 | none => none
theorem dG {σ : List Ob} {l i k n z : Nat} {cl : Option Nat} : tl σ .slice (.own l i k n z cl) (.list (some true) true []) = B6 (σ[l]?) n := by
 simp only [tl, B6]
 cases σ[l]? <;> rfl
theorem bS {o : Ob} {n : Nat} : B6 (some o) n = if o.rows.length = n then some (!o.real && o.nl) else none := id rfl
section
variable {P : Program} {N : Nat} {base : List Ob} {env env' : fy} {σ σ' : List Ob} {q : List Nat} {k : List LI} {post : fy → List Ob → Prop}
theorem kU {l j i : Nat} {b : Bool} {o : Ob} {r : List D} (z : Nat) (pu : Bool) (hz : 0 < z) (ho : σ[l]? = some o) (hfz : o.fz = false) (hreal : o.real = true) (hj : o.rows[j]? = some r) (hi : r[i]? = some (.list (some b) true [])) :
  lV base env σ env (σ.set l { o with pure := false, rows := o.rows.set j (r.set i (.own σ.length 0 0 0 z none)) } ++ [bw b z pu []]) := by
 intro C0 C a N h0 hx hσ hst
 subst hσ
 obtain ⟨hx1, hi1⟩ := nX hst.inv (Below.refl _ C.w) (bw b z pu []) 0 rfl hz (by simp [bw]) (by simp [bw]) (by simp [bw]) (by simp [bw]) (by simp [bw])
 have hl := (List.getElem?_eq_some_iff.1 ho).1
 have hb : C.bs[l]? = some (C.bs[l]'(by rw [hst.inv.len]; exact hl)) := List.getElem?_eq_getElem _
 generalize C.bs[l]'(by rw [hst.inv.len]; exact hl) = bb at hb
 have ho1 : (C.σ ++ [bw b z pu []])[l]? = some o := by rw [List.getElem?_append_left hl]; exact ho
 have hb1 : (C.bs ++ [0])[l]? = some bb := by rw [List.getElem?_append_left (by rw [hst.inv.len]; exact hl)]; exact hb
 have hO := hi1.ob l o bb ho1 hb1
 obtain ⟨hF, arr, e, qq, a1, a2, a3, a4, a5, a6⟩ := hO.block hreal
 have hlen := hst.inv.len
 have rows : ∀ (j' : Nat) r', (o.rows.set j (r.set i (.own C.σ.length 0 0 0 z none)))[j']? = some r' → (j' = j ∧ r' = r.set i (.own C.σ.length 0 0 0 z none)) ∨ (j' ≠ j ∧ o.rows[j']? = some r') := by
  intro j' r' h
  by_cases hjj : j = j'
  ·subst hjj
   rw [List.getElem?_set_self (List.getElem?_eq_some_iff.1 hj).1] at h
   cases h; exact .inl ⟨rfl, rfl⟩
  ·rw [List.getElem?_set_ne hjj] at h
   exact .inr ⟨fun h => hjj h.symm, h⟩
 have cells : ∀ (i' : Nat) d, (r.set i (.own C.σ.length 0 0 0 z none))[i']? = some d → (i' = i ∧ d = .own C.σ.length 0 0 0 z none) ∨ (i' ≠ i ∧ r[i']? = some d) := by
  intro i' d h
  by_cases hii : i = i'
  ·subst hii
   rw [List.getElem?_set_self (List.getElem?_eq_some_iff.1 hi).1] at h
   cases h; exact .inl ⟨rfl, rfl⟩
  ·rw [List.getElem?_set_ne hii] at h
   exact .inr ⟨fun h => hii h.symm, h⟩
 obtain ⟨hx2, hi2⟩ := j0 hi1 ho1 hb1 { o with pure := false, rows := o.rows.set j (r.set i (.own C.σ.length 0 0 0 z none)) } bb (w' := C.w) ⟨rfl, rfl, rfl⟩ (Nat.le_refl _) (fun _ _ _ => rfl) hfz hfz rfl
  (fun r' hr' => by
   rcases List.mem_or_eq_of_mem_set hr' with h | h
   ·exact hO.sz r' h
   ·subst h; rw [List.length_set]; exact hO.sz r (List.mem_of_getElem? hj))
  (fun r' hr' d hd => by
   rcases List.mem_or_eq_of_mem_set hr' with h | h
   ·exact hO.one r' h d hd
   ·subst h
    rcases List.mem_or_eq_of_mem_set hd with h | h
    ·exact hO.one r (List.mem_of_getElem? hj) d h
    ·subst h; rfl)
  (fun h => by rw [hreal] at h; cases h) (fun h => by cases h) (by simp) (fun _ => ⟨rfl, rfl, rfl⟩) (fun _ => .inl ⟨hreal, rfl⟩) (fun _ arr e h => ⟨arr, h, rfl⟩)
  (fun _ => ⟨arr, e, qq, a1, a2, by simpa using a3, a4, by simpa using a5, fun j' i' r' d hj' hi' => by
   rcases rows j' r' hj' with ⟨rfl, rfl⟩ | ⟨_, hj''⟩
   ·rcases cells i' d hi' with ⟨rfl, rfl⟩ | ⟨_, hi''⟩
    ·obtain ⟨v, hv, hrep⟩ := a6 j' i' r _ hj hi
     refine ⟨v, hv, ?_⟩
     obtain ⟨A, cap, sz, hvv, q1, q2, q3, q4, _⟩ := iw hrep
     have hc : cap = 0 := by simpa using q4 rfl
     subst hc
     rw [hvv]
     exact .own C.σ.length 0 0 0 z none A 0 (bw b z pu []) 0 (by simp) (by rw [← hlen]; simp) (by simp) (by simp) rfl (fun _ => rfl) (by simp) (fun _ h => by simp [bw] at h) (fun _ _ => ⟨rfl, rfl, by simp [bw, q1 b rfl]⟩)
    ·exact a6 j' i' r d hj hi''
   ·exact a6 j' i' r' d hj'' hi'⟩)
 have e1 : (C.σ ++ [bw b z pu []]).set l { o with pure := false, rows := o.rows.set j (r.set i (.own C.σ.length 0 0 0 z none)) } = C.σ.set l { o with pure := false, rows := o.rows.set j (r.set i (.own C.σ.length 0 0 0 z none)) } ++ [bw b z pu []] := by
  rw [List.set_append_left _ _ hl]
 rw [e1] at hx2 hi2
 exact ⟨⟨C.F, C.σ.set l { o with pure := false, rows := o.rows.set j (r.set i (.own C.σ.length 0 0 0 z none)) } ++ [bw b z pu []], (C.bs ++ [0]).set l bb, C.w⟩, rfl, rfl, (hx.trans hx1).trans hx2, hi2, hst.size, hst.defers, fun t => ((hst.rep t).ext hx1).ext hx2⟩
end
end Go.Vi
