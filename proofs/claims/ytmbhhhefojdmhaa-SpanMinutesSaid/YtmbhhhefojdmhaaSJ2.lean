import Derived.Test.YtmbhhhefojdmhaaSY
import Derived.Test.YtmbhhhefojdmhaaSJ1
set_option linter.unusedVariables false
set_option linter.unusedSimpArgs false
set_option linter.unnecessarySimpa false
namespace Go.Proofs.Ytmbhhhefojdmhaa
open Go Go.Vi Go.Shelf Go.RowKit Go.Lib Go.Sort
theorem nan41 (x : Int) (W : World) : Calls Try.prog 41 #[.int .i64 x] W fun e w' => e = .returned (.bool false) ∧ w' = W := by
  go_enter Try.func41, Try.ntmps41
  go_wp2
  all_goals (go_ret; refine ⟨?_, rfl⟩; simp)
theorem cmp28 (x y : Int) (W : World) : Calls Try.prog 28 #[.int .i64 x, .int .i64 y] W fun e w' => e = .returned (.int .i64 (Lib.compareInt x y)) ∧ w' = W := by
  have hn := fun x W => nan41 x W
  go_enter Try.func28, Try.ntmps28
  go_wp2_with (go_at_call 41; refine (hn _ _).mono ?_; rintro e w' ⟨rfl, hw⟩; rw [hw])
  all_goals (go_ret; refine ⟨?_, rfl⟩; unfold Lib.compareInt; (repeat' split) <;> first | rfl | (exfalso; omega))
theorem closure27 (x y : Int × Int) (W : World) : Calls Try.prog 27 #[.agg #[.int .i64 x.1, .int .i64 x.2], .agg #[.int .i64 y.1, .int .i64 y.2]] W fun e w' => e = .returned (.int .i64 (Lib.compareInt x.1 y.1)) ∧ ∃ q os', w' = grow (W.drewN q) os' := by
  have hcon := fun W' => cmp28 x.1 y.1 W'
  generalize Lib.compareInt x.1 y.1 = r at hcon ⊢
  go_enter Try.func27, Try.ntmps27
  go_wp2_with (go_at_call 28; refine (hcon _).mono ?_; rintro e w' ⟨rfl, rfl⟩)
  go_ret
  exact ⟨rfl, 0, _, by rw [alloc_eq_grow, alloc_eq_grow, grow_grow]; rfl⟩
theorem ltLo (x y : Int × Int) : ltOf (fun x y : Int × Int => Lib.compareInt x.1 y.1) x y = decide (x.1 < y.1) := by
  unfold ltOf Lib.compareInt
  by_cases h1 : x.1 < y.1
  · simp [h1]
  · by_cases h2 : y.1 < x.1 <;> simp [h1, h2]
theorem swoLo : SWO (ltOf fun x y : Int × Int => Lib.compareInt x.1 y.1) where
  irrefl x := by rw [ltLo]; simp
  trans x y z h1 h2 := by rw [ltLo] at *; simp at *; omega
  ntrans x y z h1 h2 := by rw [ltLo] at *; simp at *; omega
/-- What the sort makes of a row. -/
noncomputable def sortA (d : Array (Int × Int)) : Array (Int × Int) := pdq (ltOf fun x y : Int × Int => Lib.compareInt x.1 y.1) d 0 d.size (Lib.bitLen d.size) true true
noncomputable def sortS (l : List Sp) : List Sp := (sortA l.toArray).toList
theorem sort_facts (d : Array (Int × Int)) : PermIn 0 d.size d (sortA d) ∧ SortedIn (ltOf fun x y : Int × Int => Lib.compareInt x.1 y.1) 0 d.size (sortA d) :=
  pdq_sorts (ltOf fun x y : Int × Int => Lib.compareInt x.1 y.1) swoLo d 0 d.size (Lib.bitLen d.size) true true (Nat.zero_le _) (Nat.le_refl _) (Or.inl rfl)
theorem sortA_size (d : Array (Int × Int)) : (sortA d).size = d.size := (sort_facts d).1.1
theorem sortS_perm (l : List Sp) : (sortS l).Perm l := by
  have h := (sort_facts l.toArray).1.2.2
  have hs := sortA_size l.toArray
  have e1 : (sortA l.toArray).extract 0 l.toArray.size = sortA l.toArray := by rw [← hs]; simp
  have e2 : l.toArray.extract 0 l.toArray.size = l.toArray := by simp
  rw [e1, e2] at h
  simpa [sortS] using h
theorem sortS_len (l : List Sp) : (sortS l).length = l.length := (sortS_perm l).length_eq
theorem sortS_sorted (l : List Sp) : (sortS l).Pairwise fun a b => a.1 ≤ b.1 := by
  have h := (sort_facts l.toArray).2
  have hs := sortA_size l.toArray
  rw [List.pairwise_iff_getElem]
  intro i j hi hj hij
  have hi' : i < (sortA l.toArray).size := by simpa [sortS] using hi
  have hj' : j < (sortA l.toArray).size := by simpa [sortS] using hj
  have := h i j (Nat.zero_le _) hij (by rw [← hs]; exact hj')
  rw [ltLo, getElem!_pos _ i hi', getElem!_pos _ j hj'] at this
  simp at this
  simpa [sortS] using this
theorem sort_p (l : List Sp) (R : List (List D)) (hn : 0 < l.length + R.length) (hl : l.length ≤ 400000000000) :
    CallG Try.prog 26 [.own 0 0 l.length (l.length + R.length) 2 none, .fn 27 []] [⟨true, false, true, false, 2, rowsS l ++ R, none⟩] (.tup []) [⟨true, false, true, false, 2, rowsS (sortS l) ++ R, none⟩] := by
  have eg : ∀ args w, (callFunc 27 args).run Try.prog w = .ok (.enter 27 args) w := enters_of Try.func27 (by kernel_rfl) rfl
  have en : Vi.Enters Try.prog 26 := ⟨_, Try.func26, by kernel_rfl, by kernel_rfl⟩
  have h := CallG.sort (P := Try.prog) (f := 26) (g := 27) (d := l.toArray) (d' := sortA l.toArray) (R := R) (sortA_size _) (by simpa using hn) en (fun w b cap hH hblk =>
    AnyQ.slices_SortFunc_eq Try.sortS 2 Try.isAgg30 Try.sizeOf30 encS (fun _ => rfl) (fun x v hv => by simp [encS] at hv; rcases hv with rfl | rfl <;> rfl) (fun x y => Lib.compareInt x.1 y.1) swoLo 27 #[] b 0 cap l.toArray w eg (fun _ _ _ _ x y => closure27 x y _) hH hblk (by simp; omega))
  simpa [sortS] using h
theorem sortnone_p : CallG Try.prog 26 [.list none true [], .fn 27 []] [] (.tup []) [] := by
  have en : Vi.Enters Try.prog 26 := ⟨_, Try.func26, by kernel_rfl, by kernel_rfl⟩
  refine ⟨en, fun C vs hσ hi hrow => ?_⟩
  obtain ⟨hl, hr⟩ := hrow
  obtain ⟨v0, v1, rfl⟩ : ∃ v0 v1, vs = [v0, v1] := by
    match vs, hl with
    | [v0, v1], _ => exact ⟨v0, v1, rfl⟩
  have r0 := hr 0 _ v0 rfl rfl
  obtain ⟨p, rfl⟩ : ∃ p, v0 = .slice p 0 0 := by
    cases r0 with
    | pure h => cases h with
      | list nl tg rows A cap sz vf h1 h2 h3 h4 h5 h9 h6 h7 h8 =>
        have : cap = 0 := h4 rfl
        subst this
        exact ⟨A, rfl⟩
  have h : Calls Try.prog 26 #[.slice p 0 0, v1] C.w fun e w' => e = .returned (.tuple #[]) ∧ w' = C.w := AnyF.slices_SortFunc_none Try.sortS p 0 v1 C.w
  refine h.mono ?_
  rintro e w' ⟨rfl, rfl⟩
  exact ⟨_, C, .tup [], rfl, rfl, Ext.refl C, hi, .tup [] [] rfl (by simp), rfl, hσ⟩
end Go.Proofs.Ytmbhhhefojdmhaa
