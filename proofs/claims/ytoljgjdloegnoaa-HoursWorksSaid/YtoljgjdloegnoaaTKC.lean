import Derived.Test.YtoljgjdloegnoaaTSY
import Derived.Test.YtoljgjdloegnoaaTKB
import Derived.Test.YtoljgjdloegnoaaVi28
set_option linter.unusedVariables false
set_option linter.unusedSimpArgs false
set_option linter.unnecessarySimpa false
namespace Go.Proofs.Ytoljgjdloegnoaa
open Go Go.Vi Go.Shelf Go.RowKit Go.Lib Go.Sort
theorem nan41 (x : Int) (W : World) : Calls Try.prog 45 #[.int .i64 x] W fun e w' => e = .returned (.bool false) ∧ w' = W := by
  go_enter Try.func45, Try.ntmps45
  go_wp2
  all_goals (go_ret; refine ⟨?_, rfl⟩; simp)
theorem cmp28 (x y : Int) (W : World) : Calls Try.prog 38 #[.int .i64 x, .int .i64 y] W fun e w' => e = .returned (.int .i64 (Lib.compareInt x y)) ∧ w' = W := by
  have hn := fun x W => nan41 x W
  go_enter Try.func38, Try.ntmps38
  go_wp2_with (go_at_call 45; refine (hn _ _).mono ?_; rintro e w' ⟨rfl, hw⟩; rw [hw])
  all_goals (go_ret; refine ⟨?_, rfl⟩; unfold Lib.compareInt; (repeat' split) <;> first | rfl | (exfalso; omega))
theorem closure27 (x y : Int × Int) (W : World) : Calls Try.prog 37 #[.agg #[.int .i64 x.1, .int .i64 x.2], .agg #[.int .i64 y.1, .int .i64 y.2]] W fun e w' => e = .returned (.int .i64 (Lib.compareInt x.1 y.1)) ∧ ∃ q os', w' = grow (W.drewN q) os' := by
  have hcon := fun W' => cmp28 x.1 y.1 W'
  generalize Lib.compareInt x.1 y.1 = r at hcon ⊢
  go_enter Try.func37, Try.ntmps37
  go_wp2_with (go_at_call 38; refine (hcon _).mono ?_; rintro e w' ⟨rfl, rfl⟩)
  go_ret
  exact ⟨rfl, 0, _, by rw [alloc_eq_grow, alloc_eq_grow, grow_grow]; rfl⟩
theorem ltLo (x y : Int × Int) : ltOf (fun x y : Int × Int => Lib.compareInt x.1 y.1) x y = decide (x.1 < y.1) := by
  unfold ltOf Lib.compareInt
  by_cases h1 : x.1 < y.1
  · simp [h1]
  · by_cases h2 : y.1 < x.1 <;> simp [h1, h2]
theorem swoLo : SWO (ltOf fun x y : Int × Int => Lib.compareInt x.1 y.1) where
  irrefl x := by rw [ltLo]; simp
  trans x y z h1 h2 := by rw [ltLo] at *; simp at *; omega
  ntrans x y z h1 h2 := by rw [ltLo] at *; simp at *; omega
/-- What the sort makes of a row. -/
noncomputable def sortA (d : Array (Int × Int)) : Array (Int × Int) := pdq (ltOf fun x y : Int × Int => Lib.compareInt x.1 y.1) d 0 d.size (Lib.bitLen d.size) true true
noncomputable def sortS (l : List Sp) : List Sp := (sortA l.toArray).toList
theorem sort_facts (d : Array (Int × Int)) : PermIn 0 d.size d (sortA d) ∧ SortedIn (ltOf fun x y : Int × Int => Lib.compareInt x.1 y.1) 0 d.size (sortA d) :=
  pdq_sorts (ltOf fun x y : Int × Int => Lib.compareInt x.1 y.1) swoLo d 0 d.size (Lib.bitLen d.size) true true (Nat.zero_le _) (Nat.le_refl _) (Or.inl rfl)
theorem sortA_size (d : Array (Int × Int)) : (sortA d).size = d.size := (sort_facts d).1.1
theorem sortS_perm (l : List Sp) : (sortS l).Perm l := by
  have h := (sort_facts l.toArray).1.2.2
  have hs := sortA_size l.toArray
  have e1 : (sortA l.toArray).extract 0 l.toArray.size = sortA l.toArray := by rw [← hs]; simp
  have e2 : l.toArray.extract 0 l.toArray.size = l.toArray := by simp
  rw [e1, e2] at h
  simpa [sortS] using h
theorem sortS_len (l : List Sp) : (sortS l).length = l.length := (sortS_perm l).length_eq
theorem sortS_sorted (l : List Sp) : (sortS l).Pairwise fun a b => a.1 ≤ b.1 := by
  have h := (sort_facts l.toArray).2
  have hs := sortA_size l.toArray
  rw [List.pairwise_iff_getElem]
  intro i j hi hj hij
  have hi' : i < (sortA l.toArray).size := by simpa [sortS] using hi
  have hj' : j < (sortA l.toArray).size := by simpa [sortS] using hj
  have := h i j (Nat.zero_le _) hij (by rw [← hs]; exact hj')
  rw [ltLo, getElem!_pos _ i hi', getElem!_pos _ j hj'] at this
  simp at this
  simpa [sortS] using this
theorem sort_p (l : List Sp) (R : List (List D)) (hn : 0 < l.length + R.length) (hl : l.length ≤ 400000000000) :
    CallG Try.prog 36 [.own 0 0 l.length (l.length + R.length) 2 none, .fn 37 []] [⟨true, false, true, false, 2, rowsS l ++ R, none⟩] (.tup []) [⟨true, false, true, false, 2, rowsS (sortS l) ++ R, none⟩] := by
  have eg : ∀ args w, (callFunc 37 args).run Try.prog w = .ok (.enter 37 args) w := enters_of Try.func37 (by kernel_rfl) rfl
  have en : Vi.Enters Try.prog 36 := ⟨_, Try.func36, by kernel_rfl, by kernel_rfl⟩
  have h := CallG.sort (P := Try.prog) (f := 36) (g := 37) (d := l.toArray) (d' := sortA l.toArray) (R := R) (sortA_size _) (by simpa using hn) en (fun w b cap hH hblk =>
    AnyQ.slices_SortFunc_eq Try.sortS 2 Try.isAgg30 Try.sizeOf30 encS (fun _ => rfl) (fun x v hv => by simp [encS] at hv; rcases hv with rfl | rfl <;> rfl) (fun x y => Lib.compareInt x.1 y.1) swoLo 37 #[] b 0 cap l.toArray w eg (fun _ _ _ _ x y => closure27 x y _) hH hblk (by simp; omega))
  simpa [sortS] using h
theorem sortnone_p : CallG Try.prog 36 [.list none true [], .fn 37 []] [] (.tup []) [] := by
  have en : Vi.Enters Try.prog 36 := ⟨_, Try.func36, by kernel_rfl, by kernel_rfl⟩
  refine ⟨en, fun C vs hσ hi hrow => ?_⟩
  obtain ⟨hl, hr⟩ := hrow
  obtain ⟨v0, v1, rfl⟩ : ∃ v0 v1, vs = [v0, v1] := by
    match vs, hl with
    | [v0, v1], _ => exact ⟨v0, v1, rfl⟩
  have r0 := hr 0 _ v0 rfl rfl
  obtain ⟨p, rfl⟩ : ∃ p, v0 = .slice p 0 0 := by
    cases r0 with
    | pure h => cases h with
      | list nl tg rows A cap sz vf h1 h2 h3 h4 h5 h9 h6 h7 h8 =>
        have : cap = 0 := h4 rfl
        subst this
        exact ⟨A, rfl⟩
  have h : Calls Try.prog 36 #[.slice p 0 0, v1] C.w fun e w' => e = .returned (.tuple #[]) ∧ w' = C.w := AnyF.slices_SortFunc_none Try.sortS p 0 v1 C.w
  refine h.mono ?_
  rintro e w' ⟨rfl, rfl⟩
  exact ⟨_, C, .tup [], rfl, rfl, Ext.refl C, hi, .tup [] [] rfl (by simp), rfl, hσ⟩
end Go.Proofs.Ytoljgjdloegnoaa

namespace Go.Proofs.Ytoljgjdloegnoaa
open Go Go.Vi


abbrev LS (l : List Sp) : D := .list none false (rowsS l)
theorem can_snoc {o : List Sp} {s : Sp} (h : Vi.Can o) (h1 : ∀ c, o.getLast? = some c → c.2 < s.1) (h2 : s.1 < s.2) : Vi.Can (o ++ [s]) := by
  rcases List.eq_nil_or_concat o with rfl | ⟨o, c, rfl⟩
  · exact ⟨by simp, by simpa using h2⟩
  · rw [List.concat_eq_append] at h h1 ⊢
    have hc := h1 c (by simp)
    refine ⟨?_, ?_⟩
    · rw [List.pairwise_append]
      refine ⟨h.1, by simp, fun x hx y hy => ?_⟩
      obtain rfl : y = s := by simpa using hy
      rcases List.mem_append.1 hx with hx | hx
      · have h3 := (List.pairwise_append.1 h.1).2.2 x hx c (by simp)
        have h4 := h.2 c (by simp)
        omega
      · obtain rfl : x = c := by simpa using hx
        exact hc
    · intro x hx
      rcases List.mem_append.1 hx with hx | hx
      · exact h.2 x hx
      · obtain rfl : x = s := by simpa using hx
        exact h2
theorem b2 {x y : Int × Int} : ((x.1 == y.1) && (x.2 == y.2)) = decide (x = y) := by
  rw [Bool.eq_iff_iff]; simp [Prod.ext_iff]
theorem eq_end {α : Type} [DecidableEq α] {a b : List α} {i : Nat} (h : a.take i = b.take i) (hi : ¬ i < a.length) (hl : a.length = b.length) : decide (a = b) = true := by
  rw [List.take_of_length_le (by omega), List.take_of_length_le (by omega)] at h
  simpa using h
theorem eq_step {α : Type} {a b : List α} {i : Nat} {x y : α} (h : a.take i = b.take i) (hx : a[i]? = some x) (hy : b[i]? = some y) (hxy : x = y) : a.take (i + 1) = b.take (i + 1) := by
  rw [List.take_add_one, List.take_add_one, h, hx, hy, hxy]
theorem eq_no {α : Type} [DecidableEq α] {a b : List α} {i : Nat} {x y : α} (hx : a[i]? = some x) (hy : b[i]? = some y) (hxy : ¬ x = y) : decide (a = b) = false := by
  simp only [decide_eq_false_iff_not]
  rintro rfl
  rw [hx] at hy
  exact hxy (by simpa using hy)
theorem eq_len {α : Type} [DecidableEq α] {a b : List α} (h : ¬ a.length = b.length) : decide (a = b) = false := by
  simp only [decide_eq_false_iff_not]
  rintro rfl
  exact h rfl
theorem lenB {a b : Nat} (h : ¬ a = b) : ((a : Int) == (b : Int)) = false := by simp; omega
theorem Same_p (a b : List Sp) (ha : a.length ≤ 400000000000) (hb : b.length ≤ 400000000000) : PureD Try.prog 14 [LS a, LS b] (.bool (decide (a = b))) := by
  refine pureV Try.func14 low14 (by simp [c14]) ?_
  simp only [c14]
  by_cases hl : ¬ a.length = b.length
  · have c1 := lenB hl
    rw [eq_len hl]
    repeat' ((first | refine Run_seq ?_ | refine Run_skip ?_ | refine Run_block ?_ | refine Run_blk ?_ | refine Run_exit rfl ?_ | refine Run_ret ?_ | refine Run_nil ?_ | refine Run_condK ?_ | refine Run_ops mixed ?_ | refine Run_opsX mixed ?_ | with_reducible refine PostV_open ?_ | with_reducible refine PostG_open ?_ | with_reducible refine PostQ_open ?_ | with_reducible refine ro_callV ?_ | with_reducible refine ro_callVX ?_ | simp (disch := omega) only [w64, wu64, wu32, wu16, wu8, Int.tdiv_eq_ediv_of_nonneg, Int.tmod_eq_emod_of_nonneg] | (with_reducible refine SliceK_own rfl rfl ?_ ?_; (focus ((try simp only [row1_len, row2_len, row3_len, rowsS_len, reduceIte, Int.natCast_nonneg, Int.le_refl, List.length_append, List.length_map, Nat.sub_zero]) <;> ((repeat' (with_reducible refine And.intro ?_ ?_)) <;> first | exact trivial | assumption | (simp; done) | (simp only [List.length_map] at *; omega) | omega | (simp [D.cells, D.ok, D.one, D.pt, D.pt1]; done))))) | (refine GuardK_split (fun hc => ?_) (fun hc => ?_) <;> (try simp only [hc]) <;> (try simp at hc)) | (refine CondK_split (fun hc => ?_) (fun hc => ?_) <;> (try simp only [hc]) <;> (try simp at hc)) | (with_reducible refine And.intro ?_ ?_; (focus ((repeat' (with_reducible refine And.intro ?_ ?_)) <;> first | exact trivial | assumption | (simp; done) | (simp only [List.length_map] at *; omega) | omega | (simp [D.cells, D.ok, D.one, D.pt, D.pt1]; done)))) | (with_reducible intro x hx) | omega) <;> (try simp only [rowsS_len, ro_nil, ro_mov, ro_bin, ro_len, viewS_own', CondK_t, CondK_f, contP_some, lk_hit, lk_miss, Nat.reduceBEq, put_some, ev_t, ev_c, argEnv, reduceIte, binD, binInt, lenD, D.pt0, D.norm1, true_and, List.getElem?_nil, Nat.zero_add, view, view2, view1, view0, resK_nil, resK_tmp, ofRes]))
  have hl : a.length = b.length := by omega
  have c1 : ((a.length : Int) == (b.length : Int)) = true := by simp [hl]
  repeat' ((first | refine Run_seq ?_ | refine Run_skip ?_ | refine Run_block ?_ | refine Run_blk ?_ | refine Run_exit rfl ?_ | refine Run_ret ?_ | refine Run_nil ?_ | refine Run_condK ?_ | refine Run_ops mixed ?_ | refine Run_opsX mixed ?_ | with_reducible refine PostV_open ?_ | with_reducible refine PostG_open ?_ | with_reducible refine PostQ_open ?_ | with_reducible refine ro_callV ?_ | with_reducible refine ro_callVX ?_ | simp (disch := omega) only [w64, wu64, wu32, wu16, wu8, Int.tdiv_eq_ediv_of_nonneg, Int.tmod_eq_emod_of_nonneg] | (with_reducible refine SliceK_own rfl rfl ?_ ?_; (focus ((try simp only [row1_len, row2_len, row3_len, rowsS_len, reduceIte, Int.natCast_nonneg, Int.le_refl, List.length_append, List.length_map, Nat.sub_zero]) <;> ((repeat' (with_reducible refine And.intro ?_ ?_)) <;> first | exact trivial | assumption | (simp; done) | (simp only [List.length_map] at *; omega) | omega | (simp [D.cells, D.ok, D.one, D.pt, D.pt1]; done))))) | (refine GuardK_split (fun hc => ?_) (fun hc => ?_) <;> (try simp only [hc]) <;> (try simp at hc)) | (refine CondK_split (fun hc => ?_) (fun hc => ?_) <;> (try simp only [hc]) <;> (try simp at hc)) | (with_reducible refine And.intro ?_ ?_; (focus ((repeat' (with_reducible refine And.intro ?_ ?_)) <;> first | exact trivial | assumption | (simp; done) | (simp only [List.length_map] at *; omega) | omega | (simp [D.cells, D.ok, D.one, D.pt, D.pt1]; done)))) | (with_reducible intro x hx) | omega) <;> (try simp only [rowsS_len, ro_nil, ro_mov, ro_bin, ro_len, viewS_own', CondK_t, CondK_f, contP_some, lk_hit, lk_miss, Nat.reduceBEq, put_some, ev_t, ev_c, argEnv, reduceIte, binD, binInt, lenD, D.pt0, D.norm1, true_and, List.getElem?_nil, Nat.zero_add, view, view2, view1, view0, resK_nil, resK_tmp, ofRes, Option.some.injEq, D.bool.injEq]))
  refine Run_loop (ι := {i : Nat // i ≤ a.length ∧ a.take i = b.take i}) (fun i => ([(0, LS a), (1, LS b), (12, .int .i64 a.length), (13, .int .i64 i.1)], [])) (fun i => a.length - i.1) ⟨0, by simp⟩ ?_ ?_
  · refine Ent_gc [] (by rfl) (by simp) (by simp [keptW]) (by simp [lk_hit, lk_miss, D.pt0, viewS_own', pull, pull2, pull1, pull0, idx_nil, gate, List.mem_cons, or_false, view0])
  rintro ⟨i, hi, ht⟩ hk
  dsimp only at hk ⊢
  by_cases hlt : i < a.length
  · have c2 : ((i : Int) < (a.length : Int)) = True := by simp; omega
    obtain ⟨x, hx⟩ : ∃ x, a[i]? = some x := ⟨_, List.getElem?_eq_getElem hlt⟩
    obtain ⟨y, hy⟩ : ∃ y, b[i]? = some y := ⟨_, List.getElem?_eq_getElem (by omega)⟩
    have rx := rowsS_get hx
    have ry := rowsS_get hy
    have e3 := b2 (x := x) (y := y)
    by_cases hxy : x = y
    · have c3 : decide (x = y) = true := by simpa using hxy
      repeat' ((first | refine Run_seq ?_ | refine Run_skip ?_ | refine Run_block ?_ | refine Run_blk ?_ | refine Run_exit rfl ?_ | refine Run_ret ?_ | refine Run_nil ?_ | refine Run_condK ?_ | refine Run_ops mixed ?_ | refine Run_opsX mixed ?_ | with_reducible refine PostV_open ?_ | with_reducible refine PostG_open ?_ | with_reducible refine PostQ_open ?_ | with_reducible refine ro_callV ?_ | with_reducible refine ro_callVX ?_ | simp (disch := omega) only [w64] | (with_reducible refine SliceK_own rfl rfl ?_ ?_; (focus ((try simp only [row1_len, row2_len, row3_len, rowsS_len, reduceIte, Int.natCast_nonneg, Int.le_refl, List.length_append, List.length_map, Nat.sub_zero]) <;> ((repeat' (with_reducible refine And.intro ?_ ?_)) <;> first | exact trivial | assumption | (simp; done) | (simp only [List.length_map] at *; omega) | omega | (simp [D.cells, D.ok, D.one, D.pt, D.pt1]; done))))) | (refine GuardK_split (fun hc => ?_) (fun hc => ?_) <;> (try simp only [hc]) <;> (try simp at hc)) | (refine CondK_split (fun hc => ?_) (fun hc => ?_) <;> (try simp only [hc]) <;> (try simp at hc)) | (with_reducible refine And.intro ?_ ?_; (focus ((repeat' (with_reducible refine And.intro ?_ ?_)) <;> first | exact trivial | assumption | (simp; done) | (simp only [List.length_map] at *; omega) | omega | (simp [D.cells, D.ok, D.one, D.pt, D.pt1]; done)))) | (with_reducible intro x hx) | omega) <;> (try simp only [rowsS_len, c2, e3, c3, rx, ry, IaddrR_some, ro_nil, ro_mov, ro_bin, ro_eq, ro_load, LoadK_elt, ro_iaddr, IaddrK_list, IaddrR_some, eqO_row, rx_nil, rx_cons, keepK_nil, CondK_t, CondK_f, contP_some, lk_hit, lk_miss, Nat.reduceBEq, put_some, ev_t, ev_c, reduceIte, Nat.reduceAdd, binD, binInt, eqD, eqCell, eqCells, eqN, boolD, loadD, cond_true, true_and, and_self, Bool.and_true, Bool.not_true, List.length_cons, List.length_nil, List.take_succ_cons, List.take_nil, List.drop_zero, Nat.zero_add, Int.toNat_natCast, decide_true, Nat.le_refl, Int.natCast_nonneg]))
      refine hk ⟨i + 1, by omega, eq_step ht hx hy hxy⟩ _ _ (by dsimp only; omega) ?_
      dsimp only
      refine Ent_gc [] (by rfl) (by simp) (by simp [keptW]) (by simp [lk_hit, lk_miss, D.pt0, viewS_own', pull, pull2, pull1, pull0, idx_nil, gate, List.mem_cons, or_false, view0])
    · have c3 : decide (x = y) = false := by simpa using hxy
      rw [eq_no hx hy hxy]
      repeat' ((first | refine Run_seq ?_ | refine Run_skip ?_ | refine Run_block ?_ | refine Run_blk ?_ | refine Run_exit rfl ?_ | refine Run_ret ?_ | refine Run_nil ?_ | refine Run_condK ?_ | refine Run_ops mixed ?_ | refine Run_opsX mixed ?_ | with_reducible refine PostV_open ?_ | with_reducible refine PostG_open ?_ | with_reducible refine PostQ_open ?_ | with_reducible refine ro_callV ?_ | with_reducible refine ro_callVX ?_ | simp (disch := omega) only [w64, wu64, wu32, wu16, wu8, Int.tdiv_eq_ediv_of_nonneg, Int.tmod_eq_emod_of_nonneg] | (with_reducible refine SliceK_own rfl rfl ?_ ?_; (focus ((try simp only [row1_len, row2_len, row3_len, rowsS_len, reduceIte, Int.natCast_nonneg, Int.le_refl, List.length_append, List.length_map, Nat.sub_zero]) <;> ((repeat' (with_reducible refine And.intro ?_ ?_)) <;> first | exact trivial | assumption | (simp; done) | (simp only [List.length_map] at *; omega) | omega | (simp [D.cells, D.ok, D.one, D.pt, D.pt1]; done))))) | (refine GuardK_split (fun hc => ?_) (fun hc => ?_) <;> (try simp only [hc]) <;> (try simp at hc)) | (refine CondK_split (fun hc => ?_) (fun hc => ?_) <;> (try simp only [hc]) <;> (try simp at hc)) | (with_reducible refine And.intro ?_ ?_; (focus ((repeat' (with_reducible refine And.intro ?_ ?_)) <;> first | exact trivial | assumption | (simp; done) | (simp only [List.length_map] at *; omega) | omega | (simp [D.cells, D.ok, D.one, D.pt, D.pt1]; done)))) | (with_reducible intro x hx) | omega) <;> (try simp only [rowsS_len, c2, e3, c3, rx, ry, IaddrR_some, ro_nil, ro_mov, ro_bin, ro_eq, ro_load, LoadK_elt, ro_iaddr, IaddrK_list, IaddrR_some, viewS_own', eqO_row, rx_nil, rx_cons, keepK_nil, CondK_t, contP_some, lk_hit, lk_miss, Nat.reduceBEq, put_some, ev_t, ev_c, reduceIte, Nat.reduceAdd, binD, binInt, eqD, eqCell, eqCells, eqN, boolD, loadD, D.pt0, D.norm1, cond_true, true_and, and_self, Bool.and_true, Bool.not_false, List.getElem?_nil, List.length_cons, List.length_nil, List.take_succ_cons, List.take_nil, List.drop_zero, Nat.zero_add, Int.toNat_natCast, decide_true, Nat.le_refl, Int.natCast_nonneg, view, view2, view1, view0, resK_nil, resK_tmp, ofRes]))
  · have c2 : ((i : Int) < (a.length : Int)) = False := by simp; omega
    rw [eq_end ht hlt hl]
    repeat' ((first | refine Run_seq ?_ | refine Run_skip ?_ | refine Run_block ?_ | refine Run_blk ?_ | refine Run_exit rfl ?_ | refine Run_ret ?_ | refine Run_nil ?_ | refine Run_condK ?_ | refine Run_ops mixed ?_ | refine Run_opsX mixed ?_ | with_reducible refine PostV_open ?_ | with_reducible refine PostG_open ?_ | with_reducible refine PostQ_open ?_ | with_reducible refine ro_callV ?_ | with_reducible refine ro_callVX ?_ | simp (disch := omega) only [w64, wu64, wu32, wu16, wu8, Int.tdiv_eq_ediv_of_nonneg, Int.tmod_eq_emod_of_nonneg] | (with_reducible refine SliceK_own rfl rfl ?_ ?_; (focus ((try simp only [row1_len, row2_len, row3_len, rowsS_len, reduceIte, Int.natCast_nonneg, Int.le_refl, List.length_append, List.length_map, Nat.sub_zero]) <;> ((repeat' (with_reducible refine And.intro ?_ ?_)) <;> first | exact trivial | assumption | (simp; done) | (simp only [List.length_map] at *; omega) | omega | (simp [D.cells, D.ok, D.one, D.pt, D.pt1]; done))))) | (refine GuardK_split (fun hc => ?_) (fun hc => ?_) <;> (try simp only [hc]) <;> (try simp at hc)) | (refine CondK_split (fun hc => ?_) (fun hc => ?_) <;> (try simp only [hc]) <;> (try simp at hc)) | (with_reducible refine And.intro ?_ ?_; (focus ((repeat' (with_reducible refine And.intro ?_ ?_)) <;> first | exact trivial | assumption | (simp; done) | (simp only [List.length_map] at *; omega) | omega | (simp [D.cells, D.ok, D.one, D.pt, D.pt1]; done)))) | (with_reducible intro x hx) | omega) <;> (try simp only [c2, ro_nil, ro_mov, ro_bin, viewS_own', CondK_f, contP_some, lk_hit, lk_miss, Nat.reduceBEq, put_some, ev_t, ev_c, reduceIte, binD, binInt, D.pt0, D.norm1, true_and, List.getElem?_nil, decide_false, view, view2, view1, view0, resK_nil, resK_tmp, ofRes]))
def winB (b : Int) (ts : List Tn) (sh : List Sf) (off : List Int) (w : Sp) (m : Int) : Bool := decide (w.1 ≤ m ∧ m < w.2) && workB b ts sh off m
/-- What is found up to a minute, minute by minute. -/
structure Scan (f : Int → Bool) (w1 m : Int) (out : List Sp) (opn : Bool) (frm : Int) : Prop where
  can : Vi.Can out
  has : ∀ x, hasS out x = (decide (x < (if opn = true then frm else m)) && f x)
  opn_ : opn = true → w1 ≤ frm ∧ frm < m ∧ ∀ x, frm ≤ x → x < m → f x = true
  end_ : ∀ p ∈ out, p.2 < (if opn = true then frm else m)
  len : (out.length : Int) ≤ m - w1
  ge : w1 ≤ m
theorem Scan.zero (f : Int → Bool) (w1 : Int) (h : ∀ x, x < w1 → f x = false) : Scan f w1 w1 [] false 0 where
  can := by simp [Vi.Can]
  has x := by
    rw [hasS_nil]
    by_cases hx : x < w1
    · simp [h x hx]
    · simp [hx]
  opn_ := by simp
  end_ := by simp
  len := by simp
  ge := Int.le_refl _
theorem Scan.begin {f : Int → Bool} {w1 m : Int} {out : List Sp} {frm : Int} (h : Scan f w1 m out false frm) (hf : f m = true) : Scan f w1 (m + 1) out true m where
  can := h.can
  has x := by have := h.has x; simpa using this
  opn_ _ := ⟨h.ge, by omega, fun x h1 h2 => by obtain rfl : x = m := by omega
                                               exact hf⟩
  end_ p hp := by have := h.end_ p hp; simpa using this
  len := by have := h.len; omega
  ge := by have := h.ge; omega
theorem Scan.on {f : Int → Bool} {w1 m : Int} {out : List Sp} {frm : Int} (h : Scan f w1 m out true frm) (hf : f m = true) : Scan f w1 (m + 1) out true frm where
  can := h.can
  has x := by have := h.has x; simpa using this
  opn_ _ := by
    obtain ⟨h1, h2, h3⟩ := h.opn_ rfl
    refine ⟨h1, by omega, fun x hx hy => ?_⟩
    by_cases e : x = m
    · rw [e]; exact hf
    · exact h3 x hx (by omega)
  end_ p hp := by have := h.end_ p hp; simpa using this
  len := by have := h.len; omega
  ge := by have := h.ge; omega
theorem Scan.off {f : Int → Bool} {w1 m : Int} {out : List Sp} {frm : Int} (h : Scan f w1 m out false frm) (hf : f m = false) : Scan f w1 (m + 1) out false frm where
  can := h.can
  has x := by
    have := h.has x
    rw [this, Bool.eq_iff_iff]
    simp only [Bool.false_eq_true, if_false, Bool.and_eq_true, decide_eq_true_eq]
    constructor
    · rintro ⟨h1, h2⟩; exact ⟨by omega, h2⟩
    · rintro ⟨h1, h2⟩
      refine ⟨?_, h2⟩
      by_cases e : x = m
      · rw [e, hf] at h2; cases h2
      · omega
  opn_ := by simp
  end_ p hp := by have := h.end_ p hp; simp only [Bool.false_eq_true, if_false] at this ⊢; omega
  len := by have := h.len; omega
  ge := by have := h.ge; omega
theorem Scan.close {f : Int → Bool} {w1 m : Int} {out : List Sp} {frm : Int} (h : Scan f w1 m out true frm) (hf : f m = false) : Scan f w1 (m + 1) (out ++ [(frm, m)]) false frm where
  can := by
    obtain ⟨h1, h2, h3⟩ := h.opn_ rfl
    refine can_snoc h.can (fun c hc => ?_) h2
    have := h.end_ c (List.mem_of_getLast? hc)
    simpa using this
  has x := by
    obtain ⟨h1, h2, h3⟩ := h.opn_ rfl
    have := h.has x
    rw [hasS_app, this, Bool.eq_iff_iff]
    simp only [Bool.false_eq_true, if_false, if_true, Bool.and_eq_true, Bool.or_eq_true, decide_eq_true_eq, hasS_cons, hasS_nil, inS, Bool.or_false]
    constructor
    · rintro (⟨q1, q2⟩ | ⟨q1, q2⟩)
      · exact ⟨by omega, q2⟩
      · exact ⟨by omega, h3 x q1 q2⟩
    · rintro ⟨q1, q2⟩
      by_cases hx : x < frm
      · exact .inl ⟨hx, q2⟩
      · refine .inr ⟨by omega, ?_⟩
        by_cases e : x = m
        · rw [e, hf] at q2; cases q2
        · omega
  opn_ := by simp
  end_ p hp := by
    obtain ⟨h1, h2, h3⟩ := h.opn_ rfl
    simp only [Bool.false_eq_true, if_false]
    rcases List.mem_append.1 hp with hp | hp
    · have := h.end_ p hp
      simp only [if_true] at this
      omega
    · obtain rfl : p = (frm, m) := by simpa using hp
      show m < m + 1
      omega
  len := by have := h.len; rw [List.length_append, List.length_cons, List.length_nil]; omega
  ge := by have := h.ge; omega
theorem Scan.done {f : Int → Bool} {w1 w2 m : Int} {out : List Sp} {opn : Bool} {frm : Int} (h : Scan f w1 m out opn frm) (hf : ∀ x, f x = true → w1 ≤ x ∧ x < w2) (hm : w2 < m) : canOf f = out := by
  have ho : opn = false := by
    cases opn with
    | false => rfl
    | true =>
      obtain ⟨h1, h2, h3⟩ := h.opn_ rfl
      have := hf (m - 1) (h3 (m - 1) (by omega) (by omega))
      omega
  subst ho
  refine canOf_eq h.can fun x => ?_
  rw [h.has x]
  simp only [Bool.false_eq_true, if_false]
  cases hx : f x with
  | false => simp
  | true => have := hf x hx; simp; omega
theorem winB_in {b : Int} {ts : List Tn} {sh : List Sf} {off : List Int} {w : Sp} {x : Int} (h : winB b ts sh off w x = true) : w.1 ≤ x ∧ x < w.2 := by
  simp only [winB, Bool.and_eq_true, decide_eq_true_eq] at h
  exact h.1
set_option maxHeartbeats 4000000 in
theorem refSpans_p (b : Int) (ts : List Tn) (sh : List Sf) (off : List Int) (w : Sp) (hz : zoneB b ts = true) (hh : hoursB sh off = true) (w1 : -1073741824 ≤ w.1) (w2 : w.2 ≤ 1073741824) (w3 : w.1 < w.2) (w4 : w.2 - w.1 ≤ 57600) :
    PureD Try.prog 15 [Zn b ts, .agg (Hr sh off), .agg [.int .i64 w.1, .int .i64 w.2]] (LS (canOf (winB b ts sh off w))) := by
  refine pureV Try.func15 low15 (by simp [c15]) ?_
  simp only [c15]
  have zo := zoneOk hz
  have ho := hoursOk hh
  have zm := refZone_p b ts (by have := zo.len; omega)
  have hm := refHours_p sh off (by have := ho.l1; omega) (by have := ho.l2; omega)
  rw [hz] at zm
  rw [hh] at hm
  repeat' ((first | refine Run_seq ?_ | refine Run_skip ?_ | refine Run_block ?_ | refine Run_blk ?_ | refine Run_exit rfl ?_ | refine Run_ret ?_ | refine Run_nil ?_ | refine Run_condK ?_ | refine Run_ops mixed ?_ | refine Run_opsX mixed ?_ | with_reducible refine PostV_open ?_ | with_reducible refine PostG_open ?_ | with_reducible refine PostQ_open ?_ | with_reducible refine ro_callV ?_ | with_reducible refine ro_callVX ?_ | refine CallV_pure (zm) ?_ ?_ | refine CallV_pure (hm) ?_ ?_ | simp (disch := omega) only [w64, wu64, wu32, wu16, wu8, Int.tdiv_eq_ediv_of_nonneg, Int.tmod_eq_emod_of_nonneg] | (with_reducible refine SliceK_own rfl rfl ?_ ?_; (focus ((try simp only [row1_len, row2_len, row3_len, rowsS_len, reduceIte, Int.natCast_nonneg, Int.le_refl, List.length_append, List.length_map, Nat.sub_zero]) <;> ((repeat' (with_reducible refine And.intro ?_ ?_)) <;> first | exact trivial | assumption | (simp; done) | (simp only [List.length_map] at *; omega) | omega | (simp [D.cells, D.ok, D.one, D.pt, D.pt1]; done))))) | (refine GuardK_split (fun hc => ?_) (fun hc => ?_) <;> (try simp only [hc]) <;> (try simp at hc)) | (refine CondK_split (fun hc => ?_) (fun hc => ?_) <;> (try simp only [hc]) <;> (try simp at hc)) | (with_reducible refine And.intro ?_ ?_; (focus ((repeat' (with_reducible refine And.intro ?_ ?_)) <;> first | exact trivial | assumption | (simp; done) | (simp only [List.length_map] at *; omega) | omega | (simp [D.cells, D.ok, D.one, D.pt, D.pt1]; done)))) | (with_reducible intro x hx) | omega) <;> (try simp only [ro_nil, ro_mov, ro_pick, ro_slit, SlitK_t, ro_un, ro_faddr, ro_load, LoadK_ptr, LoadO_some, LoadR_some, ro_box, ro_guard, GuardK_ff, CondK_f, contP_some, lk_hit, lk_miss, Nat.reduceBEq, put_some, ev_t, ev_c, argEnv, reduceIte, Nat.reduceAdd, reduceCtorEq, okD, unD, pickD, faddrD, loadD, D.cells, D.ok, D.one, D.pt, D.pt1, D.pt0, D.norm1, cond_false, true_and, and_self, Bool.and_true, Bool.not_true, Bool.or_true, List.getElem?_cons_zero, List.getElem?_cons_succ, List.length_cons, List.length_nil, List.take_succ_cons, List.take_nil, List.drop_zero, List.cons_append, List.nil_append, List.append_nil, List.map_cons, List.map_nil, List.all_cons, List.all_nil, List.not_mem_nil, false_imp_iff, implies_true, ne_eq, not_false_eq_true, Option.map_some, Nat.zero_add, Nat.add_zero, Nat.le_refl, Nat.lt_add_one, Nat.zero_lt_succ, view, view2, view1, view0, mapO, capsD_fn, D.sc, D.sc1, D.sc2]))
  refine Run_ent (Ent_acc (t := 7) (b := false) 2 true (by decide) rfl) ?_
  refine Run_loop (ι := {p : Int × List Sp × Bool × Int // Scan (winB b ts sh off w) w.1 p.1 p.2.1 p.2.2.1 p.2.2.2 ∧ p.1 ≤ w.2 + 1}) (fun p => ([(3, .ptr 1 0 0 1), (4, .ptr 2 0 0 1), (5, .ptr 3 0 0 1), (7, .own 0 0 p.1.2.1.length p.1.2.1.length 2 none), (8, .bool p.1.2.2.1), (9, .int .i64 p.1.2.2.2), (10, .int .i64 p.1.1)],
    [acc false 2 true (rowsS p.1.2.1), ⟨true, false, true, false, 2, [[.int .i64 b, L (row2 .i64 .i64 ts)]], some 0⟩, ⟨true, false, true, false, 2, [Hr sh off], some 0⟩, ⟨true, false, true, false, 2, [[.int .i64 w.1, .int .i64 w.2]], some 0⟩])) (fun p => (w.2 + 1 - p.1.1).toNat) ⟨(w.1, [], false, 0), Scan.zero _ _ (fun x hx => by simp [winB]; omega), by dsimp only; omega⟩ ?_ ?_
  · dsimp only
    simp only [show rowsS [] = [] from rfl, List.length_nil]
    refine Ent_gc [3, 0, 1, 2] (by rfl) (by simp) (by simp [keptW, ObKW, ObW, imp_self, acc_real, acc_nl, acc_pure, acc_fz, acc_sz, acc_rows, acc_spare, pullOb, or_false]) (by simp [lk_hit, lk_miss, D.pt0, viewS_own', pull, pull2, pull1, pull0, idx_hit, idx_miss, sucO_some, gate, List.mem_cons, or_false, view0])
    skip
  rintro ⟨⟨m, out, opn, frm⟩, hs, hle⟩ hk
  dsimp only at hs hle hk ⊢
  have hge := hs.ge
  have hln := hs.len
  have hout : out.length ≤ 60000 := by omega
  by_cases hmw : m ≤ w.2
  · have c1 : (m ≤ w.2) = True := by simpa using hmw
    have rw_ := refWorks_p b ts sh off m hz hh
    by_cases hlt : m < w.2
    · have c2 : (m < w.2) = True := by simpa using hlt
      have hwin : winB b ts sh off w m = workB b ts sh off m := by
        unfold winB
        rw [decide_eq_true ⟨hge, hlt⟩, Bool.true_and]
      cases hwk : workB b ts sh off m
      · rw [hwk] at rw_ hwin
        cases opn
        · have hn := hs.off hwin
          repeat' ((first | refine Run_seq ?_ | refine Run_skip ?_ | refine Run_block ?_ | refine Run_blk ?_ | refine Run_exit rfl ?_ | refine Run_ret ?_ | refine Run_nil ?_ | refine Run_condK ?_ | refine Run_ops mixed ?_ | refine Run_opsX mixed ?_ | with_reducible refine PostV_open ?_ | with_reducible refine PostG_open ?_ | with_reducible refine PostQ_open ?_ | with_reducible refine ro_callV ?_ | with_reducible refine ro_callVX ?_ | refine CallV_pure (rw_) ?_ ?_ | simp (disch := omega) only [w64] | (with_reducible refine SliceK_own rfl rfl ?_ ?_; (focus ((try simp only [row1_len, row2_len, row3_len, rowsS_len, reduceIte, Int.natCast_nonneg, Int.le_refl, List.length_append, List.length_map, Nat.sub_zero]) <;> ((repeat' (with_reducible refine And.intro ?_ ?_)) <;> first | exact trivial | assumption | (simp; done) | (simp only [List.length_map] at *; omega) | omega | (simp [D.cells, D.ok, D.one, D.pt, D.pt1]; done))))) | (refine GuardK_split (fun hc => ?_) (fun hc => ?_) <;> (try simp only [hc]) <;> (try simp at hc)) | (refine CondK_split (fun hc => ?_) (fun hc => ?_) <;> (try simp only [hc]) <;> (try simp at hc)) | (with_reducible refine And.intro ?_ ?_; (focus ((repeat' (with_reducible refine And.intro ?_ ?_)) <;> first | exact trivial | assumption | (simp; done) | (simp only [List.length_map] at *; omega) | omega | (simp [D.cells, D.ok, D.one, D.pt, D.pt1]; done)))) | (with_reducible intro x hx) | omega) <;> (try simp only [c1, c2, ro_nil, ro_mov, ro_pick, ro_bin, ro_faddr, ro_load, LoadK_ptr, LoadO_some, LoadR_some, ro_guard, GuardK_tt, GuardK_ft, CondK_t, CondK_f, contP_some, lk_hit, lk_miss, Nat.reduceBEq, put_some, ev_t, ev_c, reduceIte, Nat.reduceAdd, binD, binInt, pickD, faddrD, loadD, D.pt, D.pt1, D.pt0, D.norm1, cond_true, cond_false, true_and, and_self, Bool.and_true, Bool.or_true, List.getElem?_cons_zero, List.getElem?_cons_succ, List.length_cons, List.length_nil, List.take_succ_cons, List.take_nil, List.drop_zero, List.append_nil, List.map_cons, List.map_nil, List.all_cons, List.all_nil, Option.map_some, Nat.zero_add, decide_true, Nat.le_refl, Nat.lt_add_one, view, view2, view1, view0, mapO, capsD_fn, D.sc, D.sc1, D.sc2]))
          refine hk ⟨(m + 1, out, false, frm), hn, by dsimp only; omega⟩ _ _ (by dsimp only; omega) ?_
          dsimp only
          refine Ent_gc [0, 1, 2, 3] (by rfl) (by simp) (by simp [keptW, ObKW, ObW, imp_self, acc_real, acc_nl, acc_pure, acc_fz, acc_sz, acc_rows, acc_spare, pullOb, or_false]) (by simp [lk_hit, lk_miss, D.pt0, viewS_own', pull, pull2, pull1, pull0, idx_hit, idx_miss, sucO_some, gate, List.mem_cons, or_false, view0])
        · have hn := hs.close hwin
          have hu := snocK out frm m
          repeat' ((first | refine Run_seq ?_ | refine Run_skip ?_ | refine Run_block ?_ | refine Run_blk ?_ | refine Run_exit rfl ?_ | refine Run_ret ?_ | refine Run_nil ?_ | refine Run_condK ?_ | refine Run_ops mixed ?_ | refine Run_opsX mixed ?_ | with_reducible refine PostV_open ?_ | with_reducible refine PostG_open ?_ | with_reducible refine PostQ_open ?_ | with_reducible refine ro_callV ?_ | with_reducible refine ro_callVX ?_ | refine CallV_pure (rw_) ?_ ?_ | simp (disch := omega) only [w64] | (with_reducible refine SliceK_own rfl rfl ?_ ?_; (focus ((try simp only [row1_len, row2_len, row3_len, rowsS_len, reduceIte, Int.natCast_nonneg, Int.le_refl, List.length_append, List.length_map, Nat.sub_zero]) <;> ((repeat' (with_reducible refine And.intro ?_ ?_)) <;> first | exact trivial | assumption | (simp; done) | (simp only [List.length_map] at *; omega) | omega | (simp [D.cells, D.ok, D.one, D.pt, D.pt1]; done))))) | (refine GuardK_split (fun hc => ?_) (fun hc => ?_) <;> (try simp only [hc]) <;> (try simp at hc)) | (refine CondK_split (fun hc => ?_) (fun hc => ?_) <;> (try simp only [hc]) <;> (try simp at hc)) | (with_reducible refine And.intro ?_ ?_; (focus ((repeat' (with_reducible refine And.intro ?_ ?_)) <;> first | exact trivial | assumption | (simp; done) | (simp only [List.length_map] at *; omega) | omega | (simp [D.one]; done)))) | (with_reducible intro x hx) | omega) <;> (try simp only [rowsS_len, c1, c2, hu, ro_nil, ro_mov, ro_pick, ro_build, ro_slit, SlitK_t, ro_bin, ro_un, ro_faddr, ro_load, LoadK_ptr, LoadO_some, LoadR_some, ro_app, newsD_list, AppN_some, AppS_own, AppO_acc, ro_guard, GuardK_tt, GuardK_ft, CondK_t, CondK_f, contP_some, lk_hit, lk_miss, Nat.reduceBEq, put_some, ev_t, ev_c, reduceIte, Nat.reduceAdd, Nat.reduceLeDiff, binD, binInt, okD, aggD, unD, pickD, faddrD, loadD, fillD, splice, D.cells, D.ok, D.one, D.pt, D.pt1, D.pt0, D.norm1, cond_true, cond_false, true_and, and_true, and_self, Bool.and_true, Bool.not_false, Bool.or_true, List.getElem?_cons_zero, List.getElem?_cons_succ, List.length_cons, List.length_nil, List.take_succ_cons, List.take_zero, List.take_nil, List.drop_succ_cons, List.drop_zero, List.drop_nil, List.cons_append, List.nil_append, List.append_nil, List.map_cons, List.map_nil, List.all_cons, List.all_nil, List.set_cons_zero, List.not_mem_nil, Option.map_some, Nat.zero_add, decide_true, Nat.le_refl, Nat.lt_add_one, Nat.zero_lt_succ, view, view2, view1, view0, mapO, capsD_fn, D.sc, D.sc1, D.sc2, List.mem_cons, or_false]))
          refine hk ⟨(m + 1, out ++ [(frm, m)], false, frm), hn, by dsimp only; omega⟩ _ _ (by dsimp only; omega) ?_
          dsimp only
          simp only [List.length_append, List.length_cons, List.length_nil]
          refine Ent_gc [0, 1, 2, 3] (by rfl) (by simp) (by simp [keptW, ObKW, ObW, imp_self, acc_real, acc_nl, acc_pure, acc_fz, acc_sz, acc_rows, acc_spare, pullOb, or_false]) (by simp [lk_hit, lk_miss, D.pt0, viewS_own', pull, pull2, pull1, pull0, idx_hit, idx_miss, sucO_some, gate, List.mem_cons, or_false, view0])
      · rw [hwk] at rw_ hwin
        cases opn
        · have hn := hs.begin hwin
          repeat' ((first | refine Run_seq ?_ | refine Run_skip ?_ | refine Run_block ?_ | refine Run_blk ?_ | refine Run_exit rfl ?_ | refine Run_ret ?_ | refine Run_nil ?_ | refine Run_condK ?_ | refine Run_ops mixed ?_ | refine Run_opsX mixed ?_ | with_reducible refine PostV_open ?_ | with_reducible refine PostG_open ?_ | with_reducible refine PostQ_open ?_ | with_reducible refine ro_callV ?_ | with_reducible refine ro_callVX ?_ | refine CallV_pure (rw_) ?_ ?_ | simp (disch := omega) only [w64] | (with_reducible refine SliceK_own rfl rfl ?_ ?_; (focus ((try simp only [row1_len, row2_len, row3_len, rowsS_len, reduceIte, Int.natCast_nonneg, Int.le_refl, List.length_append, List.length_map, Nat.sub_zero]) <;> ((repeat' (with_reducible refine And.intro ?_ ?_)) <;> first | exact trivial | assumption | (simp; done) | (simp only [List.length_map] at *; omega) | omega | (simp [D.cells, D.ok, D.one, D.pt, D.pt1]; done))))) | (refine GuardK_split (fun hc => ?_) (fun hc => ?_) <;> (try simp only [hc]) <;> (try simp at hc)) | (refine CondK_split (fun hc => ?_) (fun hc => ?_) <;> (try simp only [hc]) <;> (try simp at hc)) | (with_reducible refine And.intro ?_ ?_; (focus ((repeat' (with_reducible refine And.intro ?_ ?_)) <;> first | exact trivial | assumption | (simp; done) | (simp only [List.length_map] at *; omega) | omega | (simp [D.cells, D.ok, D.one, D.pt, D.pt1]; done)))) | (with_reducible intro x hx) | omega) <;> (try simp only [c1, c2, ro_nil, ro_mov, ro_pick, ro_bin, ro_un, ro_faddr, ro_load, LoadK_ptr, LoadO_some, LoadR_some, ro_guard, GuardK_tt, GuardK_ft, CondK_t, CondK_f, contP_some, lk_hit, lk_miss, Nat.reduceBEq, put_some, ev_t, ev_c, reduceIte, Nat.reduceAdd, binD, binInt, okD, unD, pickD, faddrD, loadD, D.pt, D.pt1, D.pt0, D.norm1, cond_true, cond_false, true_and, and_self, Bool.and_true, Bool.not_false, Bool.or_true, List.getElem?_cons_zero, List.getElem?_cons_succ, List.length_cons, List.length_nil, List.take_succ_cons, List.take_nil, List.drop_zero, List.append_nil, List.map_cons, List.map_nil, List.all_cons, List.all_nil, Option.map_some, Nat.zero_add, decide_true, Nat.le_refl, Nat.lt_add_one, view, view2, view1, view0, mapO, capsD_fn, D.sc, D.sc1, D.sc2]))
          refine hk ⟨(m + 1, out, true, m), hn, by dsimp only; omega⟩ _ _ (by dsimp only; omega) ?_
          dsimp only
          refine Ent_gc [0, 1, 2, 3] (by rfl) (by simp) (by simp [keptW, ObKW, ObW, imp_self, acc_real, acc_nl, acc_pure, acc_fz, acc_sz, acc_rows, acc_spare, pullOb, or_false]) (by simp [lk_hit, lk_miss, D.pt0, viewS_own', pull, pull2, pull1, pull0, idx_hit, idx_miss, sucO_some, gate, List.mem_cons, or_false, view0])
        · have hn := hs.on hwin
          repeat' ((first | refine Run_seq ?_ | refine Run_skip ?_ | refine Run_block ?_ | refine Run_blk ?_ | refine Run_exit rfl ?_ | refine Run_ret ?_ | refine Run_nil ?_ | refine Run_condK ?_ | refine Run_ops mixed ?_ | refine Run_opsX mixed ?_ | with_reducible refine PostV_open ?_ | with_reducible refine PostG_open ?_ | with_reducible refine PostQ_open ?_ | with_reducible refine ro_callV ?_ | with_reducible refine ro_callVX ?_ | refine CallV_pure (rw_) ?_ ?_ | simp (disch := omega) only [w64] | (with_reducible refine SliceK_own rfl rfl ?_ ?_; (focus ((try simp only [row1_len, row2_len, row3_len, rowsS_len, reduceIte, Int.natCast_nonneg, Int.le_refl, List.length_append, List.length_map, Nat.sub_zero]) <;> ((repeat' (with_reducible refine And.intro ?_ ?_)) <;> first | exact trivial | assumption | (simp; done) | (simp only [List.length_map] at *; omega) | omega | (simp [D.cells, D.ok, D.one, D.pt, D.pt1]; done))))) | (refine GuardK_split (fun hc => ?_) (fun hc => ?_) <;> (try simp only [hc]) <;> (try simp at hc)) | (refine CondK_split (fun hc => ?_) (fun hc => ?_) <;> (try simp only [hc]) <;> (try simp at hc)) | (with_reducible refine And.intro ?_ ?_; (focus ((repeat' (with_reducible refine And.intro ?_ ?_)) <;> first | exact trivial | assumption | (simp; done) | (simp only [List.length_map] at *; omega) | omega | (simp [D.cells, D.ok, D.one, D.pt, D.pt1]; done)))) | (with_reducible intro x hx) | omega) <;> (try simp only [c1, c2, ro_nil, ro_mov, ro_pick, ro_bin, ro_un, ro_faddr, ro_load, LoadK_ptr, LoadO_some, LoadR_some, ro_guard, GuardK_tt, CondK_t, CondK_f, contP_some, lk_hit, lk_miss, Nat.reduceBEq, put_some, ev_t, ev_c, reduceIte, Nat.reduceAdd, binD, binInt, okD, unD, pickD, faddrD, loadD, D.pt, D.pt1, D.pt0, D.norm1, cond_true, true_and, and_self, Bool.and_true, Bool.not_true, Bool.or_true, List.getElem?_cons_zero, List.getElem?_cons_succ, List.length_cons, List.length_nil, List.take_succ_cons, List.take_nil, List.drop_zero, List.append_nil, List.map_cons, List.map_nil, List.all_cons, List.all_nil, Option.map_some, Nat.zero_add, decide_true, Nat.le_refl, Nat.lt_add_one, view, view2, view1, view0, mapO, capsD_fn, D.sc, D.sc1, D.sc2]))
          refine hk ⟨(m + 1, out, true, frm), hn, by dsimp only; omega⟩ _ _ (by dsimp only; omega) ?_
          dsimp only
          refine Ent_gc [0, 1, 2, 3] (by rfl) (by simp) (by simp [keptW, ObKW, ObW, imp_self, acc_real, acc_nl, acc_pure, acc_fz, acc_sz, acc_rows, acc_spare, pullOb, or_false]) (by simp [lk_hit, lk_miss, D.pt0, viewS_own', pull, pull2, pull1, pull0, idx_hit, idx_miss, sucO_some, gate, List.mem_cons, or_false, view0])
    · have c2 : (m < w.2) = False := by simpa using hlt
      have hwin : winB b ts sh off w m = false := by
        rw [Bool.eq_false_iff]; intro h
        have := winB_in h
        omega
      cases opn
      · have hn := hs.off hwin
        repeat' ((first | refine Run_seq ?_ | refine Run_skip ?_ | refine Run_block ?_ | refine Run_blk ?_ | refine Run_exit rfl ?_ | refine Run_ret ?_ | refine Run_nil ?_ | refine Run_condK ?_ | refine Run_ops mixed ?_ | refine Run_opsX mixed ?_ | with_reducible refine PostV_open ?_ | with_reducible refine PostG_open ?_ | with_reducible refine PostQ_open ?_ | with_reducible refine ro_callV ?_ | with_reducible refine ro_callVX ?_ | simp (disch := omega) only [w64] | (with_reducible refine SliceK_own rfl rfl ?_ ?_; (focus ((try simp only [row1_len, row2_len, row3_len, rowsS_len, reduceIte, Int.natCast_nonneg, Int.le_refl, List.length_append, List.length_map, Nat.sub_zero]) <;> ((repeat' (with_reducible refine And.intro ?_ ?_)) <;> first | exact trivial | assumption | (simp; done) | (simp only [List.length_map] at *; omega) | omega | (simp [D.cells, D.ok, D.one, D.pt, D.pt1]; done))))) | (refine GuardK_split (fun hc => ?_) (fun hc => ?_) <;> (try simp only [hc]) <;> (try simp at hc)) | (refine CondK_split (fun hc => ?_) (fun hc => ?_) <;> (try simp only [hc]) <;> (try simp at hc)) | (with_reducible refine And.intro ?_ ?_; (focus ((repeat' (with_reducible refine And.intro ?_ ?_)) <;> first | exact trivial | assumption | (simp; done) | (simp only [List.length_map] at *; omega) | omega | (simp [D.cells, D.ok, D.one, D.pt, D.pt1]; done)))) | (with_reducible intro x hx) | omega) <;> (try simp only [c1, c2, ro_nil, ro_mov, ro_pick, ro_bin, ro_faddr, ro_load, LoadK_ptr, LoadO_some, LoadR_some, ro_guard, GuardK_ft, CondK_t, CondK_f, contP_some, lk_hit, lk_miss, Nat.reduceBEq, put_some, ev_t, ev_c, reduceIte, binD, binInt, pickD, faddrD, loadD, cond_false, true_and, and_self, List.getElem?_cons_zero, List.getElem?_cons_succ, List.length_cons, List.length_nil, Nat.zero_add, decide_true, decide_false, Nat.lt_add_one]))
        refine hk ⟨(m + 1, out, false, frm), hn, by dsimp only; omega⟩ _ _ (by dsimp only; omega) ?_
        dsimp only
        refine Ent_gc [0, 1, 2, 3] (by rfl) (by simp) (by simp [keptW, ObKW, ObW, imp_self, acc_real, acc_nl, acc_pure, acc_fz, acc_sz, acc_rows, acc_spare, pullOb, or_false]) (by simp [lk_hit, lk_miss, D.pt0, viewS_own', pull, pull2, pull1, pull0, idx_hit, idx_miss, sucO_some, gate, List.mem_cons, or_false, view0])
      · have hn := hs.close hwin
        have hu := snocK out frm m
        repeat' ((first | refine Run_seq ?_ | refine Run_skip ?_ | refine Run_block ?_ | refine Run_blk ?_ | refine Run_exit rfl ?_ | refine Run_ret ?_ | refine Run_nil ?_ | refine Run_condK ?_ | refine Run_ops mixed ?_ | refine Run_opsX mixed ?_ | with_reducible refine PostV_open ?_ | with_reducible refine PostG_open ?_ | with_reducible refine PostQ_open ?_ | with_reducible refine ro_callV ?_ | with_reducible refine ro_callVX ?_ | simp (disch := omega) only [w64] | (with_reducible refine SliceK_own rfl rfl ?_ ?_; (focus ((try simp only [row1_len, row2_len, row3_len, rowsS_len, reduceIte, Int.natCast_nonneg, Int.le_refl, List.length_append, List.length_map, Nat.sub_zero]) <;> ((repeat' (with_reducible refine And.intro ?_ ?_)) <;> first | exact trivial | assumption | (simp; done) | (simp only [List.length_map] at *; omega) | omega | (simp [D.cells, D.ok, D.one, D.pt, D.pt1]; done))))) | (refine GuardK_split (fun hc => ?_) (fun hc => ?_) <;> (try simp only [hc]) <;> (try simp at hc)) | (refine CondK_split (fun hc => ?_) (fun hc => ?_) <;> (try simp only [hc]) <;> (try simp at hc)) | (with_reducible refine And.intro ?_ ?_; (focus ((repeat' (with_reducible refine And.intro ?_ ?_)) <;> first | exact trivial | assumption | (simp; done) | (simp only [List.length_map] at *; omega) | omega | (simp [D.one]; done)))) | (with_reducible intro x hx) | omega) <;> (try simp only [rowsS_len, c1, c2, hu, ro_nil, ro_mov, ro_pick, ro_build, ro_slit, SlitK_t, ro_bin, ro_un, ro_faddr, ro_load, LoadK_ptr, LoadO_some, LoadR_some, ro_app, newsD_list, AppN_some, AppS_own, AppO_acc, ro_guard, GuardK_tt, GuardK_ft, CondK_t, CondK_f, contP_some, lk_hit, lk_miss, Nat.reduceBEq, put_some, ev_t, ev_c, reduceIte, Nat.reduceAdd, Nat.reduceLeDiff, binD, binInt, okD, aggD, unD, pickD, faddrD, loadD, fillD, splice, D.cells, D.ok, D.one, D.pt, D.pt1, D.norm1, cond_true, cond_false, true_and, and_true, and_self, Bool.and_true, Bool.not_false, List.getElem?_cons_zero, List.getElem?_cons_succ, List.length_cons, List.length_nil, List.take_succ_cons, List.take_zero, List.drop_succ_cons, List.drop_zero, List.drop_nil, List.cons_append, List.nil_append, List.append_nil, List.map_cons, List.map_nil, List.all_cons, List.all_nil, List.set_cons_zero, List.not_mem_nil, Nat.zero_add, decide_true, decide_false, Nat.le_refl, Nat.lt_add_one, Nat.zero_lt_succ, List.mem_cons, or_false]))
        refine hk ⟨(m + 1, out ++ [(frm, m)], false, frm), hn, by dsimp only; omega⟩ _ _ (by dsimp only; omega) ?_
        dsimp only
        simp only [List.length_append, List.length_cons, List.length_nil]
        refine Ent_gc [0, 1, 2, 3] (by rfl) (by simp) (by simp [keptW, ObKW, ObW, imp_self, acc_real, acc_nl, acc_pure, acc_fz, acc_sz, acc_rows, acc_spare, pullOb, or_false]) (by simp [lk_hit, lk_miss, D.pt0, viewS_own', pull, pull2, pull1, pull0, idx_hit, idx_miss, sucO_some, gate, List.mem_cons, or_false, view0])
  · have c1 : (m ≤ w.2) = False := by simpa using hmw
    rw [hs.done (fun x hx => winB_in hx) (by omega)]
    repeat' ((first | refine Run_seq ?_ | refine Run_skip ?_ | refine Run_block ?_ | refine Run_blk ?_ | refine Run_exit rfl ?_ | refine Run_ret ?_ | refine Run_nil ?_ | refine Run_condK ?_ | refine Run_ops mixed ?_ | refine Run_opsX mixed ?_ | with_reducible refine PostV_open ?_ | with_reducible refine PostG_open ?_ | with_reducible refine PostQ_open ?_ | with_reducible refine ro_callV ?_ | with_reducible refine ro_callVX ?_ | simp (disch := omega) only [w64, wu64, wu32, wu16, wu8, Int.tdiv_eq_ediv_of_nonneg, Int.tmod_eq_emod_of_nonneg] | (with_reducible refine SliceK_own rfl rfl ?_ ?_; (focus ((try simp only [row1_len, row2_len, row3_len, rowsS_len, reduceIte, Int.natCast_nonneg, Int.le_refl, List.length_append, List.length_map, Nat.sub_zero]) <;> ((repeat' (with_reducible refine And.intro ?_ ?_)) <;> first | exact trivial | assumption | (simp; done) | (simp only [List.length_map] at *; omega) | omega | (simp [D.cells, D.ok, D.one, D.pt, D.pt1]; done))))) | (refine GuardK_split (fun hc => ?_) (fun hc => ?_) <;> (try simp only [hc]) <;> (try simp at hc)) | (refine CondK_split (fun hc => ?_) (fun hc => ?_) <;> (try simp only [hc]) <;> (try simp at hc)) | (with_reducible refine And.intro ?_ ?_; (focus ((repeat' (with_reducible refine And.intro ?_ ?_)) <;> first | exact trivial | assumption | (simp; done) | (simp only [List.length_map] at *; omega) | omega | (simp [D.cells, D.ok, D.one, D.pt, D.pt1]; done)))) | (with_reducible intro x hx) | omega) <;> (try simp only [rowsS_len, c1, ro_nil, ro_mov, ro_bin, ro_faddr, ro_load, LoadK_ptr, LoadO_some, LoadR_some, winD_all, viewS_own', viewO_some, acc_pure, acc_rows, CondK_f, contP_some, lk_hit, lk_miss, Nat.reduceBEq, put_some, ev_t, reduceIte, binD, binInt, faddrD, loadD, D.pt0, D.norm1, true_and, and_self, Bool.true_or, List.getElem?_cons_zero, List.getElem?_cons_succ, List.length_cons, List.length_nil, Nat.zero_add, decide_false, Nat.lt_add_one, view, view2, view1, view0, resK_nil, resK_tmp, ofRes]))
    skip
end Go.Proofs.Ytoljgjdloegnoaa

namespace Go.Proofs.Ytoljgjdloegnoaa
open Go Go.Vi
theorem acc_ne' {b pu : Bool} {sz : Nat} {rows : List (List D)} (h : rows.isEmpty = false) : acc b sz pu rows = ⟨true, false, pu, false, sz, rows, none⟩ := by simp [acc, h]


theorem stepF_nil (s : Sp) : stepF [] s = [s] := rfl
theorem stepF_snoc (o : List Sp) (c s : Sp) : stepF (o ++ [c]) s = if s.1 ≤ c.2 then o ++ [(c.1, max c.2 s.2)] else o ++ [c] ++ [s] := by simp [stepF]
theorem formS_len (l : List Sp) : (formS l).length ≤ l.length := by
  have key : ∀ (l out : List Sp), (l.foldl stepF out).length ≤ out.length + l.length := by
    intro l
    induction l with
    | nil => intro out; simp
    | cons s l ih =>
      intro out
      have h1 := ih (stepF out s)
      have h2 : (stepF out s).length ≤ out.length + 1 := by
        unfold stepF
        split
        · rename_i c hc
          split
          · have : out ≠ [] := by rintro rfl; simp at hc
            have := List.length_pos_iff.2 this
            simp only [List.length_append, List.length_dropLast, List.length_cons, List.length_nil]; omega
          · simp
        · simp
      simp only [List.foldl_cons, List.length_cons]; omega
  simpa [formS] using key l []
theorem joinedE_p : CallG Try.prog 26 [.list none true []] [] (.list none true []) [] := by
  refine CallG.nl (b := true) ?_
  refine callG Try.func26 low26 (by simp [c26]) ?_
  simp only [c26]
  repeat' ((first | refine Run_seq ?_ | refine Run_skip ?_ | refine Run_block ?_ | refine Run_blk ?_ | refine Run_exit rfl ?_ | refine Run_ret ?_ | refine Run_nil ?_ | refine Run_condK ?_ | refine Run_ops mixed ?_ | refine Run_opsX mixed ?_ | with_reducible refine PostV_open ?_ | with_reducible refine PostG_open ?_ | with_reducible refine PostQ_open ?_ | with_reducible refine ro_callA (f := .c (.fn 36 [])) ?_ | with_reducible refine ro_callA' (f := .c (.fn 36 [])) ?_ | with_reducible refine ro_callV ?_ | with_reducible refine ro_callVX ?_ | with_reducible refine CallE_use (sortnone_p) (by simp) ?_ | simp (disch := omega) only [w64, wu64, wu32, wu16, wu8, Int.tdiv_eq_ediv_of_nonneg, Int.tmod_eq_emod_of_nonneg] | (with_reducible refine SliceK_own rfl rfl ?_ ?_; (focus ((try simp only [row1_len, row2_len, row3_len, rowsS_len, reduceIte, Int.natCast_nonneg, Int.le_refl, List.length_append, List.length_map, Nat.sub_zero]) <;> ((repeat' (with_reducible refine And.intro ?_ ?_)) <;> first | exact trivial | assumption | (simp; done) | (simp only [List.length_map] at *; omega) | omega | (simp [D.cells, D.ok, D.one, D.pt, D.pt1]; done))))) | (refine GuardK_split (fun hc => ?_) (fun hc => ?_) <;> (try simp only [hc]) <;> (try simp at hc)) | (refine CondK_split (fun hc => ?_) (fun hc => ?_) <;> (try simp only [hc]) <;> (try simp at hc)) | (with_reducible refine And.intro ?_ ?_; (focus ((repeat' (with_reducible refine And.intro ?_ ?_)) <;> first | exact trivial | assumption | (simp; done) | (simp only [List.length_map] at *; omega) | omega | (simp [D.cells, D.ok, D.one, D.pt, D.pt1]; done)))) | (with_reducible intro x hx) | omega) <;> (try simp only [ro_nil, ro_mov, ro_len, contP_some, lk_hit, lk_miss, Nat.reduceBEq, put_some, ev_t, ev_c, argEnv, reduceIte, lenD, D.pt0, true_and, List.length_nil, List.drop_nil, List.append_nil, List.map_cons, List.map_nil, mapO, capsD_fn, pull, pull2, pull1, pull0, pullσ, Go.Vi.freeze, capt, capt.captL, reachL, merge, mset, D.ren, D.renL]))
  refine Run_loop (ι := Unit) (fun _ => ([(3, .list (some true) true []), (9, .list none true []), (10, .int .i64 ((0 : Nat) : Int)), (11, .int .i64 0)], [])) (fun _ => 0) () ?_ ?_
  · refine Ent_gc [] (by rfl) (by simp) (by simp [keptW]) (by simp [lk_hit, lk_miss, D.pt0, viewS_own', pull, pull2, pull1, pull0, idx_nil, gate, List.mem_cons, or_false, view0])
  rintro ⟨⟩ hk
  dsimp only
  have c1 : ((0 : Int) < ((0 : Nat) : Int)) = False := by simp
  repeat' ((first | refine Run_seq ?_ | refine Run_skip ?_ | refine Run_block ?_ | refine Run_blk ?_ | refine Run_exit rfl ?_ | refine Run_ret ?_ | refine Run_nil ?_ | refine Run_condK ?_ | refine Run_ops mixed ?_ | refine Run_opsX mixed ?_ | with_reducible refine PostV_open ?_ | with_reducible refine PostG_open ?_ | with_reducible refine PostQ_open ?_ | with_reducible refine ro_callV ?_ | with_reducible refine ro_callVX ?_ | simp (disch := omega) only [w64, wu64, wu32, wu16, wu8, Int.tdiv_eq_ediv_of_nonneg, Int.tmod_eq_emod_of_nonneg] | (with_reducible refine SliceK_own rfl rfl ?_ ?_; (focus ((try simp only [row1_len, row2_len, row3_len, rowsS_len, reduceIte, Int.natCast_nonneg, Int.le_refl, List.length_append, List.length_map, Nat.sub_zero]) <;> ((repeat' (with_reducible refine And.intro ?_ ?_)) <;> first | exact trivial | assumption | (simp; done) | (simp only [List.length_map] at *; omega) | omega | (simp [D.cells, D.ok, D.one, D.pt, D.pt1]; done))))) | (refine GuardK_split (fun hc => ?_) (fun hc => ?_) <;> (try simp only [hc]) <;> (try simp at hc)) | (refine CondK_split (fun hc => ?_) (fun hc => ?_) <;> (try simp only [hc]) <;> (try simp at hc)) | (with_reducible refine And.intro ?_ ?_; (focus ((repeat' (with_reducible refine And.intro ?_ ?_)) <;> first | exact trivial | assumption | (simp; done) | (simp only [List.length_map] at *; omega) | omega | (simp [D.cells, D.ok, D.one, D.pt, D.pt1]; done)))) | (with_reducible intro x hx) | omega) <;> (try simp only [c1, ro_nil, ro_mov, ro_bin, CondK_f, contP_some, lk_hit, lk_miss, Nat.reduceBEq, put_some, ev_t, reduceIte, binD, binInt, true_and, decide_false, resK_nil, resK_tmp, ofRes]))
  refine GcTo_own [] (by rfl) (by simp) (by simp [keptW, D.pt0, pull, pull2, pull1, pull0])
set_option maxHeartbeats 4000000 in
theorem joined_p (l : List Sp) (hne : l ≠ []) (hl : l.length ≤ 400000000000) :
    CallG Try.prog 26 [.own 0 0 l.length l.length 2 none] [acc true 2 true (rowsS l)] (.own 1 0 (formS (sortS l)).length (formS (sortS l)).length 2 none) [acc true 2 true (rowsS (sortS l)), acc true 2 true (rowsS (formS (sortS l)))] := by
  refine callG Try.func26 low26 (by simp [c26]) ?_
  simp only [c26]
  have so := sort_p l [] (by have := List.length_pos_iff.2 hne; simp; omega) hl
  have hsl := sortS_len l
  simp only [List.length_nil, Nat.add_zero, List.append_nil] at so
  have e1 : (rowsS l).isEmpty = false := by
    cases l with
    | nil => exact absurd rfl hne
    | cons => rfl
  have e2 : (rowsS (sortS l)).isEmpty = false := by
    cases h : sortS l with
    | nil => rw [h] at hsl; exact absurd (List.eq_nil_of_length_eq_zero hsl.symm) hne
    | cons => rfl
  rw [acc_ne' e1, acc_ne' e2]
  generalize sortS l = S at so hsl ⊢
  generalize rowsS l = M at so ⊢
  generalize l.length = n at so hsl hl ⊢
  repeat' ((first | refine Run_seq ?_ | refine Run_skip ?_ | refine Run_block ?_ | refine Run_blk ?_ | refine Run_exit rfl ?_ | refine Run_ret ?_ | refine Run_nil ?_ | refine Run_condK ?_ | refine Run_ops mixed ?_ | refine Run_opsX mixed ?_ | with_reducible refine PostV_open ?_ | with_reducible refine PostG_open ?_ | with_reducible refine PostQ_open ?_ | with_reducible refine ro_callA (f := .c (.fn 36 [])) ?_ | with_reducible refine ro_callA' (f := .c (.fn 36 [])) ?_ | with_reducible refine ro_callV ?_ | with_reducible refine ro_callVX ?_ | with_reducible refine CallE_use (so) (by simp) ?_ | simp (disch := omega) only [w64, wu64, wu32, wu16, wu8, Int.tdiv_eq_ediv_of_nonneg, Int.tmod_eq_emod_of_nonneg] | (with_reducible refine SliceK_own rfl rfl ?_ ?_; (focus ((try simp only [row1_len, row2_len, row3_len, rowsS_len, reduceIte, Int.natCast_nonneg, Int.le_refl, List.length_append, List.length_map, Nat.sub_zero]) <;> ((repeat' (with_reducible refine And.intro ?_ ?_)) <;> first | exact trivial | assumption | (simp; done) | (simp only [List.length_map] at *; omega) | omega | (simp [D.cells, D.ok, D.one, D.pt, D.pt1]; done))))) | (refine GuardK_split (fun hc => ?_) (fun hc => ?_) <;> (try simp only [hc]) <;> (try simp at hc)) | (refine CondK_split (fun hc => ?_) (fun hc => ?_) <;> (try simp only [hc]) <;> (try simp at hc)) | (with_reducible refine And.intro ?_ ?_; (focus ((repeat' (with_reducible refine And.intro ?_ ?_)) <;> first | exact trivial | assumption | (simp; done) | (simp only [List.length_map] at *; omega) | omega | (simp [D.cells, D.ok, D.one, D.pt, D.pt1]; done)))) | (with_reducible intro x hx) | omega) <;> (try simp only [ro_nil, ro_mov, ro_len, contP_some, lk_hit, lk_miss, Nat.reduceBEq, put_some, ev_t, ev_c, argEnv, reduceIte, reduceCtorEq, lenD, true_and, List.getElem?_cons_zero, List.length_cons, List.length_nil, List.drop_succ_cons, List.drop_nil, List.nil_append, List.append_nil, List.map_cons, List.map_nil, List.set_cons_zero, Nat.zero_add, mapO, capsD_fn, pull, pull2, pull1, pull0, idx_hit, pullσ, pullOb, Go.Vi.freeze, capt, capt.captL, reachL, reachO, isin, merge, mset, renOb, D.ren, D.renL]))
  refine Run_ent (Ent_acc (t := 3) (b := true) 2 true (by decide) rfl) ?_
  refine Run_loop (ι := {i : Nat // i ≤ n}) (fun i => ([(3, .own 1 0 (formS (S.take i.1)).length (formS (S.take i.1)).length 2 none), (9, .own 0 0 n n 2 none), (10, .int .i64 n), (11, .int .i64 i.1)], [⟨true, false, true, false, 2, rowsS S, none⟩, acc true 2 true (rowsS (formS (S.take i.1)))])) (fun i => n - i.1) ⟨0, by omega⟩ ?_ ?_
  · simp only [List.take_zero, show formS [] = [] from rfl, show rowsS [] = [] from rfl, List.length_nil]
    refine Ent_gc [0, 1] (by rfl) (by simp) (by simp [keptW, ObKW, ObW, imp_self, acc_real, acc_nl, acc_pure, acc_fz, acc_sz, acc_rows, acc_spare, pullOb]) (by simp [lk_hit, lk_miss, D.pt0, viewS_own', pull, pull2, pull1, pull0, idx_hit, idx_miss, sucO_some, gate, List.mem_cons, or_false, view0])
  rintro ⟨i, hi⟩ hk
  dsimp only at hk ⊢
  by_cases hlt : i < n
  · have c1 : ((i : Int) < (n : Int)) = True := by simp; omega
    obtain ⟨s, hs⟩ : ∃ s, S[i]? = some s := ⟨_, List.getElem?_eq_getElem (by omega)⟩
    have hr := rowsS_get hs
    have htk : formS (S.take (i + 1)) = stepF (formS (S.take i)) s := by
      have : S.take (i + 1) = S.take i ++ [s] := by rw [List.take_add_one, hs]; rfl
      rw [this, formS_snoc]
    have hOl : (formS (S.take i)).length ≤ i := by
      have := formS_len (S.take i)
      rw [List.length_take] at this; omega
    generalize formS (S.take i) = O at htk hOl ⊢
    rcases List.eq_nil_or_concat O with rfl | ⟨o, c, rfl⟩
    · have c2 : (((0 : Nat) : Int) > 0) = False := by simp
      have c2' : ((0 : Int) > 0) = False := by simp
      rw [stepF_nil] at htk
      have hu := snocK [] s.1 s.2
      simp only [List.nil_append] at hu
      simp only [List.length_nil, show rowsS [] = [] from rfl] at hu ⊢
      repeat' ((first | refine Run_seq ?_ | refine Run_skip ?_ | refine Run_block ?_ | refine Run_blk ?_ | refine Run_exit rfl ?_ | refine Run_ret ?_ | refine Run_nil ?_ | refine Run_condK ?_ | refine Run_ops mixed ?_ | refine Run_opsX mixed ?_ | with_reducible refine PostV_open ?_ | with_reducible refine PostG_open ?_ | with_reducible refine PostQ_open ?_ | with_reducible refine ro_callV ?_ | with_reducible refine ro_callVX ?_ | simp (disch := omega) only [w64] | (with_reducible refine SliceK_own rfl rfl ?_ ?_; (focus ((try simp only [row1_len, row2_len, row3_len, rowsS_len, reduceIte, Int.natCast_nonneg, Int.le_refl, List.length_append, List.length_map, Nat.sub_zero]) <;> ((repeat' (with_reducible refine And.intro ?_ ?_)) <;> first | exact trivial | assumption | (simp; done) | (simp only [List.length_map] at *; omega) | omega | (simp [D.cells, D.ok, D.one, D.pt, D.pt1]; done))))) | (refine GuardK_split (fun hc => ?_) (fun hc => ?_) <;> (try simp only [hc]) <;> (try simp at hc)) | (refine CondK_split (fun hc => ?_) (fun hc => ?_) <;> (try simp only [hc]) <;> (try simp at hc)) | (with_reducible refine And.intro ?_ ?_; (focus ((repeat' (with_reducible refine And.intro ?_ ?_)) <;> first | exact trivial | assumption | (simp; done) | (simp only [List.length_map] at *; omega) | omega | (simp [D.one]; done)))) | (with_reducible intro x hx) | omega) <;> (try simp only [rowsS_len, c1, c2, hr, hu, LoadR_some, ro_nil, ro_mov, ro_pick, ro_slit, SlitK_t, ro_bin, ro_len, ro_load, LoadK_ptr, LoadO_some, LoadR_some, ro_alloc, ro_store, StoreK_ptr, StoreO_some, StoreR_some, ro_iaddr, IaddrK_own, ro_app, newsD_list, AppN_some, AppS_own, AppO_acc, rx_nil, rx_cons, keepK_nil, ro_guard, GuardK_ft, CondK_t, CondK_f, contP_some, lk_hit, lk_miss, Nat.reduceBEq, put_some, put_none, ev_t, ev_c, reduceIte, Nat.reduceAdd, Nat.reduceMul, Nat.reduceLeDiff, reduceCtorEq, binD, binInt, binStr, pickD, lenD, loadD, splice, D.cells, D.ok, D.one, D.pt, D.pt1, D.norm1, cond_false, true_and, and_true, and_self, Bool.and_true, List.getElem?_cons_zero, List.getElem?_cons_succ, List.length_cons, List.length_nil, List.take_succ_cons, List.take_zero, List.take_nil, List.drop_succ_cons, List.drop_zero, List.drop_nil, List.cons_append, List.nil_append, List.append_nil, List.map_cons, List.map_nil, List.all_cons, List.all_nil, List.set_cons_zero, List.set_cons_succ, List.not_mem_nil, ne_eq, not_false_eq_true, Nat.zero_add, Int.toNat_natCast, decide_true, decide_false, Nat.le_refl, Int.natCast_nonneg, Nat.lt_add_one, Nat.zero_lt_succ, List.mem_cons, or_false]))
      refine hk ⟨i + 1, by omega⟩ _ _ (by dsimp only; omega) ?_
      dsimp only
      rw [htk]
      simp only [List.length_cons, List.length_nil]
      refine Ent_gc [0, 1] (by rfl) (by simp) (by simp [keptW, ObKW, ObW, imp_self, acc_real, acc_nl, acc_pure, acc_fz, acc_sz, acc_rows, acc_spare, pullOb]) (by simp [lk_hit, lk_miss, D.pt0, viewS_own', pull, pull2, pull1, pull0, idx_hit, idx_miss, sucO_some, gate, List.mem_cons, or_false, view0])
    · rw [List.concat_eq_append] at htk hOl ⊢
      rw [stepF_snoc] at htk
      have hln : (o ++ [c]).length = o.length + 1 := by simp
      have c2 : (((o.length + 1 : Nat) : Int) > 0) = True := by rw [eq_iff_iff]; exact ⟨fun _ => trivial, fun _ => by omega⟩
      have c3 : (((o.length + 1 : Nat) : Int) - 1) = (o.length : Int) := by omega
      have hc : (rowsS (o ++ [c]))[o.length]? = some [.int .i64 c.1, .int .i64 c.2] := rowsS_get (by simp)
      have hset : ∀ z : Int, (rowsS (o ++ [c])).set o.length [.int .i64 c.1, .int .i64 z] = rowsS (o ++ [(c.1, z)]) := fun z => by
        have : rowsS (o ++ [c]) = rowsS o ++ [[.int .i64 c.1, .int .i64 c.2]] := by simp [rowsS]
        rw [this, List.set_append_right _ _ (by rw [rowsS_len]; exact Nat.le_refl _), rowsS_len, Nat.sub_self]
        simp [rowsS]
      have e3 : ∀ q : Sp, (rowsS (o ++ [q])).isEmpty = false := fun q => by simp [rowsS]
      rw [hln] at hOl ⊢
      have mE := mxE
      by_cases hsc : s.1 ≤ c.2
      · have c4 : (s.1 ≤ c.2) = True := by simpa using hsc
        have hm := hset (max c.2 s.2)
        rw [if_pos hsc] at htk
        rw [acc_ne' (e3 c)]
        repeat' ((first | refine Run_seq ?_ | refine Run_skip ?_ | refine Run_block ?_ | refine Run_blk ?_ | refine Run_exit rfl ?_ | refine Run_ret ?_ | refine Run_nil ?_ | refine Run_condK ?_ | refine Run_ops mixed ?_ | refine Run_opsX mixed ?_ | with_reducible refine PostV_open ?_ | with_reducible refine PostG_open ?_ | with_reducible refine PostQ_open ?_ | with_reducible refine ro_callV ?_ | with_reducible refine ro_callVX ?_ | simp (disch := omega) only [w64] | (with_reducible refine SliceK_own rfl rfl ?_ ?_; (focus ((try simp only [row1_len, row2_len, row3_len, rowsS_len, reduceIte, Int.natCast_nonneg, Int.le_refl, List.length_append, List.length_map, Nat.sub_zero]) <;> ((repeat' (with_reducible refine And.intro ?_ ?_)) <;> first | exact trivial | assumption | (simp; done) | (simp only [List.length_map] at *; omega) | omega | (simp [D.cells, D.ok, D.one, D.pt, D.pt1]; done))))) | (refine GuardK_split (fun hc => ?_) (fun hc => ?_) <;> (try simp only [hc]) <;> (try simp at hc)) | (refine CondK_split (fun hc => ?_) (fun hc => ?_) <;> (try simp only [hc]) <;> (try simp at hc)) | (with_reducible refine And.intro ?_ ?_; (focus ((repeat' (with_reducible refine And.intro ?_ ?_)) <;> first | exact trivial | assumption | (simp; done) | (simp only [List.length_map] at *; omega) | omega | (simp [D.cells, D.ok, D.one, D.pt, D.pt1]; done)))) | (with_reducible intro x hx) | omega) <;> (try simp only [rowsS_len, c1, c2, c3, c4, hr, hc, hm, mE, LoadR_some, ro_nil, ro_mov, ro_pick, ro_bin, ro_faddr, ro_len, ro_mx, ro_load, LoadK_ptr, LoadO_some, LoadR_some, ro_alloc, ro_store, StoreK_ptr, StoreO_some, StoreR_some, ro_iaddr, IaddrK_own, rx_nil, rx_cons, keepK_nil, ro_guard, GuardK_tt, CondK_t, contP_some, lk_hit, lk_miss, Nat.reduceBEq, put_some, put_none, ev_t, ev_c, reduceIte, Nat.reduceAdd, reduceCtorEq, binD, binInt, binStr, pickD, faddrD, lenD, mxD, loadD, splice, D.cells, D.ok, D.one, D.pt1, cond_true, true_and, and_self, Bool.and_true, List.getElem?_cons_zero, List.getElem?_cons_succ, List.length_cons, List.length_nil, List.length_append, List.take_succ_cons, List.take_zero, List.take_nil, List.drop_succ_cons, List.drop_zero, List.drop_nil, List.cons_append, List.nil_append, List.append_nil, List.all_cons, List.all_nil, List.set_cons_zero, List.set_cons_succ, ne_eq, not_false_eq_true, Nat.zero_add, Nat.add_zero, Int.toNat_natCast, decide_true, Nat.le_refl, Int.natCast_nonneg, Nat.lt_add_one]))
        refine hk ⟨i + 1, by omega⟩ _ _ (by dsimp only; omega) ?_
        dsimp only
        rw [htk, acc_ne' (e3 _)]
        simp only [List.length_append, List.length_cons, List.length_nil]
        refine Ent_gc [0, 1] (by rfl) (by simp) (by simp [keptW, ObKW, ObW, imp_self, pullOb]) (by simp [lk_hit, lk_miss, D.pt0, viewS_own', pull, pull2, pull1, pull0, idx_hit, idx_miss, sucO_some, gate, List.mem_cons, or_false, view0])
      · have c4 : (s.1 ≤ c.2) = False := by simpa using hsc
        have hu := snocK (o ++ [c]) s.1 s.2
        have e4 := e3 c
        rw [if_neg hsc] at htk
        repeat' ((first | refine Run_seq ?_ | refine Run_skip ?_ | refine Run_block ?_ | refine Run_blk ?_ | refine Run_exit rfl ?_ | refine Run_ret ?_ | refine Run_nil ?_ | refine Run_condK ?_ | refine Run_ops mixed ?_ | refine Run_opsX mixed ?_ | with_reducible refine PostV_open ?_ | with_reducible refine PostG_open ?_ | with_reducible refine PostQ_open ?_ | with_reducible refine ro_callV ?_ | with_reducible refine ro_callVX ?_ | simp (disch := omega) only [w64] | (with_reducible refine SliceK_own rfl rfl ?_ ?_; (focus ((try simp only [row1_len, row2_len, row3_len, rowsS_len, reduceIte, Int.natCast_nonneg, Int.le_refl, List.length_append, List.length_map, Nat.sub_zero]) <;> ((repeat' (with_reducible refine And.intro ?_ ?_)) <;> first | exact trivial | assumption | (simp; done) | (simp only [List.length_map] at *; omega) | omega | (simp [D.cells, D.ok, D.one, D.pt, D.pt1]; done))))) | (refine GuardK_split (fun hc => ?_) (fun hc => ?_) <;> (try simp only [hc]) <;> (try simp at hc)) | (refine CondK_split (fun hc => ?_) (fun hc => ?_) <;> (try simp only [hc]) <;> (try simp at hc)) | (with_reducible refine And.intro ?_ ?_; (focus ((repeat' (with_reducible refine And.intro ?_ ?_)) <;> first | exact trivial | assumption | (simp; done) | (simp only [List.length_map] at *; omega) | omega | (simp [D.one]; done)))) | (with_reducible intro x hx) | omega) <;> (try simp only [rowsS_len, c1, c2, c3, c4, hr, hc, hu, e4, LoadR_some, ro_nil, ro_mov, ro_pick, ro_slit, SlitK_t, ro_bin, ro_faddr, ro_len, ro_load, LoadK_ptr, LoadO_some, LoadR_some, ro_alloc, ro_store, StoreK_ptr, StoreO_some, StoreR_some, ro_iaddr, IaddrK_own, ro_app, newsD_list, AppN_some, AppS_own, AppO_acc, rx_nil, rx_cons, keepK_nil, acc_real, acc_rows, ro_guard, GuardK_tt, CondK_t, CondK_f, contP_some, lk_hit, lk_miss, Nat.reduceBEq, put_some, put_none, ev_t, ev_c, reduceIte, Nat.reduceAdd, Nat.reduceLeDiff, reduceCtorEq, binD, binInt, binStr, pickD, faddrD, lenD, loadD, splice, D.cells, D.ok, D.one, D.pt, D.pt1, D.norm1, cond_true, true_and, and_true, and_self, Bool.and_true, Bool.not_false, List.getElem?_cons_zero, List.getElem?_cons_succ, List.length_cons, List.length_nil, List.length_append, List.take_succ_cons, List.take_zero, List.take_nil, List.drop_succ_cons, List.drop_zero, List.drop_nil, List.cons_append, List.nil_append, List.append_nil, List.map_cons, List.map_nil, List.all_cons, List.all_nil, List.set_cons_zero, List.set_cons_succ, List.not_mem_nil, ne_eq, not_false_eq_true, Nat.zero_add, Nat.add_zero, Int.toNat_natCast, decide_true, decide_false, Nat.le_refl, Int.natCast_nonneg, Nat.lt_add_one, Nat.zero_lt_succ, List.mem_cons, or_false]))
        refine hk ⟨i + 1, by omega⟩ _ _ (by dsimp only; omega) ?_
        dsimp only
        rw [htk]
        simp only [List.length_append, List.length_cons, List.length_nil]
        refine Ent_gc [0, 1] (by rfl) (by simp) (by simp [keptW, ObKW, ObW, imp_self, acc_real, acc_nl, acc_pure, acc_fz, acc_sz, acc_rows, acc_spare, pullOb]) (by simp [lk_hit, lk_miss, D.pt0, viewS_own', pull, pull2, pull1, pull0, idx_hit, idx_miss, sucO_some, gate, List.mem_cons, or_false, view0])
  · have c1 : ((i : Int) < (n : Int)) = False := by simp; omega
    obtain rfl : i = n := by omega
    have hSt : S.take i = S := by rw [← hsl, List.take_length]
    rw [hSt]
    repeat' ((first | refine Run_seq ?_ | refine Run_skip ?_ | refine Run_block ?_ | refine Run_blk ?_ | refine Run_exit rfl ?_ | refine Run_ret ?_ | refine Run_nil ?_ | refine Run_condK ?_ | refine Run_ops mixed ?_ | refine Run_opsX mixed ?_ | with_reducible refine PostV_open ?_ | with_reducible refine PostG_open ?_ | with_reducible refine PostQ_open ?_ | with_reducible refine ro_callV ?_ | with_reducible refine ro_callVX ?_ | simp (disch := omega) only [w64, wu64, wu32, wu16, wu8, Int.tdiv_eq_ediv_of_nonneg, Int.tmod_eq_emod_of_nonneg] | (with_reducible refine SliceK_own rfl rfl ?_ ?_; (focus ((try simp only [row1_len, row2_len, row3_len, rowsS_len, reduceIte, Int.natCast_nonneg, Int.le_refl, List.length_append, List.length_map, Nat.sub_zero]) <;> ((repeat' (with_reducible refine And.intro ?_ ?_)) <;> first | exact trivial | assumption | (simp; done) | (simp only [List.length_map] at *; omega) | omega | (simp [D.cells, D.ok, D.one, D.pt, D.pt1]; done))))) | (refine GuardK_split (fun hc => ?_) (fun hc => ?_) <;> (try simp only [hc]) <;> (try simp at hc)) | (refine CondK_split (fun hc => ?_) (fun hc => ?_) <;> (try simp only [hc]) <;> (try simp at hc)) | (with_reducible refine And.intro ?_ ?_; (focus ((repeat' (with_reducible refine And.intro ?_ ?_)) <;> first | exact trivial | assumption | (simp; done) | (simp only [List.length_map] at *; omega) | omega | (simp [D.cells, D.ok, D.one, D.pt, D.pt1]; done)))) | (with_reducible intro x hx) | omega) <;> (try simp only [c1, ro_nil, ro_mov, ro_bin, CondK_f, contP_some, lk_hit, lk_miss, Nat.reduceBEq, put_some, ev_t, reduceIte, binD, binInt, true_and, decide_false, resK_nil, resK_tmp, ofRes]))
    refine GcTo_own [0, 1] (by rfl) (by simp) (by simp [keptW, ObKW, ObW, imp_self, acc_real, acc_nl, acc_pure, acc_fz, acc_sz, acc_rows, acc_spare, pull, pull2, pull1, pull0, idx_hit, idx_miss, sucO_some, pullOb])
end Go.Proofs.Ytoljgjdloegnoaa

namespace Go.Proofs.Ytoljgjdloegnoaa
open Go Go.Vi


abbrev Fit (x : Int) : Prop := -9223372036854775808 ≤ x ∧ x ≤ 9223372036854775807
def longB (w : Sp) : Bool := decide (w.1 < w.2) && decide (w.2 - w.1 > 527040)
theorem long_p (w : Sp) (f1 : Fit w.1) (f2 : Fit w.2) : PureD Try.prog 22 [.agg [.int .i64 w.1, .int .i64 w.2]] (.bool (longB w)) := by
  refine pureV Try.func22 low22 (by simp [c22]) ?_
  simp only [c22]
  unfold longB
  unfold Fit at f1 f2
  by_cases h : w.1 < w.2
  · have c1 : (w.1 < w.2) = True := by simpa using h
    have e : IntKind.u64.wrap (IntKind.u64.wrap w.2 - IntKind.u64.wrap w.1) = w.2 - w.1 := by
      have wru : ∀ n : Int, IntKind.u64.wrap n = n % 18446744073709551616 := fun n => by
        unfold IntKind.wrap
        simp [IntKind.bits, IntKind.signed]
      simp only [wru]; omega
    repeat' ((first | refine Run_seq ?_ | refine Run_skip ?_ | refine Run_block ?_ | refine Run_blk ?_ | refine Run_exit rfl ?_ | refine Run_ret ?_ | refine Run_nil ?_ | refine Run_condK ?_ | refine Run_ops mixed ?_ | refine Run_opsX mixed ?_ | with_reducible refine PostV_open ?_ | with_reducible refine PostG_open ?_ | with_reducible refine PostQ_open ?_ | with_reducible refine ro_callV ?_ | with_reducible refine ro_callVX ?_ | simp (disch := omega) only [w64, wu64, wu32, wu16, wu8, Int.tdiv_eq_ediv_of_nonneg, Int.tmod_eq_emod_of_nonneg] | (with_reducible refine SliceK_own rfl rfl ?_ ?_; (focus ((try simp only [row1_len, row2_len, row3_len, rowsS_len, reduceIte, Int.natCast_nonneg, Int.le_refl, List.length_append, List.length_map, Nat.sub_zero]) <;> ((repeat' (with_reducible refine And.intro ?_ ?_)) <;> first | exact trivial | assumption | (simp; done) | (simp only [List.length_map] at *; omega) | omega | (simp [D.cells, D.ok, D.one, D.pt, D.pt1]; done))))) | (refine GuardK_split (fun hc => ?_) (fun hc => ?_) <;> (try simp only [hc]) <;> (try simp at hc)) | (refine CondK_split (fun hc => ?_) (fun hc => ?_) <;> (try simp only [hc]) <;> (try simp at hc)) | (with_reducible refine And.intro ?_ ?_; (focus ((repeat' (with_reducible refine And.intro ?_ ?_)) <;> first | exact trivial | assumption | (simp; done) | (simp only [List.length_map] at *; omega) | omega | (simp [D.cells, D.ok, D.one, D.pt, D.pt1]; done)))) | (with_reducible intro x hx) | omega) <;> (try simp only [c1, e, ro_nil, ro_mov, ro_pick, ro_bin, ro_conv, ro_faddr, ro_load, LoadK_ptr, LoadO_some, LoadR_some, ro_box, viewS_own', ro_guard, GuardK_tt, contP_some, lk_hit, lk_miss, Nat.reduceBEq, put_some, ev_t, ev_c, argEnv, reduceIte, Nat.reduceAdd, reduceCtorEq, binD, binInt, pickD, convD, faddrD, loadD, D.cells, D.ok, D.one, D.pt1, D.pt0, D.norm1, cond_true, true_and, and_self, Bool.true_and, Bool.and_true, List.getElem?_cons_zero, List.getElem?_cons_succ, List.length_cons, List.length_nil, List.nil_append, List.all_cons, List.all_nil, ne_eq, not_false_eq_true, Nat.zero_add, Nat.add_zero, decide_true, Nat.lt_add_one, view, view2, view1, view0, resK_nil, resK_tmp, ofRes]))
    skip
  · have c1 : (w.1 < w.2) = False := by simpa using h
    repeat' ((first | refine Run_seq ?_ | refine Run_skip ?_ | refine Run_block ?_ | refine Run_blk ?_ | refine Run_exit rfl ?_ | refine Run_ret ?_ | refine Run_nil ?_ | refine Run_condK ?_ | refine Run_ops mixed ?_ | refine Run_opsX mixed ?_ | with_reducible refine PostV_open ?_ | with_reducible refine PostG_open ?_ | with_reducible refine PostQ_open ?_ | with_reducible refine ro_callV ?_ | with_reducible refine ro_callVX ?_ | simp (disch := omega) only [w64, wu64, wu32, wu16, wu8, Int.tdiv_eq_ediv_of_nonneg, Int.tmod_eq_emod_of_nonneg] | (with_reducible refine SliceK_own rfl rfl ?_ ?_; (focus ((try simp only [row1_len, row2_len, row3_len, rowsS_len, reduceIte, Int.natCast_nonneg, Int.le_refl, List.length_append, List.length_map, Nat.sub_zero]) <;> ((repeat' (with_reducible refine And.intro ?_ ?_)) <;> first | exact trivial | assumption | (simp; done) | (simp only [List.length_map] at *; omega) | omega | (simp [D.cells, D.ok, D.one, D.pt, D.pt1]; done))))) | (refine GuardK_split (fun hc => ?_) (fun hc => ?_) <;> (try simp only [hc]) <;> (try simp at hc)) | (refine CondK_split (fun hc => ?_) (fun hc => ?_) <;> (try simp only [hc]) <;> (try simp at hc)) | (with_reducible refine And.intro ?_ ?_; (focus ((repeat' (with_reducible refine And.intro ?_ ?_)) <;> first | exact trivial | assumption | (simp; done) | (simp only [List.length_map] at *; omega) | omega | (simp [D.cells, D.ok, D.one, D.pt, D.pt1]; done)))) | (with_reducible intro x hx) | omega) <;> (try simp only [c1, ro_nil, ro_mov, ro_pick, ro_bin, ro_faddr, ro_load, LoadK_ptr, LoadO_some, LoadR_some, ro_box, viewS_own', ro_guard, GuardK_ft, contP_some, lk_hit, lk_miss, Nat.reduceBEq, put_some, ev_t, ev_c, argEnv, reduceIte, Nat.reduceAdd, reduceCtorEq, binD, binInt, pickD, faddrD, loadD, D.cells, D.ok, D.one, D.pt1, D.pt0, D.norm1, cond_false, true_and, and_self, Bool.and_true, Bool.false_and, List.getElem?_cons_zero, List.getElem?_cons_succ, List.length_cons, List.length_nil, List.nil_append, List.all_cons, List.all_nil, ne_eq, not_false_eq_true, Nat.zero_add, Nat.add_zero, decide_false, Nat.lt_add_one, view, view2, view1, view0, resK_nil, resK_tmp, ofRes]))
    skip
noncomputable def winS (b : Int) (ts : List Tn) (sh : List Sf) (off : List Int) (w : Sp) : List Sp := if (hoursB sh off && (zoneB b ts && !longB w)) = true then canOf (winB b ts sh off w) else []
theorem foundZero (b : Int) (ts : List Tn) (sh : List Sf) (off : List Int) (lo : Int) : Vi.Found b ts sh off lo lo [] :=
  ⟨fun m => by rw [hasS_nil]; symm; rw [Bool.and_eq_false_iff]; left; rw [decide_eq_false_iff_not]; omega, by simp, by simp⟩
set_option maxHeartbeats 8000000 in
theorem spans_p (b : Int) (ts : List Tn) (sh : List Sf) (off : List Int) (w : Sp) (f1 : ts.length ≤ 140737488351232) (f2 : sh.length ≤ 140737488351232) (f3 : off.length ≤ 140737488351232) (g1 : Fit w.1) (g2 : Fit w.2) :
    PureD Try.prog 12 [Zn b ts, .agg (Hr sh off), .agg [.int .i64 w.1, .int .i64 w.2]] (LS (winS b ts sh off w)) := by
  refine pureV Try.func12 low12 (by simp [c12]) ?_
  simp only [c12]
  unfold winS
  have hm := hoursMay_p sh off f2 f3
  cases hh : hoursB sh off
  · rw [hh] at hm
    rw [Bool.false_and, if_neg (by simp)]
    simp only [LS, show rowsS [] = [] from rfl]
    repeat' ((first | refine Run_seq ?_ | refine Run_skip ?_ | refine Run_block ?_ | refine Run_blk ?_ | refine Run_exit rfl ?_ | refine Run_ret ?_ | refine Run_nil ?_ | refine Run_condK ?_ | refine Run_ops mixed ?_ | refine Run_opsX mixed ?_ | with_reducible refine PostV_open ?_ | with_reducible refine PostG_open ?_ | with_reducible refine PostQ_open ?_ | with_reducible refine ro_callV ?_ | with_reducible refine ro_callVX ?_ | refine CallV_pure (hm) ?_ ?_ | simp (disch := omega) only [w64, wu64, wu32, wu16, wu8, Int.tdiv_eq_ediv_of_nonneg, Int.tmod_eq_emod_of_nonneg] | (with_reducible refine SliceK_own rfl rfl ?_ ?_; (focus ((try simp only [row1_len, row2_len, row3_len, rowsS_len, reduceIte, Int.natCast_nonneg, Int.le_refl, List.length_append, List.length_map, Nat.sub_zero]) <;> ((repeat' (with_reducible refine And.intro ?_ ?_)) <;> first | exact trivial | assumption | (simp; done) | (simp only [List.length_map] at *; omega) | omega | (simp [D.cells, D.ok, D.one, D.pt, D.pt1]; done))))) | (refine GuardK_split (fun hc => ?_) (fun hc => ?_) <;> (try simp only [hc]) <;> (try simp at hc)) | (refine CondK_split (fun hc => ?_) (fun hc => ?_) <;> (try simp only [hc]) <;> (try simp at hc)) | (with_reducible refine And.intro ?_ ?_; (focus ((repeat' (with_reducible refine And.intro ?_ ?_)) <;> first | exact trivial | assumption | (simp; done) | (simp only [List.length_map] at *; omega) | omega | (simp [D.cells, D.ok, D.one, D.pt, D.pt1]; done)))) | (with_reducible intro x hx) | omega) <;> (try simp only [ro_nil, ro_mov, ro_pick, ro_un, ro_load, LoadK_ptr, LoadO_some, LoadR_some, ro_box, viewS_own', ro_guard, GuardK_tf, CondK_t, contP_some, lk_hit, lk_miss, Nat.reduceBEq, put_some, ev_t, ev_c, argEnv, reduceIte, Nat.reduceAdd, reduceCtorEq, okD, unD, pickD, loadD, D.cells, D.ok, D.one, D.pt, D.pt1, D.pt0, D.norm1, cond_true, true_and, and_self, Bool.and_true, Bool.not_false, Bool.or_true, List.getElem?_cons_zero, List.getElem?_cons_succ, List.length_cons, List.length_nil, List.take_succ_cons, List.take_nil, List.drop_zero, List.cons_append, List.nil_append, List.append_nil, List.map_cons, List.map_nil, List.all_cons, List.all_nil, ne_eq, not_false_eq_true, Option.map_some, Nat.zero_add, Nat.le_refl, Nat.lt_add_one, view, view2, view1, view0, mapO, capsD_fn, D.sc, D.sc1, D.sc2, resK_nil, resK_tmp, ofRes]))
  rw [hh] at hm
  rw [Bool.true_and]
  have zm := zoneMay_p b ts f1
  cases hz : zoneB b ts
  · rw [hz] at zm
    rw [Bool.false_and, if_neg (by simp)]
    simp only [LS, show rowsS [] = [] from rfl]
    repeat' ((first | refine Run_seq ?_ | refine Run_skip ?_ | refine Run_block ?_ | refine Run_blk ?_ | refine Run_exit rfl ?_ | refine Run_ret ?_ | refine Run_nil ?_ | refine Run_condK ?_ | refine Run_ops mixed ?_ | refine Run_opsX mixed ?_ | with_reducible refine PostV_open ?_ | with_reducible refine PostG_open ?_ | with_reducible refine PostQ_open ?_ | with_reducible refine ro_callV ?_ | with_reducible refine ro_callVX ?_ | refine CallV_pure (hm) ?_ ?_ | refine CallV_pure (zm) ?_ ?_ | simp (disch := omega) only [w64, wu64, wu32, wu16, wu8, Int.tdiv_eq_ediv_of_nonneg, Int.tmod_eq_emod_of_nonneg] | (with_reducible refine SliceK_own rfl rfl ?_ ?_; (focus ((try simp only [row1_len, row2_len, row3_len, rowsS_len, reduceIte, Int.natCast_nonneg, Int.le_refl, List.length_append, List.length_map, Nat.sub_zero]) <;> ((repeat' (with_reducible refine And.intro ?_ ?_)) <;> first | exact trivial | assumption | (simp; done) | (simp only [List.length_map] at *; omega) | omega | (simp [D.cells, D.ok, D.one, D.pt, D.pt1]; done))))) | (refine GuardK_split (fun hc => ?_) (fun hc => ?_) <;> (try simp only [hc]) <;> (try simp at hc)) | (refine CondK_split (fun hc => ?_) (fun hc => ?_) <;> (try simp only [hc]) <;> (try simp at hc)) | (with_reducible refine And.intro ?_ ?_; (focus ((repeat' (with_reducible refine And.intro ?_ ?_)) <;> first | exact trivial | assumption | (simp; done) | (simp only [List.length_map] at *; omega) | omega | (simp [D.cells, D.ok, D.one, D.pt, D.pt1]; done)))) | (with_reducible intro x hx) | omega) <;> (try simp only [ro_nil, ro_mov, ro_pick, ro_un, ro_load, LoadK_ptr, LoadO_some, LoadR_some, ro_box, viewS_own', ro_guard, GuardK_ff, GuardK_tf, CondK_t, contP_some, lk_hit, lk_miss, Nat.reduceBEq, put_some, ev_t, ev_c, argEnv, reduceIte, Nat.reduceAdd, reduceCtorEq, okD, unD, pickD, loadD, D.cells, D.ok, D.one, D.pt, D.pt1, D.pt0, D.norm1, cond_true, cond_false, true_and, and_self, Bool.and_true, Bool.not_true, Bool.not_false, Bool.or_true, List.getElem?_cons_zero, List.getElem?_cons_succ, List.length_cons, List.length_nil, List.take_succ_cons, List.take_nil, List.drop_zero, List.cons_append, List.nil_append, List.append_nil, List.map_cons, List.map_nil, List.all_cons, List.all_nil, ne_eq, not_false_eq_true, Option.map_some, Nat.zero_add, Nat.le_refl, Nat.lt_add_one, view, view2, view1, view0, mapO, capsD_fn, D.sc, D.sc1, D.sc2, resK_nil, resK_tmp, ofRes]))
  rw [hz] at zm
  rw [Bool.true_and]
  have lg := long_p w g1 g2
  cases hlg : longB w
  · rw [hlg] at lg
    rw [Bool.not_false, if_pos rfl]
    have ho := hoursOk hh
    have zo := zoneOk hz
    have mE := mxE
    have nE := mnE
    unfold Fit at g1 g2
    have hlw : w.2 ≤ w.1 ∨ w.2 - w.1 ≤ 527040 := by
      simp only [longB, Bool.and_eq_false_iff, decide_eq_false_iff_not] at hlg
      omega
    repeat' ((first | refine Run_seq ?_ | refine Run_skip ?_ | refine Run_block ?_ | refine Run_blk ?_ | refine Run_exit rfl ?_ | refine Run_ret ?_ | refine Run_nil ?_ | refine Run_condK ?_ | refine Run_ops mixed ?_ | refine Run_opsX mixed ?_ | with_reducible refine PostV_open ?_ | with_reducible refine PostG_open ?_ | with_reducible refine PostQ_open ?_ | with_reducible refine ro_callV ?_ | with_reducible refine ro_callVX ?_ | refine CallV_pure (hm) ?_ ?_ | refine CallV_pure (zm) ?_ ?_ | refine CallV_pure (lg) ?_ ?_ | simp (disch := omega) only [w64, wu64, wu32, wu16, wu8, Int.tdiv_eq_ediv_of_nonneg, Int.tmod_eq_emod_of_nonneg] | (with_reducible refine SliceK_own rfl rfl ?_ ?_; (focus ((try simp only [row1_len, row2_len, row3_len, rowsS_len, reduceIte, Int.natCast_nonneg, Int.le_refl, List.length_append, List.length_map, Nat.sub_zero]) <;> ((repeat' (with_reducible refine And.intro ?_ ?_)) <;> first | exact trivial | assumption | (simp; done) | (simp only [List.length_map] at *; omega) | omega | (simp [D.cells, D.ok, D.one, D.pt, D.pt1]; done))))) | (refine GuardK_split (fun hc => ?_) (fun hc => ?_) <;> (try simp only [hc]) <;> (try simp at hc)) | (refine CondK_split (fun hc => ?_) (fun hc => ?_) <;> (try simp only [hc]) <;> (try simp at hc)) | (with_reducible refine And.intro ?_ ?_; (focus ((repeat' (with_reducible refine And.intro ?_ ?_)) <;> first | exact trivial | assumption | (simp; done) | (simp only [List.length_map] at *; omega) | omega | (simp [D.cells, D.ok, D.one, D.pt, D.pt1]; done)))) | (with_reducible intro x hx) | omega) <;> (try simp only [mE, nE, ro_nil, ro_mov, ro_pick, ro_un, ro_faddr, ro_mx, ro_mn, ro_load, LoadK_ptr, LoadO_some, LoadR_some, ro_box, rx_nil, rx_cons, keepK_nil, ro_guard, GuardK_ff, CondK_f, contP_some, lk_hit, lk_miss, Nat.reduceBEq, put_some, ev_t, ev_c, argEnv, reduceIte, Nat.reduceAdd, reduceCtorEq, okD, unD, pickD, faddrD, mxD, mnD, loadD, D.cells, D.ok, D.one, D.pt, D.pt1, D.pt0, D.norm1, cond_false, true_and, and_self, Bool.and_true, Bool.not_true, Bool.or_true, List.getElem?_cons_zero, List.getElem?_cons_succ, List.length_cons, List.length_nil, List.take_succ_cons, List.take_nil, List.drop_zero, List.cons_append, List.nil_append, List.append_nil, List.map_cons, List.map_nil, List.all_cons, List.all_nil, ne_eq, not_false_eq_true, Option.map_some, Nat.zero_add, Nat.add_zero, Nat.le_refl, Nat.lt_add_one, view, view2, view1, view0, mapO, capsD_fn, D.sc, D.sc1, D.sc2]))
    refine Run_ent (Ent_acc (t := 9) (b := true) 2 true (by decide) rfl) ?_
    obtain ⟨lo, hlo⟩ : ∃ lo, lo = max w.1 0 := ⟨_, rfl⟩
    obtain ⟨hi, hhi⟩ : ∃ hi, hi = min w.2 158310720 := ⟨_, rfl⟩
    rw [← hlo, ← hhi]
    refine Run_loop (ι := {p : Int × List Sp // Vi.Found b ts sh off lo p.1 p.2 ∧ lo ≤ p.1 ∧ (p.1 ≤ hi ∨ p.1 = lo)}) (fun p => ([(3, .ptr 1 0 0 1), (4, .ptr 2 0 0 1), (7, .int .i64 p.1.1), (8, .int .i64 hi), (9, .own 0 0 p.1.2.length p.1.2.length 2 none)],
      [acc true 2 true (rowsS p.1.2), ⟨true, false, true, false, 2, [[.int .i64 b, L (row2 .i64 .i64 ts)]], some 0⟩, ⟨true, false, true, false, 2, [Hr sh off], some 0⟩])) (fun p => (hi - p.1.1).toNat) ⟨(lo, []), foundZero _ _ _ _ _, Int.le_refl _, .inr rfl⟩ ?_ ?_
    · dsimp only
      simp only [show rowsS [] = [] from rfl, List.length_nil]
      refine Ent_gc [3, 0, 1] (by rfl) (by simp) (by simp [keptW, ObKW, ObW, imp_self, acc_real, acc_nl, acc_pure, acc_fz, acc_sz, acc_rows, acc_spare, pullOb, or_false]) (by simp [lk_hit, lk_miss, D.pt0, viewS_own', pull, pull2, pull1, pull0, idx_hit, idx_miss, sucO_some, gate, List.mem_cons, or_false, view0])
      skip
    rintro ⟨⟨at_, out⟩, hf, hge, hle⟩ hk
    dsimp only at hf hge hle hk ⊢
    by_cases hlt : at_ < hi
    · have c1 : (at_ < hi) = True := by simpa using hlt
      have nx := next_p at_ hz
      have of := offset_p at_ hz
      have ob := addO_b zo (bh ts at_)
      have hst := hf.step zo.asc (fun x hx => by have := ho.ok x hx; omega) ho.l1 (by omega) hge (by omega) hlt
      have sg := segTo_gt zo.asc hlt
      have k1 : lo ≤ segTo ts at_ hi := by omega
      have k2 : segTo ts at_ hi ≤ hi ∨ segTo ts at_ hi = lo := .inl sg.2
      have k3 : (hi - segTo ts at_ hi).toNat < (hi - at_).toNat := by omega
      have hol := hf.2.2
      have hpp := part_p sh off (at_, segTo ts at_ hi) (addO b ts (bh ts at_)) out ho (by dsimp only; omega) (by dsimp only; omega) (by dsimp only; omega) (by omega) (by omega) (by omega)
      have hnl : ((out ++ partL sh off (at_, segTo ts at_ hi) (addO b ts (bh ts at_)) ((at_ + addO b ts (bh ts at_)) / 1440) (daysN (at_, segTo ts at_ hi) (addO b ts (bh ts at_)))).length : Int) ≤ 30 * (segTo ts at_ hi - lo) := hst.2.2
      dsimp only at hpp
      generalize out ++ partL sh off (at_, segTo ts at_ hi) (addO b ts (bh ts at_)) ((at_ + addO b ts (bh ts at_)) / 1440) (daysN (at_, segTo ts at_ hi) (addO b ts (bh ts at_))) = O at hst hpp hnl
      generalize addO b ts (bh ts at_) = o at of ob hpp
      have e : segTo ts at_ hi = match nextT ts at_ with | some n => min n hi | none => hi := rfl
      cases hn : nextT ts at_ with
      | none =>
        rw [hn] at nx e
        dsimp only at e
        rw [e] at hst hpp hnl k1 k2 k3
        simp only [Option.getD_none, Option.isSome_none] at nx
        repeat' ((first | refine Run_seq ?_ | refine Run_skip ?_ | refine Run_block ?_ | refine Run_blk ?_ | refine Run_exit rfl ?_ | refine Run_ret ?_ | refine Run_nil ?_ | refine Run_condK ?_ | refine Run_ops mixed ?_ | refine Run_opsX mixed ?_ | with_reducible refine PostV_open ?_ | with_reducible refine PostG_open ?_ | with_reducible refine PostQ_open ?_ | with_reducible refine ro_callA (f := .c (.fn 24 [])) ?_ | with_reducible refine ro_callA' (f := .c (.fn 24 [])) ?_ | with_reducible refine ro_callV ?_ | with_reducible refine ro_callVX ?_ | refine CallV_pure (nx) ?_ ?_ | refine CallV_pure (of) ?_ ?_ | with_reducible refine CallE_use (hpp) (by simp) ?_ | simp (disch := omega) only [w64, wu64, wu32, wu16, wu8, Int.tdiv_eq_ediv_of_nonneg, Int.tmod_eq_emod_of_nonneg] | (with_reducible refine SliceK_own rfl rfl ?_ ?_; (focus ((try simp only [row1_len, row2_len, row3_len, rowsS_len, reduceIte, Int.natCast_nonneg, Int.le_refl, List.length_append, List.length_map, Nat.sub_zero]) <;> ((repeat' (with_reducible refine And.intro ?_ ?_)) <;> first | exact trivial | assumption | (simp; done) | (simp only [List.length_map] at *; omega) | omega | (simp [D.cells, D.ok, D.one, D.pt, D.pt1]; done))))) | (refine GuardK_split (fun hc => ?_) (fun hc => ?_) <;> (try simp only [hc]) <;> (try simp at hc)) | (refine CondK_split (fun hc => ?_) (fun hc => ?_) <;> (try simp only [hc]) <;> (try simp at hc)) | (with_reducible refine And.intro ?_ ?_; (focus ((repeat' (with_reducible refine And.intro ?_ ?_)) <;> first | exact trivial | assumption | (simp; done) | (simp only [List.length_map] at *; omega) | omega | (simp [D.cells, D.ok, D.one, D.pt, D.pt1]; done)))) | (with_reducible intro x hx) | omega) <;> (try simp only [c1, ro_nil, ro_mov, ro_build, ro_bin, ro_ext, ro_load, LoadK_ptr, LoadO_some, LoadR_some, rx_nil, rx_cons, keepK_nil, keepK_cons, keepE_nil, keepE_cons, keepN_nil, keepN_cons, D.names, acc_real, acc_nl, acc_pure, acc_fz, acc_sz, acc_rows, acc_spare, CondK_t, CondK_f, contP_some, lk_hit, lk_miss, Nat.reduceBEq, put_some, ev_t, ev_c, reduceIte, Nat.reduceAdd, Nat.reduceSub, Nat.reduceLeDiff, reduceCtorEq, binD, binInt, aggD, extD, loadD, fillD, splice, D.cells, D.ok, D.one, D.pt, D.pt1, D.pt0, D.norm1, true_and, and_true, and_self, Bool.true_and, Bool.and_true, Bool.or_true, List.getElem?_cons_zero, List.getElem?_cons_succ, List.length_cons, List.length_nil, List.length_append, List.length_drop, List.take_succ_cons, List.take_zero, List.take_nil, List.drop_succ_cons, List.drop_zero, List.drop_nil, List.cons_append, List.nil_append, List.append_nil, List.map_cons, List.map_nil, List.all_cons, List.all_nil, List.set_cons_zero, Option.map_some, Nat.zero_add, Nat.add_zero, decide_true, Nat.le_refl, Nat.lt_add_one, view, view2, view1, view0, mapO, capsD_fn, D.sc, D.sc1, D.sc2, pull, pull2, pull1, pull0, idx_hit, pullσ, pullOb, Go.Vi.freeze, capt, reachL, reachO, isin, merge, mset, renOb, fr, D.ren, List.getD_cons_zero]))
        refine hk ⟨(hi, O), hst, k1, k2⟩ _ _ k3 ?_
        dsimp only
        refine Ent_gc [0, 1, 2] (by rfl) (by simp) (by simp [keptW, ObKW, ObW, imp_self, acc_real, acc_nl, acc_pure, acc_fz, acc_sz, acc_rows, acc_spare, pullOb, or_false]) (by simp [lk_hit, lk_miss, D.pt0, viewS_own', pull, pull2, pull1, pull0, idx_hit, idx_miss, sucO_some, gate, List.mem_cons, or_false, view0])
      | some n =>
        rw [hn] at nx e
        dsimp only at e
        rw [e] at hst hpp hnl k1 k2 k3
        simp only [Option.getD_some, Option.isSome_some] at nx
        repeat' ((first | refine Run_seq ?_ | refine Run_skip ?_ | refine Run_block ?_ | refine Run_blk ?_ | refine Run_exit rfl ?_ | refine Run_ret ?_ | refine Run_nil ?_ | refine Run_condK ?_ | refine Run_ops mixed ?_ | refine Run_opsX mixed ?_ | with_reducible refine PostV_open ?_ | with_reducible refine PostG_open ?_ | with_reducible refine PostQ_open ?_ | with_reducible refine ro_callA (f := .c (.fn 24 [])) ?_ | with_reducible refine ro_callA' (f := .c (.fn 24 [])) ?_ | with_reducible refine ro_callV ?_ | with_reducible refine ro_callVX ?_ | refine CallV_pure (nx) ?_ ?_ | refine CallV_pure (of) ?_ ?_ | with_reducible refine CallE_use (hpp) (by simp) ?_ | simp (disch := omega) only [w64, wu64, wu32, wu16, wu8, Int.tdiv_eq_ediv_of_nonneg, Int.tmod_eq_emod_of_nonneg] | (with_reducible refine SliceK_own rfl rfl ?_ ?_; (focus ((try simp only [row1_len, row2_len, row3_len, rowsS_len, reduceIte, Int.natCast_nonneg, Int.le_refl, List.length_append, List.length_map, Nat.sub_zero]) <;> ((repeat' (with_reducible refine And.intro ?_ ?_)) <;> first | exact trivial | assumption | (simp; done) | (simp only [List.length_map] at *; omega) | omega | (simp [D.cells, D.ok, D.one, D.pt, D.pt1]; done))))) | (refine GuardK_split (fun hc => ?_) (fun hc => ?_) <;> (try simp only [hc]) <;> (try simp at hc)) | (refine CondK_split (fun hc => ?_) (fun hc => ?_) <;> (try simp only [hc]) <;> (try simp at hc)) | (with_reducible refine And.intro ?_ ?_; (focus ((repeat' (with_reducible refine And.intro ?_ ?_)) <;> first | exact trivial | assumption | (simp; done) | (simp only [List.length_map] at *; omega) | omega | (simp [D.cells, D.ok, D.one, D.pt, D.pt1]; done)))) | (with_reducible intro x hx) | omega) <;> (try simp only [c1, nE, ro_nil, ro_mov, ro_build, ro_bin, ro_ext, ro_mn, ro_load, LoadK_ptr, LoadO_some, LoadR_some, rx_nil, rx_cons, keepK_nil, keepK_cons, keepE_nil, keepE_cons, keepN_nil, keepN_cons, D.names, acc_real, acc_nl, acc_pure, acc_fz, acc_sz, acc_rows, acc_spare, CondK_t, contP_some, lk_hit, lk_miss, Nat.reduceBEq, put_some, ev_t, ev_c, reduceIte, Nat.reduceAdd, Nat.reduceSub, Nat.reduceLeDiff, reduceCtorEq, binD, binInt, aggD, extD, mnD, loadD, fillD, splice, D.cells, D.ok, D.one, D.pt, D.pt1, D.pt0, D.norm1, true_and, and_true, and_self, Bool.true_and, Bool.and_true, Bool.or_true, List.getElem?_cons_zero, List.getElem?_cons_succ, List.length_cons, List.length_nil, List.length_append, List.length_drop, List.take_succ_cons, List.take_zero, List.take_nil, List.drop_succ_cons, List.drop_zero, List.drop_nil, List.cons_append, List.nil_append, List.append_nil, List.map_cons, List.map_nil, List.all_cons, List.all_nil, List.set_cons_zero, Option.map_some, Nat.zero_add, Nat.add_zero, decide_true, Nat.le_refl, Nat.lt_add_one, view, view2, view1, view0, mapO, capsD_fn, D.sc, D.sc1, D.sc2, pull, pull2, pull1, pull0, idx_hit, pullσ, pullOb, Go.Vi.freeze, capt, reachL, reachO, isin, merge, mset, renOb, fr, D.ren, List.getD_cons_zero]))
        refine hk ⟨(min n hi, O), hst, k1, k2⟩ _ _ k3 ?_
        dsimp only
        refine Ent_gc [0, 1, 2] (by rfl) (by simp) (by simp [keptW, ObKW, ObW, imp_self, acc_real, acc_nl, acc_pure, acc_fz, acc_sz, acc_rows, acc_spare, pullOb, or_false]) (by simp [lk_hit, lk_miss, D.pt0, viewS_own', pull, pull2, pull1, pull0, idx_hit, idx_miss, sucO_some, gate, List.mem_cons, or_false, view0])
    · have c1 : (at_ < hi) = False := by simpa using hlt
      have hfin : formS (sortS out) = canOf (winB b ts sh off w) := by
        refine Vi.Found.form hf (sortS_perm out) (sortS_sorted out) w fun m hm => ?_
        simp only [workB, Bool.and_eq_true, decide_eq_true_eq] at hm
        omega
      have hol := hf.2.2
      have hoL : out.length ≤ 10000000000 := by omega
      rw [← hfin]
      by_cases hne : out = []
      · subst hne
        have e : formS (sortS []) = [] := by
          have := sortS_len []
          rw [List.eq_nil_of_length_eq_zero this]; rfl
        rw [e]
        simp only [LS, show rowsS [] = [] from rfl, List.length_nil]
        refine Run_seq ?_
        refine Run_ent (Ent_emp (t := 9) (l := 0) (b := true) (pu := true) (sz := 2) rfl rfl) ?_
        repeat' ((first | refine Run_seq ?_ | refine Run_skip ?_ | refine Run_block ?_ | refine Run_blk ?_ | refine Run_exit rfl ?_ | refine Run_ret ?_ | refine Run_nil ?_ | refine Run_condK ?_ | refine Run_ops mixed ?_ | refine Run_opsX mixed ?_ | with_reducible refine PostV_open ?_ | with_reducible refine PostG_open ?_ | with_reducible refine PostQ_open ?_ | with_reducible refine ro_callA (f := .c (.fn 26 [])) ?_ | with_reducible refine ro_callA' (f := .c (.fn 26 [])) ?_ | with_reducible refine ro_callV ?_ | with_reducible refine ro_callVX ?_ | with_reducible refine CallE_use (joinedE_p) (by simp) ?_ | simp (disch := omega) only [w64, wu64, wu32, wu16, wu8, Int.tdiv_eq_ediv_of_nonneg, Int.tmod_eq_emod_of_nonneg] | (with_reducible refine SliceK_own rfl rfl ?_ ?_; (focus ((try simp only [row1_len, row2_len, row3_len, rowsS_len, reduceIte, Int.natCast_nonneg, Int.le_refl, List.length_append, List.length_map, Nat.sub_zero]) <;> ((repeat' (with_reducible refine And.intro ?_ ?_)) <;> first | exact trivial | assumption | (simp; done) | (simp only [List.length_map] at *; omega) | omega | (simp [D.cells, D.ok, D.one, D.pt, D.pt1]; done))))) | (refine GuardK_split (fun hc => ?_) (fun hc => ?_) <;> (try simp only [hc]) <;> (try simp at hc)) | (refine CondK_split (fun hc => ?_) (fun hc => ?_) <;> (try simp only [hc]) <;> (try simp at hc)) | (with_reducible refine And.intro ?_ ?_; (focus ((repeat' (with_reducible refine And.intro ?_ ?_)) <;> first | exact trivial | assumption | (simp; done) | (simp only [List.length_map] at *; omega) | omega | (simp [D.cells, D.ok, D.one, D.pt, D.pt1]; done)))) | (with_reducible intro x hx) | omega) <;> (try simp only [c1, ro_nil, ro_mov, ro_bin, viewS_own', CondK_f, contP_some, lk_hit, lk_miss, Nat.reduceBEq, put_some, ev_t, ev_c, reduceIte, Nat.reduceAdd, binD, binInt, D.pt0, D.norm1, true_and, List.length_cons, List.length_nil, List.drop_nil, List.append_nil, List.map_cons, List.map_nil, Nat.zero_add, decide_false, view, view2, view1, view0, mapO, capsD_fn, pull, pull2, pull1, pull0, pullσ, Go.Vi.freeze, capt, reachL, merge, mset, D.ren, resK_nil, resK_tmp, ofRes]))
        skip
      · have jn := joined_p out hne (by omega)
        have fl := formS_len (sortS out)
        rw [sortS_len] at fl
        generalize formS (sortS out) = J at jn fl ⊢
        generalize sortS out = S at jn
        repeat' ((first | refine Run_seq ?_ | refine Run_skip ?_ | refine Run_block ?_ | refine Run_blk ?_ | refine Run_exit rfl ?_ | refine Run_ret ?_ | refine Run_nil ?_ | refine Run_condK ?_ | refine Run_ops mixed ?_ | refine Run_opsX mixed ?_ | with_reducible refine PostV_open ?_ | with_reducible refine PostG_open ?_ | with_reducible refine PostQ_open ?_ | with_reducible refine ro_callA (f := .c (.fn 26 [])) ?_ | with_reducible refine ro_callA' (f := .c (.fn 26 [])) ?_ | with_reducible refine ro_callV ?_ | with_reducible refine ro_callVX ?_ | with_reducible refine CallE_use (jn) (by simp) ?_ | simp (disch := omega) only [w64, wu64, wu32, wu16, wu8, Int.tdiv_eq_ediv_of_nonneg, Int.tmod_eq_emod_of_nonneg] | (with_reducible refine SliceK_own rfl rfl ?_ ?_; (focus ((try simp only [row1_len, row2_len, row3_len, rowsS_len, reduceIte, Int.natCast_nonneg, Int.le_refl, List.length_append, List.length_map, Nat.sub_zero]) <;> ((repeat' (with_reducible refine And.intro ?_ ?_)) <;> first | exact trivial | assumption | (simp; done) | (simp only [List.length_map] at *; omega) | omega | (simp [D.cells, D.ok, D.one, D.pt, D.pt1]; done))))) | (refine GuardK_split (fun hc => ?_) (fun hc => ?_) <;> (try simp only [hc]) <;> (try simp at hc)) | (refine CondK_split (fun hc => ?_) (fun hc => ?_) <;> (try simp only [hc]) <;> (try simp at hc)) | (with_reducible refine And.intro ?_ ?_; (focus ((repeat' (with_reducible refine And.intro ?_ ?_)) <;> first | exact trivial | assumption | (simp; done) | (simp only [List.length_map] at *; omega) | omega | (simp [D.cells, D.ok, D.one, D.pt, D.pt1]; done)))) | (with_reducible intro x hx) | omega) <;> (try simp only [rowsS_len, c1, ro_nil, ro_mov, ro_bin, winD_all, viewS_own', viewO_some, acc_real, acc_nl, acc_pure, acc_fz, acc_sz, acc_rows, acc_spare, CondK_f, contP_some, lk_hit, lk_miss, Nat.reduceBEq, put_some, ev_t, ev_c, reduceIte, Nat.reduceAdd, reduceCtorEq, binD, binInt, D.pt0, D.norm1, true_and, and_self, Bool.true_and, Bool.true_or, List.getElem?_cons_zero, List.getElem?_cons_succ, List.length_cons, List.length_nil, List.drop_succ_cons, List.drop_zero, List.cons_append, List.nil_append, List.append_nil, List.map_cons, List.map_nil, List.set_cons_zero, Nat.zero_add, Nat.add_zero, Nat.sub_self, decide_false, Nat.lt_irrefl, view, view2, view1, view0, mapO, capsD_fn, pull, pull2, pull1, pull0, idx_hit, pullσ, pullOb, Go.Vi.freeze, capt, reachL, reachO, isin, merge, mset, renOb, fr, D.ren, List.getD_cons_succ, resK_nil, resK_tmp, ofRes]))
        skip
  · rw [hlg] at lg
    rw [Bool.not_true, if_neg (by simp)]
    simp only [LS, show rowsS [] = [] from rfl]
    repeat' ((first | refine Run_seq ?_ | refine Run_skip ?_ | refine Run_block ?_ | refine Run_blk ?_ | refine Run_exit rfl ?_ | refine Run_ret ?_ | refine Run_nil ?_ | refine Run_condK ?_ | refine Run_ops mixed ?_ | refine Run_opsX mixed ?_ | with_reducible refine PostV_open ?_ | with_reducible refine PostG_open ?_ | with_reducible refine PostQ_open ?_ | with_reducible refine ro_callV ?_ | with_reducible refine ro_callVX ?_ | refine CallV_pure (hm) ?_ ?_ | refine CallV_pure (zm) ?_ ?_ | refine CallV_pure (lg) ?_ ?_ | simp (disch := omega) only [w64, wu64, wu32, wu16, wu8, Int.tdiv_eq_ediv_of_nonneg, Int.tmod_eq_emod_of_nonneg] | (with_reducible refine SliceK_own rfl rfl ?_ ?_; (focus ((try simp only [row1_len, row2_len, row3_len, rowsS_len, reduceIte, Int.natCast_nonneg, Int.le_refl, List.length_append, List.length_map, Nat.sub_zero]) <;> ((repeat' (with_reducible refine And.intro ?_ ?_)) <;> first | exact trivial | assumption | (simp; done) | (simp only [List.length_map] at *; omega) | omega | (simp [D.cells, D.ok, D.one, D.pt, D.pt1]; done))))) | (refine GuardK_split (fun hc => ?_) (fun hc => ?_) <;> (try simp only [hc]) <;> (try simp at hc)) | (refine CondK_split (fun hc => ?_) (fun hc => ?_) <;> (try simp only [hc]) <;> (try simp at hc)) | (with_reducible refine And.intro ?_ ?_; (focus ((repeat' (with_reducible refine And.intro ?_ ?_)) <;> first | exact trivial | assumption | (simp; done) | (simp only [List.length_map] at *; omega) | omega | (simp [D.cells, D.ok, D.one, D.pt, D.pt1]; done)))) | (with_reducible intro x hx) | omega) <;> (try simp only [ro_nil, ro_mov, ro_pick, ro_un, ro_load, LoadK_ptr, LoadO_some, LoadR_some, ro_box, viewS_own', ro_guard, GuardK_ff, CondK_t, contP_some, lk_hit, lk_miss, Nat.reduceBEq, put_some, ev_t, ev_c, argEnv, reduceIte, Nat.reduceAdd, reduceCtorEq, okD, unD, pickD, loadD, D.cells, D.ok, D.one, D.pt, D.pt1, D.pt0, D.norm1, cond_false, true_and, and_self, Bool.and_true, Bool.not_true, Bool.or_true, List.getElem?_cons_zero, List.getElem?_cons_succ, List.length_cons, List.length_nil, List.take_succ_cons, List.take_nil, List.drop_zero, List.cons_append, List.nil_append, List.append_nil, List.map_cons, List.map_nil, List.all_cons, List.all_nil, ne_eq, not_false_eq_true, Option.map_some, Nat.zero_add, Nat.le_refl, Nat.lt_add_one, view, view2, view1, view0, mapO, capsD_fn, D.sc, D.sc1, D.sc2, resK_nil, resK_tmp, ofRes]))
end Go.Proofs.Ytoljgjdloegnoaa
