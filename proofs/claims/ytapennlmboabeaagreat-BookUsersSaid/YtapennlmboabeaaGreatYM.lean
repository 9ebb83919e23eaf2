import Derived.Test.YtapennlmboabeaaGreatYK
import Derived.Test.YtapennlmboabeaaGreatVi33
import Derived.Test.YtapennlmboabeaaGreatVi32
set_option linter.unusedVariables false
set_option linter.unusedSimpArgs false
set_option linter.unnecessarySimpa false
namespace Go.Proofs.YtapennlmboabeaaGreat
open Go Go.Vi
theorem rowE_len {l : List En} : (rowsE l).length = l.length := by simp [rowsE]
theorem rowU_len {l : List Us} : (rowsU l).length = l.length := by simp [rowsU]
theorem rowP_len {l : List Po} : (rowsP l).length = l.length := by simp [rowsP]
theorem rowE_get {l : List En} {i : Nat} {x : En} (h : l[i]? = some x) : (rowsE l)[i]? = some x.row := by simp [rowsE, h]
theorem rowU_get {l : List Us} {i : Nat} {x : Us} (h : l[i]? = some x) : (rowsU l)[i]? = some x.row := by simp [rowsU, h]
theorem rowP_get {l : List Po} {i : Nat} {x : Po} (h : l[i]? = some x) : (rowsP l)[i]? = some x.row := by simp [rowsP, h]
def eEn (x : En) : List UInt8 := num (uI x.id) ++ eEv x.ev
def xEn (x : En) : Bool := xEv x.ev
def fEn (x : En) : Prop := (0 ≤ x.id ∧ x.id ≤ 4294967295) ∧ fEv x.ev
theorem exYS1 : type_of% (an @Wr.eq_1 (an @r8_len (an @row1_len (an @row2_len (an @row3_len (an @rowQ_len (an @rowE_len (an @rowU_len @rowP_len)))))))) := (an @Wr.eq_1 (an @r8_len (an @row1_len (an @row2_len (an @row3_len (an @rowQ_len (an @rowE_len (an @rowU_len @rowP_len))))))))
theorem elEn_w (l : List UInt8) (bad : Bool) (x : En) (hx : fEn x) (hl : (l ++ eEn x).length ≤ 1099511627776) :
  CallG Tryz.prog 124 [.ptr 0 0 0 1, .ptr 1 0 0 1] [Va 17 x.row, Bx 2, Cw 3 bad, Ww 4 l.length, acc true 1 true (r8 l)] (.tup [])
   [Va 17 x.row, Bx 2, Cw 3 (bad || xEn x), Ww 4 (l ++ eEn x).length, acc true 1 true (r8 (l ++ eEn x))] := by
 refine callG Tryz.func124 low124 (by simp [c124]) ?_
 simp only [c124]
 obtain ⟨l1, e1⟩ : ∃ l1, l1 = l ++ num (uI x.id) := ⟨_, rfl⟩
 obtain ⟨l2, e2⟩ : ∃ l2, l2 = l1 ++ eEv x.ev := ⟨_, rfl⟩
 obtain ⟨b2, d2⟩ : ∃ b2, b2 = (bad || xEv x.ev) := ⟨_, rfl⟩
 have el : l ++ eEn x = l2 := by rw [e2, e1]; simp only [eEn, List.append_assoc]
 have eb : (bad || xEn x) = b2 := by rw [d2]; rfl
 rw [el] at hl
 rw [el, eb]
 have g1 : l1.length ≤ l2.length := by rw [e2, List.length_append]; omega
 have g0 : l.length ≤ l1.length := by rw [e1, List.length_append]; omega
 have h1 := name_w l bad 17 x.row 0 x.id rfl hx.1 (by omega)
 rw [← e1] at h1
 have h2 := cEv_w l1 bad 17 x.row 1 x.ev rfl rfl rfl rfl rfl rfl rfl rfl rfl rfl rfl rfl rfl rfl rfl rfl hx.2 (by rw [← e2]; omega)
 rw [← e2, ← d2] at h2
 clear e1 e2 d2 el eb
 generalize x.row = R at *
 refine wk [94, 125] [] exYS1 ?_
 exact rtw [0, 1, 2, 3, 4] exYS1
theorem rowEn_w (l : List UInt8) (bad : Bool) (sz : Nat) (R : List D) (j most : Nat) (xs : List En) (hR : R[j]? = some (L (rowsE xs))) (hm : most < 9223372036854775808) (hxl : xs.length ≤ 140737488351232) (hx : ∀ x ∈ xs, fEn x) (hl : (l ++ eRow eEn xs).length ≤ 1099511627776) :
  CallG Tryz.prog 123 [.ptr 0 0 0 1, .ptr 3 0 j 1, .int .i64 most, .fn 124 [.ptr 4 0 0 1]] [Cw 1 bad, Ww 2 l.length, acc true 1 true (r8 l), Va sz R, Bx 0] (.tup [])
   [Cw 1 (bad || xRow xEn most xs), Ww 2 (l ++ eRow eEn xs).length, acc true 1 true (r8 (l ++ eRow eEn xs)), Va sz R, Bx 0] :=
 rowS_w (rw_ := En.row) Tryz.func123 low123 (by decide) (by decide) rfl (fun _ => rfl) rfl rfl (fun _ => rfl) (fun _ => rfl) (fun _ => rfl) (fun l bad a => elEn_w l bad a) l bad sz R j most xs hR hm hxl hx hl
def eUs (u : Us) : List UInt8 := num (uI u.id) ++ (eSe u.se ++ (num (uI u.ver) ++ (eRow eEn u.evs)))
def xUs (u : Us) : Bool := xSe u.se || (xRow xEn 64 u.evs)
def fUs (u : Us) : Prop := (0 ≤ u.id ∧ u.id ≤ 4294967295) ∧ (fSe u.se ∧ ((0 ≤ u.ver ∧ u.ver ≤ 18446744073709551615) ∧ ((u.evs.length ≤ 140737488351232 ∧ ∀ x ∈ u.evs, fEn x))))
set_option maxHeartbeats 2000000 in
theorem cUs_w (l : List UInt8) (bad : Bool) (sz : Nat) (R : List D) (j : Nat) (u : Us)  (hR0 : R[j]? = some (.int .u32 u.id)) (hR1 : R[j + 1]? = some (.int .i64 u.se.base)) (hR2 : R[j + 2]? = some (L (row2 .i64 .i64 u.se.turns))) (hR3 : R[j + 3]? = some (L (row3 u.se.shifts))) (hR4 : R[j + 4]? = some (L (row1 .i64 u.se.off))) (hR5 : R[j + 5]? = some (.int .i64 u.se.before)) (hR6 : R[j + 6]? = some (.int .i64 u.se.after)) (hR7 : R[j + 7]? = some (.int .u64 u.ver)) (hR8 : R[j + 8]? = some (L (rowsE u.evs))) (hf : fUs u) (hl : (l ++ eUs u).length ≤ 1099511627776) :
  CallG Tryz.prog 89 [.ptr 0 0 0 1, .ptr 3 0 j 1] [Cw 1 bad, Ww 2 l.length, acc true 1 true (r8 l), Va sz R] (.tup [])
   [Cw 1 (bad || xUs u), Ww 2 (l ++ eUs u).length, acc true 1 true (r8 (l ++ eUs u)), Va sz R] := by
 refine callG Tryz.func89 low89 (by simp [c89]) ?_
 simp only [c89]
 unfold fUs at hf
 obtain ⟨l1, e1⟩ : ∃ l1, l1 = l ++ num (uI u.id) := ⟨_, rfl⟩
 obtain ⟨l2, e2⟩ : ∃ l2, l2 = l1 ++ eSe u.se := ⟨_, rfl⟩
 obtain ⟨b2, d2⟩ : ∃ b2, b2 = (bad || xSe u.se) := ⟨_, rfl⟩
 obtain ⟨l3, e3⟩ : ∃ l3, l3 = l2 ++ num (uI u.ver) := ⟨_, rfl⟩
 obtain ⟨l4, e4⟩ : ∃ l4, l4 = l3 ++ eRow eEn u.evs := ⟨_, rfl⟩
 obtain ⟨b4, d4⟩ : ∃ b4, b4 = (b2 || xRow xEn 64 u.evs) := ⟨_, rfl⟩
 have el : l ++ eUs u = l4 := by rw [e4, e3, e2, e1]; simp only [eUs, List.append_assoc]
 have eb : (bad || xUs u) = b4 := by rw [d4, d2]; simp only [xUs, Bool.or_assoc]
 rw [el] at hl
 rw [el, eb]
 have g3 : l3.length ≤ l4.length := by rw [e4, List.length_append]; omega
 have g2 : l2.length ≤ l3.length := by rw [e3, List.length_append]; omega
 have g1 : l1.length ≤ l2.length := by rw [e2, List.length_append]; omega
 have g0 : l.length ≤ l1.length := by rw [e1, List.length_append]; omega
 have h1 := name_w l bad sz R j u.id hR0 hf.1 (by omega)
 rw [← e1] at h1
 have h2 := cSe_w l1 bad sz R (j + 1) u.se hR1 hR2 hR3 hR4 hR5 hR6 hf.2.1 (by rw [← e2]; omega)
 rw [← e2, ← d2] at h2
 have h3 := big_w l2 b2 sz R (j + 7) u.ver hR7 hf.2.2.1 (by omega)
 rw [← e3] at h3
 have h4 := rowEn_w l3 b2 sz R (j + 8) 64 u.evs hR8 (by omega) hf.2.2.2.1 hf.2.2.2.2 (by rw [← e4]; omega)
 rw [← e4, ← d4] at h4
 clear e1 e2 e3 e4 d2 d4 el eb
 refine wk [94, 122, 95] [(123, [], [0, 1, 2, 3, 4])] exYS1 ?_
 exact rtw [0, 1, 2, 3] exYS1
set_option maxHeartbeats 4000000 in
theorem rowUs_w (l : List UInt8) (bad : Bool) (sz : Nat) (R : List D) (j most : Nat) (xs : List Us) (hR : R[j]? = some (L (rowsU xs))) (hm : most < 9223372036854775808) (hxl : xs.length ≤ 140737488351232) (hx : ∀ x ∈ xs, fUs x) (hl : (l ++ eRow eUs xs).length ≤ 1099511627776) :
  CallG Tryz.prog 88 [.ptr 0 0 0 1, .ptr 3 0 j 1, .int .i64 most, .fn 4185 [.ptr 0 0 0 1]] [Cw 1 bad, Ww 2 l.length, acc true 1 true (r8 l), Va sz R] (.tup [])
   [Cw 1 (bad || xRow xUs most xs), Ww 2 (l ++ eRow eUs xs).length, acc true 1 true (r8 (l ++ eRow eUs xs)), Va sz R] := by
 refine callG Tryz.func88 low88 (by simp [c88, rowC]) ?_
 simp only [c88, rowC]
 have ui : uI (xs.length : Int) = xs.length := by unfold uI; omega
 have hll : l.length ≤ 1099511627776 := by rw [List.length_append] at hl; omega
 have hn := numQ_w l bad 1 [.int .u64 xs.length] 0 most xs.length rfl (by omega) (by omega) hll
 rw [ui] at hn
 obtain ⟨l0, e0⟩ : ∃ l0, l0 = l ++ num xs.length := ⟨_, rfl⟩
 obtain ⟨b0, f0⟩ : ∃ b0, b0 = (bad || decide (most < xs.length)) := ⟨_, rfl⟩
 have el : l ++ eRow eUs xs = l0 ++ xs.flatMap eUs := by rw [e0]; simp [eRow]
 have eb : (bad || xRow xUs most xs) = (b0 || xs.any xUs) := by rw [f0]; simp [xRow, Bool.or_assoc]
 rw [el] at hl
 rw [el, eb]
 rw [← e0, ← f0] at hn
 clear el eb f0
 refine wk [95] [] (an exYS1 hR) ?_
 refine Run_loop (ι := {i : Nat // i ≤ xs.length}) (fun i => ([(1, .ptr 3 0 j 1), (3, .fn 4185 [.ptr 0 0 0 1]), (29, .int .i64 xs.length), (30, .int .i64 i.1)], [Cw 1 (b0 || (xs.take i.1).any xUs), Ww 2 (l0 ++ (xs.take i.1).flatMap eUs).length, acc true 1 true (r8 (l0 ++ (xs.take i.1).flatMap eUs)), Va sz R])) (fun i => xs.length - i.1) ⟨0, by omega⟩ ?_ ?_
 ·simp only [List.take_zero, List.flatMap_nil, List.any_nil, Bool.or_false, List.append_nil]
  exact gcw [0, 1, 2, 3] exYS1
  skip
 rintro ⟨i, hi⟩ hk
 dsimp only at hk ⊢
 by_cases hlt : i < xs.length
 ·have c1 : ((i : Int) < (xs.length : Int)) = True := by simp; omega
  obtain ⟨x, hg⟩ : ∃ x, xs[i]? = some x := ⟨_, List.getElem?_eq_getElem hlt⟩
  have hr := rowU_get hg
  have hxf := hx x (List.mem_of_getElem? hg)
  have hfm := fm_take eUs hg
  have han := any_take xUs hg
  have hle := fm_le eUs xs (i + 1)
  obtain ⟨li, ei⟩ : ∃ li, li = l0 ++ (xs.take i).flatMap eUs := ⟨_, rfl⟩
  obtain ⟨bi, fi⟩ : ∃ bi, bi = (b0 || (xs.take i).any xUs) := ⟨_, rfl⟩
  have ej : l0 ++ (xs.take (i + 1)).flatMap eUs = li ++ eUs x := by rw [ei, hfm, List.append_assoc]
  have fj : (b0 || (xs.take (i + 1)).any xUs) = (bi || xUs x) := by rw [fi, han, Bool.or_assoc]
  have hlj : (li ++ eUs x).length ≤ 1099511627776 := by rw [← ej]; simp only [List.length_append] at hl ⊢; omega
  have hw := cUs_w li bi 9 x.row 0 x rfl rfl rfl rfl rfl rfl rfl rfl rfl hxf hlj
  rw [← ei, ← fi]
  obtain ⟨lj, el⟩ : ∃ lj, lj = li ++ eUs x := ⟨_, rfl⟩
  obtain ⟨bj, fl⟩ : ∃ bj, bj = (bi || xUs x) := ⟨_, rfl⟩
  rw [← el, ← fl] at hw
  rw [← el] at ej
  rw [← fl] at fj
  have g2 : lj.length ≤ 1099511627776 := by rw [el]; exact hlj
  have g1 : li.length ≤ lj.length := by rw [el, List.length_append]; omega
  clear el fl ei fi
  unfold Us.row at hr hw
  refine wk [20039] [] (an exYS1 (an hR (an c1 hr))) ?_
  refine hk ⟨i + 1, by omega⟩ _ _ (by dsimp only; omega) ?_
  dsimp only
  rw [ej, fj]
  exact gcw [0, 1, 2, 3] exYS1
  skip
 ·have c1 : ((i : Int) < (xs.length : Int)) = False := by simp; omega
  obtain rfl : i = xs.length := by omega
  rw [List.take_length]
  refine wk [] [] (an exYS1 c1) ?_
  exact rtw [0, 1, 2, 3] exYS1
  skip
set_option maxHeartbeats 4000000 in
theorem rowPo_w (l : List UInt8) (bad : Bool) (sz : Nat) (R : List D) (j most : Nat) (xs : List Po) (hR : R[j]? = some (L (rowsP xs))) (hm : most < 9223372036854775808) (hxl : xs.length ≤ 140737488351232) (hx : ∀ x ∈ xs, fPo x) (hl : (l ++ eRow ePo xs).length ≤ 1099511627776) :
  CallG Tryz.prog 90 [.ptr 0 0 0 1, .ptr 3 0 j 1, .int .i64 most, .fn 4187 [.ptr 0 0 0 1]] [Cw 1 bad, Ww 2 l.length, acc true 1 true (r8 l), Va sz R] (.tup [])
   [Cw 1 (bad || xRow xPo most xs), Ww 2 (l ++ eRow ePo xs).length, acc true 1 true (r8 (l ++ eRow ePo xs)), Va sz R] := by
 refine callG Tryz.func90 low90 (by simp [c90, rowC]) ?_
 simp only [c90, rowC]
 have ui : uI (xs.length : Int) = xs.length := by unfold uI; omega
 have hll : l.length ≤ 1099511627776 := by rw [List.length_append] at hl; omega
 have hn := numQ_w l bad 1 [.int .u64 xs.length] 0 most xs.length rfl (by omega) (by omega) hll
 rw [ui] at hn
 obtain ⟨l0, e0⟩ : ∃ l0, l0 = l ++ num xs.length := ⟨_, rfl⟩
 obtain ⟨b0, f0⟩ : ∃ b0, b0 = (bad || decide (most < xs.length)) := ⟨_, rfl⟩
 have el : l ++ eRow ePo xs = l0 ++ xs.flatMap ePo := by rw [e0]; simp [eRow]
 have eb : (bad || xRow xPo most xs) = (b0 || xs.any xPo) := by rw [f0]; simp [xRow, Bool.or_assoc]
 rw [el] at hl
 rw [el, eb]
 rw [← e0, ← f0] at hn
 clear el eb f0
 refine wk [95] [] (an exYS1 hR) ?_
 refine Run_loop (ι := {i : Nat // i ≤ xs.length}) (fun i => ([(1, .ptr 3 0 j 1), (3, .fn 4187 [.ptr 0 0 0 1]), (29, .int .i64 xs.length), (30, .int .i64 i.1)], [Cw 1 (b0 || (xs.take i.1).any xPo), Ww 2 (l0 ++ (xs.take i.1).flatMap ePo).length, acc true 1 true (r8 (l0 ++ (xs.take i.1).flatMap ePo)), Va sz R])) (fun i => xs.length - i.1) ⟨0, by omega⟩ ?_ ?_
 ·simp only [List.take_zero, List.flatMap_nil, List.any_nil, Bool.or_false, List.append_nil]
  exact gcw [0, 1, 2, 3] exYS1
  skip
 rintro ⟨i, hi⟩ hk
 dsimp only at hk ⊢
 by_cases hlt : i < xs.length
 ·have c1 : ((i : Int) < (xs.length : Int)) = True := by simp; omega
  obtain ⟨x, hg⟩ : ∃ x, xs[i]? = some x := ⟨_, List.getElem?_eq_getElem hlt⟩
  have hr := rowP_get hg
  have hxf := hx x (List.mem_of_getElem? hg)
  have hfm := fm_take ePo hg
  have han := any_take xPo hg
  have hle := fm_le ePo xs (i + 1)
  obtain ⟨li, ei⟩ : ∃ li, li = l0 ++ (xs.take i).flatMap ePo := ⟨_, rfl⟩
  obtain ⟨bi, fi⟩ : ∃ bi, bi = (b0 || (xs.take i).any xPo) := ⟨_, rfl⟩
  have ej : l0 ++ (xs.take (i + 1)).flatMap ePo = li ++ ePo x := by rw [ei, hfm, List.append_assoc]
  have fj : (b0 || (xs.take (i + 1)).any xPo) = (bi || xPo x) := by rw [fi, han, Bool.or_assoc]
  have hlj : (li ++ ePo x).length ≤ 1099511627776 := by rw [← ej]; simp only [List.length_append] at hl ⊢; omega
  have hw := cPo_w li bi 16 x.row 0 x rfl rfl rfl rfl rfl rfl rfl rfl rfl rfl rfl rfl rfl rfl rfl rfl hxf hlj
  rw [← ei, ← fi]
  obtain ⟨lj, el⟩ : ∃ lj, lj = li ++ ePo x := ⟨_, rfl⟩
  obtain ⟨bj, fl⟩ : ∃ bj, bj = (bi || xPo x) := ⟨_, rfl⟩
  rw [← el, ← fl] at hw
  rw [← el] at ej
  rw [← fl] at fj
  have g2 : lj.length ≤ 1099511627776 := by rw [el]; exact hlj
  have g1 : li.length ≤ lj.length := by rw [el, List.length_append]; omega
  clear el fl ei fi
  unfold Po.row at hr hw
  refine wk [20039] [] (an exYS1 (an hR (an c1 hr))) ?_
  refine hk ⟨i + 1, by omega⟩ _ _ (by dsimp only; omega) ?_
  dsimp only
  rw [ej, fj]
  exact gcw [0, 1, 2, 3] exYS1
  skip
 ·have c1 : ((i : Int) < (xs.length : Int)) = False := by simp; omega
  obtain rfl : i = xs.length := by omega
  rw [List.take_length]
  refine wk [] [] (an exYS1 c1) ?_
  exact rtw [0, 1, 2, 3] exYS1
  skip
structure Sq where
 t : Int
 us : List Us
 ps : List Po
 ds : List (Int × Int × Int)
def Sq.cells (s : Sq) : List D := [.int .i64 s.t, L (rowsU s.us), L (rowsP s.ps), L (rowQ s.ds)]
def eSq (s : Sq) : List UInt8 := num (zz s.t) ++ (eRow eUs s.us ++ (eRow ePo s.ps ++ (eRow eDn s.ds)))
def xSq (s : Sq) : Bool := xRow xUs 100 s.us || (xRow xPo 50 s.ps || (xRow xDn 4096 s.ds))
def fSq (s : Sq) : Prop := Fit s.t ∧ ((s.us.length ≤ 140737488351232 ∧ ∀ x ∈ s.us, fUs x) ∧ ((s.ps.length ≤ 140737488351232 ∧ ∀ x ∈ s.ps, fPo x) ∧ ((s.ds.length ≤ 140737488351232 ∧ ∀ x ∈ s.ds, fDn x))))
set_option maxHeartbeats 2000000 in
theorem cSq_w (l : List UInt8) (bad : Bool) (sz : Nat) (R : List D) (j : Nat) (s : Sq)  (hR0 : R[j]? = some (.int .i64 s.t)) (hR1 : R[j + 1]? = some (L (rowsU s.us))) (hR2 : R[j + 2]? = some (L (rowsP s.ps))) (hR3 : R[j + 3]? = some (L (rowQ s.ds))) (hf : fSq s) (hl : (l ++ eSq s).length ≤ 1099511627776) :
  CallG Tryz.prog 56 [.ptr 0 0 0 1, .ptr 3 0 j 1] [Cw 1 bad, Ww 2 l.length, acc true 1 true (r8 l), Va sz R] (.tup [])
   [Cw 1 (bad || xSq s), Ww 2 (l ++ eSq s).length, acc true 1 true (r8 (l ++ eSq s)), Va sz R] := by
 refine callG Tryz.func56 low56 (by simp [c56]) ?_
 simp only [c56]
 unfold fSq at hf
 obtain ⟨l1, e1⟩ : ∃ l1, l1 = l ++ num (zz s.t) := ⟨_, rfl⟩
 obtain ⟨l2, e2⟩ : ∃ l2, l2 = l1 ++ eRow eUs s.us := ⟨_, rfl⟩
 obtain ⟨b2, d2⟩ : ∃ b2, b2 = (bad || xRow xUs 100 s.us) := ⟨_, rfl⟩
 obtain ⟨l3, e3⟩ : ∃ l3, l3 = l2 ++ eRow ePo s.ps := ⟨_, rfl⟩
 obtain ⟨b3, d3⟩ : ∃ b3, b3 = (b2 || xRow xPo 50 s.ps) := ⟨_, rfl⟩
 obtain ⟨l4, e4⟩ : ∃ l4, l4 = l3 ++ eRow eDn s.ds := ⟨_, rfl⟩
 obtain ⟨b4, d4⟩ : ∃ b4, b4 = (b3 || xRow xDn 4096 s.ds) := ⟨_, rfl⟩
 have el : l ++ eSq s = l4 := by rw [e4, e3, e2, e1]; simp only [eSq, List.append_assoc]
 have eb : (bad || xSq s) = b4 := by rw [d4, d3, d2]; simp only [xSq, Bool.or_assoc]
 rw [el] at hl
 rw [el, eb]
 have g3 : l3.length ≤ l4.length := by rw [e4, List.length_append]; omega
 have g2 : l2.length ≤ l3.length := by rw [e3, List.length_append]; omega
 have g1 : l1.length ≤ l2.length := by rw [e2, List.length_append]; omega
 have g0 : l.length ≤ l1.length := by rw [e1, List.length_append]; omega
 have h1 := minutes_w l bad sz R j s.t hR0 hf.1 (by omega)
 rw [← e1] at h1
 have h2 := rowUs_w l1 bad sz R (j + 1) 100 s.us hR1 (by omega) hf.2.1.1 hf.2.1.2 (by rw [← e2]; omega)
 rw [← e2, ← d2] at h2
 have h3 := rowPo_w l2 b2 sz R (j + 2) 50 s.ps hR2 (by omega) hf.2.2.1.1 hf.2.2.1.2 (by rw [← e3]; omega)
 rw [← e3, ← d3] at h3
 have h4 := rowDn_w l3 b3 sz R (j + 3) 4096 s.ds hR3 (by omega) hf.2.2.2.1 hf.2.2.2.2 (by rw [← e4]; omega)
 rw [← e4, ← d4] at h4
 clear e1 e2 e3 e4 d2 d3 d4 el eb
 refine wk [87, 88, 90] [(92, [], [0, 1, 2, 3, 4])] exYS1 ?_
 exact rtw [0, 1, 2, 3] exYS1
end Go.Proofs.YtapennlmboabeaaGreat

namespace Go.Proofs.YtapennlmboabeaaGreat
open Go Go.Vi
def Z17 : List D := [.int .u32 0, .int .i64 0, .int .i64 0, .bool false, .bool false, .int .i64 0, .int .i64 0, .int .i64 0, .int .i64 0, .list (some true) true [], .list (some true) true [], .list (some true) true [], .list (some true) true [], .int .i64 0, .list (some true) true [], .list (some true) true [], .list (some true) true []]
def rEn (s : Rs) : En × Rs :=
 match rqN 4294967295 s with
 | (v1, s1) =>
 match rEv s1 with
 | (v2, s2) =>
 (⟨v1, v2⟩, s2)
theorem rEn_le (s : Rs) : (rEn s).2.l.length ≤ s.l.length := by
 unfold rEn
 have g1 := (rqN_le 4294967295 (by omega) s).1
 generalize rqN 4294967295 s = q1 at g1 ⊢
 obtain ⟨v1, s1⟩ := q1
 dsimp only at g1 ⊢
 have g2 := rEv_le s1
 generalize rEv s1 = q2 at g2 ⊢
 obtain ⟨v2, s2⟩ := q2
 dsimp only at g2 ⊢
 omega
theorem exYS2 : type_of% (an @Wr.eq_1 (an @r8_len (an @row1_len (an @row2_len (an @row3_len (an @rowQ_len (an @rowE_len (an @rowU_len @rowP_len)))))))) := (an @Wr.eq_1 (an @r8_len (an @row1_len (an @row2_len (an @row3_len (an @rowQ_len (an @rowE_len (an @rowU_len @rowP_len))))))))
set_option maxHeartbeats 8000000 in
theorem elEn_r (s : Rs) (hl : s.l.length ≤ 1099511627776) :
  CallG Tryz.prog 124 [.ptr 0 0 0 1, .ptr 1 0 0 1] [Va 17 Z17, Bx 2, Cr 3 s.cb, Rd s.l s.rb] (.tup [])
   [Va 17 (rEn s).1.row, Bx 2, Cr 3 (rEn s).2.cb, Rd (rEn s).2.l (rEn s).2.rb] := by
 unfold rEn
 obtain ⟨R, eR⟩ : ∃ R, R = Z17 := ⟨_, rfl⟩
 rw [← eR]
 have hN9 : R[9]? = some (.list (some true) true []) := by subst eR; rfl
 have hN10 : R[10]? = some (.list (some true) true []) := by subst eR; rfl
 have hN11 : R[11]? = some (.list (some true) true []) := by subst eR; rfl
 have hN12 : R[12]? = some (.list (some true) true []) := by subst eR; rfl
 have hN14 : R[14]? = some (.list (some true) true []) := by subst eR; rfl
 have hN15 : R[15]? = some (.list (some true) true []) := by subst eR; rfl
 have hN16 : R[16]? = some (.list (some true) true []) := by subst eR; rfl
 have z0 : R.length = 17 := by subst eR; rfl
 have g1 := (rqN_le 4294967295 (by omega) s).1
 have h1 : CallG Tryz.prog 94 [.ptr 0 0 0 1, .ptr 2 0 0 1] [Cr 1 s.cb, Rd s.l s.rb, Va 17 R] (.tup []) [Cr 1 (rqN 4294967295 s).2.cb, Rd (rqN 4294967295 s).2.l (rqN 4294967295 s).2.rb, Va 17 (R.set 0 (.int .u32 (((rqN 4294967295 s).1 : Nat) : Int)))] := name_r s.l s.rb s.cb 17 R 0 (by omega) (by omega) (by omega)
 generalize rqN 4294967295 s = q1 at h1 g1 ⊢
 obtain ⟨v1, s1⟩ := q1
 dsimp only at h1 g1 ⊢
 obtain ⟨R1, e1⟩ : ∃ R1, R1 = R.set 0 (.int .u32 ((v1 : Nat) : Int)) := ⟨_, rfl⟩
 rw [← e1] at h1
 have z1 : R1.length = 17 := by rw [e1, List.length_set] <;> exact z0
 have k1 : ∀ x : Nat, x ≠ 0 → R1[x]? = R[x]? := fun x hx => by rw [e1, List.getElem?_set_ne (by omega)]
 have g2 := rEv_le s1
 have h2 : CallG Tryz.prog 125 [.ptr 0 0 0 1, .ptr 2 0 1 1] [Cr 1 s1.cb, Rd s1.l s1.rb, Va 17 R1] (.tup []) [Cr 1 (rEv s1).2.cb, Rd (rEv s1).2.l (rEv s1).2.rb, Va 17 (evR R1 1 (rEv s1).1)] := cEv_r s1 17 R1 1 (by rw [k1 _ (by omega)]; exact hN9) (by rw [k1 _ (by omega)]; exact hN10) (by rw [k1 _ (by omega)]; exact hN11) (by rw [k1 _ (by omega)]; exact hN12) (by rw [k1 _ (by omega)]; exact hN14) (by rw [k1 _ (by omega)]; exact hN15) (by rw [k1 _ (by omega)]; exact hN16) (by omega) (by omega) (by omega)
 have f := rEv_form s1
 generalize rEv s1 = q2 at h2 g2 f ⊢
 obtain ⟨v2, s2⟩ := q2
 dsimp only at h2 g2 f ⊢
 obtain ⟨R2, e2⟩ : ∃ R2, R2 = evR R1 1 v2 := ⟨_, rfl⟩
 rw [← e2] at h2
 have hm : R2.map nl1 = (⟨v1, v2⟩ : En).row := by
  rw [e2, e1, eR]
  obtain ⟨w1, w2, w3, w4, w5, w6, w7, w8⟩ := v2
  dsimp only at f
  rcases f with ⟨rfl, rfl⟩ | ⟨rfl, rfl, rfl, rfl, rfl⟩ <;> rfl
 have key : CallG Tryz.prog 124 [.ptr 0 0 0 1, .ptr 1 0 0 1] [Va 17 R, Bx 2, Cr 3 s.cb, Rd s.l s.rb] (.tup []) [Va 17 R2, Bx 2, Cr 3 s2.cb, Rd s2.l s2.rb] := by
  clear hm f eR e1 e2 z0 z1 k1
  refine callG Tryz.func124 low124 (by simp [c124]) ?_
  simp only [c124]
  refine wk [94, 125] [] exYS2 ?_
  exact rtw [0, 1, 2, 3] exYS2
 exact key.nlO 0 _ rfl rfl rfl rfl hm
theorem rowEn_r (s : Rs) (sz : Nat) (R : List D) (j most : Nat) (hR : R[j]? = some (.list (some true) true [])) (hz : R.length = sz) (hm : most < 1000000) (hl : s.l.length ≤ 1099511627776) :
  CallG Tryz.prog 123 [.ptr 0 0 0 1, .ptr 2 0 j 1, .int .i64 most, .fn 124 [.ptr 3 0 0 1]] [Cr 1 s.cb, Rd s.l s.rb, Va sz R, Bx 0] (.tup [])
   [Cr 1 (rRow rEn most s).2.cb, Rd (rRow rEn most s).2.l (rRow rEn most s).2.rb, Va sz (R.set j (L (rowsE (rRow rEn most s).1))), Bx 0] :=
 rowS_r (rw_ := En.row) Tryz.func123 low123 (by decide) (by decide) (by decide) rfl (fun _ => rfl) rfl rfl (fun _ => rfl) (fun _ => rfl) (fun _ => rfl) rEn_le elEn_r s sz R j most hR hz hm hl
def rUs (s : Rs) : (Us) × Rs :=
 match rqN 4294967295 s with
 | (v1, s1) =>
 match rSe s1 with
 | (v2, s2) =>
 match rqN 18446744073709551615 s2 with
 | (v3, s3) =>
 match rRow rEn 64 s3 with
 | (v4, s4) =>
  (⟨v1, v2, v3, v4⟩, s4)
theorem rUs_le (s : Rs) : (rUs s).2.l.length ≤ s.l.length := by
 unfold rUs
 have g1 := (rqN_le 4294967295 (by omega) s).1
 generalize rqN 4294967295 s = q1 at g1 ⊢
 obtain ⟨v1, s1⟩ := q1
 dsimp only at g1 ⊢
 have g2 := rSe_le s1
 generalize rSe s1 = q2 at g2 ⊢
 obtain ⟨v2, s2⟩ := q2
 dsimp only at g2 ⊢
 have g3 := (rqN_le 18446744073709551615 (by omega) s2).1
 generalize rqN 18446744073709551615 s2 = q3 at g3 ⊢
 obtain ⟨v3, s3⟩ := q3
 dsimp only at g3 ⊢
 have g4 := rRow_le rEn_le 64 (by omega) s3
 generalize rRow rEn 64 s3 = q4 at g4 ⊢
 obtain ⟨v4, s4⟩ := q4
 dsimp only at g4 ⊢
 omega
set_option maxHeartbeats 4000000 in
theorem cUs_r (s : Rs) (sz : Nat) (R : List D) (j : Nat) (hN2 : R[j + 2]? = some (.list (some true) true [])) (hN3 : R[j + 3]? = some (.list (some true) true [])) (hN4 : R[j + 4]? = some (.list (some true) true [])) (hN8 : R[j + 8]? = some (.list (some true) true [])) (hz : R.length = sz) (hj : j + 9 ≤ sz) (hl : s.l.length ≤ 1099511627776) :
  CallG Tryz.prog 89 [.ptr 0 0 0 1, .ptr 2 0 j 1] [Cr 1 s.cb, Rd s.l s.rb, Va sz R] (.tup [])
   [Cr 1 (rUs s).2.cb, Rd (rUs s).2.l (rUs s).2.rb, Va sz (setL R j [.int .u32 (rUs s).1.id, .int .i64 (rUs s).1.se.base, L (row2 .i64 .i64 (rUs s).1.se.turns), L (row3 (rUs s).1.se.shifts), L (row1 .i64 (rUs s).1.se.off), .int .i64 (rUs s).1.se.before, .int .i64 (rUs s).1.se.after, .int .u64 (rUs s).1.ver, L (rowsE (rUs s).1.evs)])] := by
 refine callG Tryz.func89 low89 (by simp [c89]) ?_
 simp only [c89]
 unfold rUs
 have z0 := hz
 have k0 : ∀ x, j + 0 ≤ x → R[x]? = R[x]? := fun _ _ => rfl
 have g1 := (rqN_le 4294967295 (by omega) s).1
 have h1 : CallG Tryz.prog 94 [.ptr 0 0 0 1, .ptr 2 0 j 1] [Cr 1 s.cb, Rd s.l s.rb, Va sz R] (.tup []) [Cr 1 (rqN 4294967295 s).2.cb, Rd (rqN 4294967295 s).2.l (rqN 4294967295 s).2.rb, Va sz (R.set j (.int .u32 (((rqN 4294967295 s).1 : Nat) : Int)))] := name_r s.l s.rb s.cb sz R j (by omega) (by omega) (by omega)
 generalize rqN 4294967295 s = q1 at h1 g1 ⊢
 obtain ⟨v1, s1⟩ := q1
 dsimp only at h1 g1 ⊢
 obtain ⟨R1, e1⟩ : ∃ R1, R1 = R.set j (.int .u32 ((v1 : Nat) : Int)) := ⟨_, rfl⟩
 rw [← e1] at h1
 have z1 : R1.length = sz := by rw [e1, List.length_set]; exact z0
 have k1 : ∀ x, j + 1 ≤ x → R1[x]? = R[x]? := fun x hx => by rw [e1, List.getElem?_set_ne (by omega)] <;> exact k0 x (by omega)
 have g2 := rSe_le s1
 have h2 : CallG Tryz.prog 122 [.ptr 0 0 0 1, .ptr 2 0 (j + 1) 1] [Cr 1 s1.cb, Rd s1.l s1.rb, Va sz R1] (.tup []) [Cr 1 (rSe s1).2.cb, Rd (rSe s1).2.l (rSe s1).2.rb, Va sz (setL R1 (j + 1) [.int .i64 (rSe s1).1.base, L (row2 .i64 .i64 (rSe s1).1.turns), L (row3 (rSe s1).1.shifts), L (row1 .i64 (rSe s1).1.off), .int .i64 (rSe s1).1.before, .int .i64 (rSe s1).1.after])] := cSe_r s1 sz R1 (j + 1) (by rw [k1 _ (by omega)]; exact hN2) (by rw [k1 _ (by omega)]; exact hN3) (by rw [k1 _ (by omega)]; exact hN4) (by omega) (by omega) (by omega)
 generalize rSe s1 = q2 at h2 g2 ⊢
 obtain ⟨v2, s2⟩ := q2
 dsimp only at h2 g2 ⊢
 obtain ⟨R2, e2⟩ : ∃ R2, R2 = setL R1 (j + 1) [.int .i64 v2.base, L (row2 .i64 .i64 v2.turns), L (row3 v2.shifts), L (row1 .i64 v2.off), .int .i64 v2.before, .int .i64 v2.after] := ⟨_, rfl⟩
 rw [← e2] at h2
 have z2 : R2.length = sz := by rw [e2, setL_len]; exact z1
 have k2 : ∀ x, j + 7 ≤ x → R2[x]? = R[x]? := fun x hx => by rw [e2, setL_far _ _ _ _ (by simp only [List.length_cons, List.length_nil]; omega)] <;> exact k1 x (by omega)
 have g3 := (rqN_le 18446744073709551615 (by omega) s2).1
 have h3 : CallG Tryz.prog 95 [.ptr 0 0 0 1, .ptr 2 0 (j + 7) 1, .int .u64 18446744073709551615] [Cr 1 s2.cb, Rd s2.l s2.rb, Va sz R2] (.tup []) [Cr 1 (rqN 18446744073709551615 s2).2.cb, Rd (rqN 18446744073709551615 s2).2.l (rqN 18446744073709551615 s2).2.rb, Va sz (R2.set (j + 7) (.int .u64 (((rqN 18446744073709551615 s2).1 : Nat) : Int)))] := numQ_r s2.l s2.rb s2.cb sz R2 (j + 7) 18446744073709551615 (by omega) (by omega) (by omega) (by omega)
 generalize rqN 18446744073709551615 s2 = q3 at h3 g3 ⊢
 obtain ⟨v3, s3⟩ := q3
 dsimp only at h3 g3 ⊢
 obtain ⟨R3, e3⟩ : ∃ R3, R3 = R2.set (j + 7) (.int .u64 ((v3 : Nat) : Int)) := ⟨_, rfl⟩
 rw [← e3] at h3
 have z3 : R3.length = sz := by rw [e3, List.length_set]; exact z2
 have k3 : ∀ x, j + 8 ≤ x → R3[x]? = R[x]? := fun x hx => by rw [e3, List.getElem?_set_ne (by omega)] <;> exact k2 x (by omega)
 have g4 := rRow_le rEn_le 64 (by omega) s3
 have h4 : CallG Tryz.prog 123 [.ptr 0 0 0 1, .ptr 2 0 (j + 8) 1, .int .i64 64, .fn 124 [.ptr 3 0 0 1]] [Cr 1 s3.cb, Rd s3.l s3.rb, Va sz R3, Bx 0] (.tup []) [Cr 1 (rRow rEn 64 s3).2.cb, Rd (rRow rEn 64 s3).2.l (rRow rEn 64 s3).2.rb, Va sz (R3.set (j + 8) (L (rowsE (rRow rEn 64 s3).1))), Bx 0] := rowEn_r s3 sz R3 (j + 8) 64 (by rw [k3 _ (by omega)]; exact hN8) (by omega) (by omega) (by omega)
 generalize rRow rEn 64 s3 = q4 at h4 g4 ⊢
 obtain ⟨v4, s4⟩ := q4
 dsimp only at h4 g4 ⊢
 obtain ⟨R4, e4⟩ : ∃ R4, R4 = R3.set (j + 8) (L (rowsE v4)) := ⟨_, rfl⟩
 rw [← e4] at h4
 have z4 : R4.length = sz := by rw [e4, List.length_set]; exact z3
 have k4 : ∀ x, j + 9 ≤ x → R4[x]? = R[x]? := fun x hx => by rw [e4, List.getElem?_set_ne (by omega)] <;> exact k3 x (by omega)
 have eR : setL R j [.int .u32 (⟨v1, v2, v3, v4⟩ : Us).id, .int .i64 (⟨v1, v2, v3, v4⟩ : Us).se.base, L (row2 .i64 .i64 (⟨v1, v2, v3, v4⟩ : Us).se.turns), L (row3 (⟨v1, v2, v3, v4⟩ : Us).se.shifts), L (row1 .i64 (⟨v1, v2, v3, v4⟩ : Us).se.off), .int .i64 (⟨v1, v2, v3, v4⟩ : Us).se.before, .int .i64 (⟨v1, v2, v3, v4⟩ : Us).se.after, .int .u64 (⟨v1, v2, v3, v4⟩ : Us).ver, L (rowsE (⟨v1, v2, v3, v4⟩ : Us).evs)] = R4 := by rw [e4, e3, e2, e1] <;> rfl
 rw [eR]
 clear eR e1 e2 e3 e4 k0 k1 k2 k3 k4 z1 z2 z3 z4
 refine wk [94, 122, 95] [(123, [], [0, 1, 2, 3])] exYS2 ?_
 exact rtw [0, 1, 2] exYS2
set_option maxHeartbeats 16000000 in
theorem rowUs_r (s : Rs) (sz : Nat) (R : List D) (j most : Nat) (hR : R[j]? = some (.list (some true) true [])) (hz : R.length = sz) (hm : most < 1000000) (hl : s.l.length ≤ 1099511627776) :
  CallG Tryz.prog 88 [.ptr 0 0 0 1, .ptr 2 0 j 1, .int .i64 most, .fn 4185 [.ptr 0 0 0 1]] [Cr 1 s.cb, Rd s.l s.rb, Va sz R] (.tup [])
   [Cr 1 (rRow rUs most s).2.cb, Rd (rRow rUs most s).2.l (rRow rUs most s).2.rb, Va sz (R.set j (L (rowsU (rRow rUs most s).1)))] := by
 refine callG Tryz.func88 low88 (by simp [c88, rowC]) ?_
 simp only [c88, rowC]
 have hn : CallG Tryz.prog 95 [.ptr 0 0 0 1, .ptr 2 0 0 1, .int .u64 most] [Cr 1 s.cb, Rd s.l s.rb, Va 1 [.int .u64 0]] (.tup []) [Cr 1 (rqN most s).2.cb, Rd (rqN most s).2.l (rqN most s).2.rb, Va 1 [.int .u64 (rqN most s).1]] := numQ_r s.l s.rb s.cb 1 [.int .u64 0] 0 most rfl (by omega) (by omega) hl
 obtain ⟨X, hX⟩ : ∃ X, rRow rUs most s = X := ⟨_, rfl⟩
 rw [hX]
 unfold rRow at hX
 obtain ⟨g1, g2⟩ := rqN_le most (by omega) s
 generalize rqN most s = q at hn hX g1 g2
 obtain ⟨n, s0⟩ := q
 dsimp only at hn hX g1 g2
 have hj : j < R.length := (List.getElem?_eq_some_iff.1 hR).1
 have z0 : (((0 : Nat) : Int)) = 0 := rfl
 refine Run_pure 2 rfl rfl fun hpt => ?_
 have hpt : ∀ x ∈ R, x.pt1 = true := fun x hx => hpt R (by simp) x hx
 have own1 : ∀ d : D, (R.set j d)[j]? = some d := fun d => by rw [List.getElem?_set_self hj]
 have own2 : ∀ d e : D, (R.set j d).take j ++ [e] ++ (R.set j d).drop (j + 1) = R.set j e := fun d e => by
  rw [spl1 (by rw [List.length_set]; exact hj), List.set_set]
 have pl5 : ∀ (σ : List Ob) (k n : Nat), mapO (pull1 true [0, 1, 2, 4] σ) (R.set j (.own 4 0 k n 9 none)) = some (R.set j (.own 3 0 k n 9 none)) := fun σ k n => pull_own hpt rfl
 have pl4 : ∀ (σ : List Ob) (k n : Nat), mapO (pull1 true [0, 1, 2, 3] σ) (R.set j (.own 3 0 k n 9 none)) = some (R.set j (.own 3 0 k n 9 none)) := fun σ k n => pull_own hpt rfl
 have plL : ∀ (σ : List Ob) (rows : List (List D)), mapO (pull1 true [0, 1, 2] σ) (R.set j (.list none false rows)) = some (R.set j (.list none false rows)) := fun σ rows => pull_pt hpt rfl
 have allL : ∀ rows : List (List D), (R.set j (.list none false rows)).all D.pt1 = true := fun rows => all_set hpt rfl
 have hz' : (j + 1 ≤ sz) = True := eq_true (by omega)
 refine wk [95] [] (an exYS2 (an hR z0)) ?_
 refine Run_ent (Ent_accC (l := 2) (j := 0) (i := j) (b := true) 9 true (by decide) rfl rfl rfl rfl hR) ?_
 refine Run_loop (ι := {p : Nat × Rs × List Us // rowGo rUs p.1 p.2.1 p.2.2 = X ∧ p.2.2.length + p.1 = n ∧ p.2.1.l.length ≤ s0.l.length}) (fun p => ([(0, .ptr 0 0 0 1), (1, .ptr 2 0 j 1), (3, .fn 4185 [.ptr 0 0 0 1]), (42, .int .u64 n), (43, .int .u64 p.1.2.2.length)],
  [Cr 1 p.1.2.1.cb, Rd p.1.2.1.l p.1.2.1.rb, ⟨true, false, false, false, sz, [R.set j (.own 3 0 p.1.2.2.length p.1.2.2.length 9 none)], some 0⟩, acc true 9 true (rowsU p.1.2.2)])) (fun p => p.1.1) ⟨(n, s0, []), hX, by simp, Nat.le_refl _⟩ ?_ ?_
 ·simp only [List.length_nil, show rowsU [] = [] from rfl]
  exact gcw [0, 1, 2, 4] (an exYS2 pl5)
  skip
 rintro ⟨⟨k, s1, xs⟩, hk1, hk2, hk3⟩ hk
 dsimp only at hk1 hk2 hk3 hk ⊢
 have fin : ∀ (env : Env) (ys : List Us) (s2 : Rs) (ex : List Ob), Ent [Cr 1 s.cb, Rd s.l s.rb, Va sz R] env (Cr 1 s2.cb :: Rd s2.l s2.rb :: ⟨true, false, false, false, sz, [R.set j (.own 3 0 ys.length ys.length 9 none)], some 0⟩ :: acc true 9 true (rowsU ys) :: ex) env
   (Cr 1 s2.cb :: Rd s2.l s2.rb :: ⟨true, false, false, false, sz, [R.set j (L (rowsU ys))], some 0⟩ :: { acc true 9 true (rowsU ys) with fz := true } :: ex) := fun env ys s2 ex => by
  refine Ent.trans (Ent_freeze 3) ?_
  have := Ent_cellF (base := [Cr 1 s.cb, Rd s.l s.rb, Va sz R]) (env := env) (σ := Cr 1 s2.cb :: Rd s2.l s2.rb :: ⟨true, false, false, false, sz, [R.set j (.own 3 0 ys.length ys.length 9 none)], some 0⟩ :: { acc true 9 true (rowsU ys) with fz := true } :: ex) (l := 2) (j := 0) (i := j) (m := 3) (rows := rowsU ys) rfl rfl rfl rfl (own1 _) rfl rfl (by
   rw [viewS_own']
   show viewO (some _) _ _ _ = _
   rw [viewO_some]
   simp [acc_rows, acc_pure, rowU_len, winD_all])
  simp only [List.set_cons_zero, List.set_cons_succ, List.set_set] at this
  exact this
 by_cases hlt : 0 < k
 ·obtain ⟨k, rfl⟩ : ∃ k', k = k' + 1 := ⟨k - 1, by omega⟩
  have c1 : (((xs.length : Nat) : Int) < ((n : Nat) : Int)) = True := by simp; omega
  have he : CallG Tryz.prog 89 [.ptr 0 0 0 1, .ptr 2 0 0 1] [Cr 1 s1.cb, Rd s1.l s1.rb, Va 9 [.int .u32 0, .int .i64 0, .list (some true) true [], .list (some true) true [], .list (some true) true [], .int .i64 0, .int .i64 0, .int .u64 0, .list (some true) true []]] (.tup []) [Cr 1 (rUs s1).2.cb, Rd (rUs s1).2.l (rUs s1).2.rb, Va 9 (rUs s1).1.row] := cUs_r s1 9 [.int .u32 0, .int .i64 0, .list (some true) true [], .list (some true) true [], .list (some true) true [], .int .i64 0, .int .i64 0, .int .u64 0, .list (some true) true []] 0 rfl rfl rfl rfl rfl (by omega) (by omega)
  have hle := rUs_le s1
  unfold rowGo at hk1
  generalize rUs s1 = q at he hk1 hle
  obtain ⟨v, s2⟩ := q
  dsimp only at he hk1 hle
  have hcell : v.row = [.int .u32 v.id, .int .i64 v.se.base, L (row2 .i64 .i64 v.se.turns), L (row3 v.se.shifts), L (row1 .i64 v.se.off), .int .i64 v.se.before, .int .i64 v.se.after, .int .u64 v.ver, L (rowsE v.evs)] := rfl
  rw [hcell] at he
  by_cases hb : s2.rb = true ∨ s2.cb = true
  ·rw [if_pos hb] at hk1
   rw [← hk1]
   obtain ⟨l2, rb2, cb2⟩ := s2
   dsimp only at he hb ⊢
   cases rb2
   ·obtain rfl : cb2 = true := by simpa using hb
    repeat' ((first | refine Run_seq ?_ | refine Run_skip ?_ | refine Run_block ?_ | refine Run_blk ?_ | refine Run_exit rfl ?_ | refine Run_nil ?_ | refine Run_condK ?_ | refine Run_ops mixed ?_ | refine Run_opsX mixed ?_ | with_reducible refine PostV_open ?_ | with_reducible refine PostG_open ?_ | with_reducible refine PostQ_open ?_ | with_reducible refine ro_callB (f := .t 45) ?_ | with_reducible refine ro_callB' (f := .t 45) ?_ | with_reducible refine ro_callV ?_ | with_reducible refine ro_callVX ?_ | with_reducible refine CallE_use (he) (by simp) ?_ | refine CallV_pure (bad_p _ _) ?_ ?_ | simp (disch := omega) only [w64, wu64, wu32, wu16, wu8, Int.tdiv_eq_ediv_of_nonneg, Int.tmod_eq_emod_of_nonneg] | (with_reducible refine SliceK_own rfl rfl ?_ ?_; (focus ((try simp only [Wr, r8_len, row1_len, row2_len, row3_len, rowQ_len, rowE_len, rowU_len, rowP_len, reduceIte, Int.natCast_nonneg, Int.le_refl, List.length_append, List.length_map, Nat.sub_zero]) <;> ((repeat' (with_reducible refine And.intro ?_ ?_)) <;> first | exact trivial | assumption | (simp; done) | (simp only [List.length_map] at *; omega) | omega | (simp [D.cells, D.ok, D.one, D.pt, D.pt1]; done) | exact r8_sz)))) | (refine GuardK_split (fun hc => ?_) (fun hc => ?_) <;> (try simp only [hc]) <;> (try simp at hc)) | (refine CondK_split (fun hc => ?_) (fun hc => ?_) <;> (try simp only [hc]) <;> (try simp at hc)) | (with_reducible refine And.intro ?_ ?_; (focus ((repeat' (with_reducible refine And.intro ?_ ?_)) <;> first | exact trivial | assumption | (simp; done) | (simp only [List.length_map] at *; omega) | omega | (simp [D.cells, D.ok, D.one, D.pt, D.pt1]; done) | exact r8_sz))) | (with_reducible intro x hx) | omega) <;> (try simp only [Wr, r8_len, row1_len, row2_len, row3_len, rowQ_len, rowE_len, rowU_len, rowP_len, c1, ro_nil, oo_def, om_def, ol_def, oa_def, on_def, og_def, gm_def, gl_def, ga_def, kc_def, kx_def, gk_def, kk_def, kb_def, pf_def, pt_def, ro_mov, ro_mkfn, ro_pick, ro_build, ro_slit, SlitK_t, SlitK_f, ro_chk, ro_bin, ro_eq, ro_un, ro_conv, ro_same, ro_b2s, ro_faddr, ro_fld, ro_idx, ro_ext, ro_len, ro_mx, ro_mn, ro_slice, SliceK_str, SliceK_list, ro_slice3, ro_load, LoadK_elt, LoadK_ptr, LoadO_some, LoadR_some, LoadR_map, ro_box, ro_alloc, ro_store, StoreK_ptr, StoreO_some, StoreR_some, ro_iaddr, IaddrK_list, IaddrK_own, IaddrR_some, IaddrR_map, ro_app, ro_appz, newsD_list, newsD_str, newsD_own, newsO_some, newsC_list, newsC_str, newsC_own, newsCO_some, AppN_some, AppZ_int, AppS_nil, AppS_own, AppO_acc, ro_cap, CapK_own, CapO, ro_ovl, OvlK_own, OvlO_some, ro_copy, CopyK_own, CopyO_some, ro_clear, ClearK_own, ClearO_some, ClearK_nil, ro_mks, MksK_int, winD_all, viewS_list, viewS_own', viewO_some, eqO_ptr, eqO_bool, eqO_func, eqO_row, eqO_list, eqO_own, eqOo_some, rx_nil, rx_cons, keepK_nil, keepK_cons, keepE_nil, keepE_cons, keepN_nil, keepN_cons, D.names, D.namesL, acc_real, acc_nl, acc_pure, acc_fz, acc_sz, acc_rows, acc_spare, ro_guard, GuardK_tt, GuardK_no, GuardK_ff, GuardK_tf, GuardK_ft, CondK_t, CondK_f, contP_some, lk_nil, lk_hit, lk_miss, Nat.reduceBEq, put_some, put_none, ev_t, ev_c, argEnv, reduceIte, Nat.reduceEqDiff, Nat.reduceAdd, Nat.reduceSub, Nat.reduceMul, Nat.reduceLT, Nat.reduceLeDiff, reduceCtorEq, binD, binInt, binStr, eqD, eqCell, eqCells, eqN, boolD, okD, aggD, unD, pickD, chkD, convD, sameD, strD, faddrD, fldD, idxD, extD, lenD, mxD, mnD, sliceD, slice3D, bndD, loadD, fillD, splice, D.cells, D.ok, D.one, D.pt, D.pt1, D.pt0, D.norm1, D.norm, cond_true, cond_false, true_and, and_true, and_self, Bool.true_and, Bool.and_true, Bool.false_and, Bool.and_false, Bool.not_true, Bool.not_false, Bool.true_or, Bool.false_or, Bool.or_true, Bool.or_false, List.getElem?_cons_zero, List.getElem?_cons_succ, List.getElem?_nil, List.length_cons, List.length_nil, List.length_map, List.length_append, List.length_set, List.length_take, List.length_drop, List.length_replicate, List.take_succ_cons, List.take_zero, List.take_nil, List.drop_succ_cons, List.drop_zero, List.drop_nil, List.cons_append, List.nil_append, List.append_nil, List.map_cons, List.map_nil, List.all_cons, List.all_nil, List.set_cons_zero, List.set_cons_succ, List.isEmpty_cons, List.isEmpty_nil, List.forall_mem_cons, List.not_mem_nil, List.forall_mem_nil, false_imp_iff, implies_true, ne_eq, not_false_eq_true, Option.map_some, Option.map_none, Nat.zero_add, Nat.add_zero, Nat.sub_self, Int.toNat_natCast, Int.reduceToNat, Int.reduceLT, Int.reduceLE, Int.reduceEq, Int.reduceBEq, beq_self_eq_true, Int.reduceNeg, decide_true, decide_false, IntKind.bits, Nat.min_eq_left, Int.reducePow, Nat.reducePow, Int.fdiv_eq_ediv_of_nonneg, Nat.lt_irrefl, Int.le_refl, Nat.le_refl, Int.natCast_nonneg, Nat.lt_add_one, Nat.zero_lt_succ, view, view2, view1, view0, mapO, capsD_fn, D.sc, D.sc1, D.sc2, pull, pull2, pull1, pull0, idx_hit, idx_miss, idx_nil, sucO_some, sucO_none, gate, pullσ, pullOb, Go.Vi.freeze, Go.Vi.freeze1, capt, capt.captL, reachL, reachO, isin, List.flatten_cons, List.flatten_nil, merge, mset, renOb, fr, D.ren, D.renL, List.getD_cons_zero, List.getD_cons_succ, List.nodup_cons, List.nodup_nil, List.mem_cons, or_false, false_or, resK_nil, resK_tmp, resK_cell, ResC_ptr, ResO_some, ResR_some, ResL_some, ofRes, List.reverse_nil, Option.some.injEq, D.bool.injEq, D.int.injEq, D.str.injEq, D.agg.injEq, D.tup.injEq, D.list.injEq, D.ptr.injEq, D.own.injEq, List.cons.injEq, BndE_fn]))
    refine Run_ent (fin _ xs ⟨l2, false, true⟩ [Va 9 [.int .u32 v.id, .int .i64 v.se.base, L (row2 .i64 .i64 v.se.turns), L (row3 v.se.shifts), L (row1 .i64 v.se.off), .int .i64 v.se.before, .int .i64 v.se.after, .int .u64 v.ver, L (rowsE v.evs)]]) ?_
    refine wk [] [] exYS2 ?_
    exact rtw [0, 1, 2] (an exYS2 (an plL allL))
   ·repeat' ((first | refine Run_seq ?_ | refine Run_skip ?_ | refine Run_block ?_ | refine Run_blk ?_ | refine Run_exit rfl ?_ | refine Run_nil ?_ | refine Run_condK ?_ | refine Run_ops mixed ?_ | refine Run_opsX mixed ?_ | with_reducible refine PostV_open ?_ | with_reducible refine PostG_open ?_ | with_reducible refine PostQ_open ?_ | with_reducible refine ro_callB (f := .t 45) ?_ | with_reducible refine ro_callB' (f := .t 45) ?_ | with_reducible refine ro_callV ?_ | with_reducible refine ro_callVX ?_ | with_reducible refine CallE_use (he) (by simp) ?_ | refine CallV_pure (bad_p _ _) ?_ ?_ | simp (disch := omega) only [w64, wu64, wu32, wu16, wu8, Int.tdiv_eq_ediv_of_nonneg, Int.tmod_eq_emod_of_nonneg] | (with_reducible refine SliceK_own rfl rfl ?_ ?_; (focus ((try simp only [Wr, r8_len, row1_len, row2_len, row3_len, rowQ_len, rowE_len, rowU_len, rowP_len, reduceIte, Int.natCast_nonneg, Int.le_refl, List.length_append, List.length_map, Nat.sub_zero]) <;> ((repeat' (with_reducible refine And.intro ?_ ?_)) <;> first | exact trivial | assumption | (simp; done) | (simp only [List.length_map] at *; omega) | omega | (simp [D.cells, D.ok, D.one, D.pt, D.pt1]; done) | exact r8_sz)))) | (refine GuardK_split (fun hc => ?_) (fun hc => ?_) <;> (try simp only [hc]) <;> (try simp at hc)) | (refine CondK_split (fun hc => ?_) (fun hc => ?_) <;> (try simp only [hc]) <;> (try simp at hc)) | (with_reducible refine And.intro ?_ ?_; (focus ((repeat' (with_reducible refine And.intro ?_ ?_)) <;> first | exact trivial | assumption | (simp; done) | (simp only [List.length_map] at *; omega) | omega | (simp [D.cells, D.ok, D.one, D.pt, D.pt1]; done) | exact r8_sz))) | (with_reducible intro x hx) | omega) <;> (try simp only [Wr, r8_len, row1_len, row2_len, row3_len, rowQ_len, rowE_len, rowU_len, rowP_len, c1, ro_nil, oo_def, om_def, ol_def, oa_def, on_def, og_def, gm_def, gl_def, ga_def, kc_def, kx_def, gk_def, kk_def, kb_def, pf_def, pt_def, ro_mov, ro_mkfn, ro_pick, ro_build, ro_slit, SlitK_t, SlitK_f, ro_chk, ro_bin, ro_eq, ro_un, ro_conv, ro_same, ro_b2s, ro_faddr, ro_fld, ro_idx, ro_ext, ro_len, ro_mx, ro_mn, ro_slice, SliceK_str, SliceK_list, ro_slice3, ro_load, LoadK_elt, LoadK_ptr, LoadO_some, LoadR_some, LoadR_map, ro_box, ro_alloc, ro_store, StoreK_ptr, StoreO_some, StoreR_some, ro_iaddr, IaddrK_list, IaddrK_own, IaddrR_some, IaddrR_map, ro_app, ro_appz, newsD_list, newsD_str, newsD_own, newsO_some, newsC_list, newsC_str, newsC_own, newsCO_some, AppN_some, AppZ_int, AppS_nil, AppS_own, AppO_acc, ro_cap, CapK_own, CapO, ro_ovl, OvlK_own, OvlO_some, ro_copy, CopyK_own, CopyO_some, ro_clear, ClearK_own, ClearO_some, ClearK_nil, ro_mks, MksK_int, winD_all, viewS_list, viewS_own', viewO_some, eqO_ptr, eqO_bool, eqO_func, eqO_row, eqO_list, eqO_own, eqOo_some, rx_nil, rx_cons, keepK_nil, keepK_cons, keepE_nil, keepE_cons, keepN_nil, keepN_cons, D.names, D.namesL, acc_real, acc_nl, acc_pure, acc_fz, acc_sz, acc_rows, acc_spare, ro_guard, GuardK_tt, GuardK_no, GuardK_ff, GuardK_tf, GuardK_ft, CondK_t, CondK_f, contP_some, lk_nil, lk_hit, lk_miss, Nat.reduceBEq, put_some, put_none, ev_t, ev_c, argEnv, reduceIte, Nat.reduceEqDiff, Nat.reduceAdd, Nat.reduceSub, Nat.reduceMul, Nat.reduceLT, Nat.reduceLeDiff, reduceCtorEq, binD, binInt, binStr, eqD, eqCell, eqCells, eqN, boolD, okD, aggD, unD, pickD, chkD, convD, sameD, strD, faddrD, fldD, idxD, extD, lenD, mxD, mnD, sliceD, slice3D, bndD, loadD, fillD, splice, D.cells, D.ok, D.one, D.pt, D.pt1, D.pt0, D.norm1, D.norm, cond_true, cond_false, true_and, and_true, and_self, Bool.true_and, Bool.and_true, Bool.false_and, Bool.and_false, Bool.not_true, Bool.not_false, Bool.true_or, Bool.false_or, Bool.or_true, Bool.or_false, List.getElem?_cons_zero, List.getElem?_cons_succ, List.getElem?_nil, List.length_cons, List.length_nil, List.length_map, List.length_append, List.length_set, List.length_take, List.length_drop, List.length_replicate, List.take_succ_cons, List.take_zero, List.take_nil, List.drop_succ_cons, List.drop_zero, List.drop_nil, List.cons_append, List.nil_append, List.append_nil, List.map_cons, List.map_nil, List.all_cons, List.all_nil, List.set_cons_zero, List.set_cons_succ, List.isEmpty_cons, List.isEmpty_nil, List.forall_mem_cons, List.not_mem_nil, List.forall_mem_nil, false_imp_iff, implies_true, ne_eq, not_false_eq_true, Option.map_some, Option.map_none, Nat.zero_add, Nat.add_zero, Nat.sub_self, Int.toNat_natCast, Int.reduceToNat, Int.reduceLT, Int.reduceLE, Int.reduceEq, Int.reduceBEq, beq_self_eq_true, Int.reduceNeg, decide_true, decide_false, IntKind.bits, Nat.min_eq_left, Int.reducePow, Nat.reducePow, Int.fdiv_eq_ediv_of_nonneg, Nat.lt_irrefl, Int.le_refl, Nat.le_refl, Int.natCast_nonneg, Nat.lt_add_one, Nat.zero_lt_succ, view, view2, view1, view0, mapO, capsD_fn, D.sc, D.sc1, D.sc2, pull, pull2, pull1, pull0, idx_hit, idx_miss, idx_nil, sucO_some, sucO_none, gate, pullσ, pullOb, Go.Vi.freeze, Go.Vi.freeze1, capt, capt.captL, reachL, reachO, isin, List.flatten_cons, List.flatten_nil, merge, mset, renOb, fr, D.ren, D.renL, List.getD_cons_zero, List.getD_cons_succ, List.nodup_cons, List.nodup_nil, List.mem_cons, or_false, false_or, resK_nil, resK_tmp, resK_cell, ResC_ptr, ResO_some, ResR_some, ResL_some, ofRes, List.reverse_nil, Option.some.injEq, D.bool.injEq, D.int.injEq, D.str.injEq, D.agg.injEq, D.tup.injEq, D.list.injEq, D.ptr.injEq, D.own.injEq, List.cons.injEq, BndE_fn]))
    refine Run_ent (fin _ xs ⟨l2, true, cb2⟩ [Va 9 [.int .u32 v.id, .int .i64 v.se.base, L (row2 .i64 .i64 v.se.turns), L (row3 v.se.shifts), L (row1 .i64 v.se.off), .int .i64 v.se.before, .int .i64 v.se.after, .int .u64 v.ver, L (rowsE v.evs)]]) ?_
    refine wk [] [] exYS2 ?_
    exact rtw [0, 1, 2] (an exYS2 (an plL allL))
  ·rw [if_neg hb] at hk1
   obtain ⟨l2, rb2, cb2⟩ := s2
   dsimp only at he hb hle hk1 ⊢
   obtain ⟨rfl, rfl⟩ : rb2 = false ∧ cb2 = false := by simpa using hb
   have hu : rowsU xs ++ [[.int .u32 v.id, .int .i64 v.se.base, L (row2 .i64 .i64 v.se.turns), L (row3 v.se.shifts), L (row1 .i64 v.se.off), .int .i64 v.se.before, .int .i64 v.se.after, .int .u64 v.ver, L (rowsE v.evs)]] = rowsU (xs ++ [v]) := by simp [rowsU, Us.row]
   have uc1 := @bad_p
   refine wk [20045] [] (an exYS2 (an c1 (an own1 (an own2 (an hz' hu))))) ?_
   refine hk ⟨(k, ⟨l2, false, false⟩, xs ++ [v]), hk1, by rw [List.length_append, List.length_cons, List.length_nil]; omega, by dsimp only; omega⟩ _ _ (by dsimp only; omega) ?_
   dsimp only
   simp only [List.length_append, List.length_cons, List.length_nil]
   exact gcw [0, 1, 2, 3] (an exYS2 pl4)
   skip
 ·obtain rfl : k = 0 := by omega
  have c1 : (((xs.length : Nat) : Int) < ((n : Nat) : Int)) = False := by simp; omega
  unfold rowGo at hk1
  rw [← hk1]
  dsimp only
  refine Run_ent (fin _ xs s1 []) ?_
  refine wk [] [] (an exYS2 c1) ?_
  exact rtw [0, 1, 2] (an exYS2 (an plL allL))
  skip
set_option maxHeartbeats 16000000 in
theorem rowPo_r (s : Rs) (sz : Nat) (R : List D) (j most : Nat) (hR : R[j]? = some (.list (some true) true [])) (hz : R.length = sz) (hm : most < 1000000) (hl : s.l.length ≤ 1099511627776) :
  CallG Tryz.prog 90 [.ptr 0 0 0 1, .ptr 2 0 j 1, .int .i64 most, .fn 4187 [.ptr 0 0 0 1]] [Cr 1 s.cb, Rd s.l s.rb, Va sz R] (.tup [])
   [Cr 1 (rRow rPo most s).2.cb, Rd (rRow rPo most s).2.l (rRow rPo most s).2.rb, Va sz (R.set j (L (rowsP (rRow rPo most s).1)))] := by
 refine callG Tryz.func90 low90 (by simp [c90, rowC]) ?_
 simp only [c90, rowC]
 have hn : CallG Tryz.prog 95 [.ptr 0 0 0 1, .ptr 2 0 0 1, .int .u64 most] [Cr 1 s.cb, Rd s.l s.rb, Va 1 [.int .u64 0]] (.tup []) [Cr 1 (rqN most s).2.cb, Rd (rqN most s).2.l (rqN most s).2.rb, Va 1 [.int .u64 (rqN most s).1]] := numQ_r s.l s.rb s.cb 1 [.int .u64 0] 0 most rfl (by omega) (by omega) hl
 obtain ⟨X, hX⟩ : ∃ X, rRow rPo most s = X := ⟨_, rfl⟩
 rw [hX]
 unfold rRow at hX
 obtain ⟨g1, g2⟩ := rqN_le most (by omega) s
 generalize rqN most s = q at hn hX g1 g2
 obtain ⟨n, s0⟩ := q
 dsimp only at hn hX g1 g2
 have hj : j < R.length := (List.getElem?_eq_some_iff.1 hR).1
 have z0 : (((0 : Nat) : Int)) = 0 := rfl
 refine Run_pure 2 rfl rfl fun hpt => ?_
 have hpt : ∀ x ∈ R, x.pt1 = true := fun x hx => hpt R (by simp) x hx
 have own1 : ∀ d : D, (R.set j d)[j]? = some d := fun d => by rw [List.getElem?_set_self hj]
 have own2 : ∀ d e : D, (R.set j d).take j ++ [e] ++ (R.set j d).drop (j + 1) = R.set j e := fun d e => by
  rw [spl1 (by rw [List.length_set]; exact hj), List.set_set]
 have pl5 : ∀ (σ : List Ob) (k n : Nat), mapO (pull1 true [0, 1, 2, 4] σ) (R.set j (.own 4 0 k n 16 none)) = some (R.set j (.own 3 0 k n 16 none)) := fun σ k n => pull_own hpt rfl
 have pl4 : ∀ (σ : List Ob) (k n : Nat), mapO (pull1 true [0, 1, 2, 3] σ) (R.set j (.own 3 0 k n 16 none)) = some (R.set j (.own 3 0 k n 16 none)) := fun σ k n => pull_own hpt rfl
 have plL : ∀ (σ : List Ob) (rows : List (List D)), mapO (pull1 true [0, 1, 2] σ) (R.set j (.list none false rows)) = some (R.set j (.list none false rows)) := fun σ rows => pull_pt hpt rfl
 have allL : ∀ rows : List (List D), (R.set j (.list none false rows)).all D.pt1 = true := fun rows => all_set hpt rfl
 have hz' : (j + 1 ≤ sz) = True := eq_true (by omega)
 refine wk [95] [] (an exYS2 (an hR z0)) ?_
 refine Run_ent (Ent_accC (l := 2) (j := 0) (i := j) (b := true) 16 true (by decide) rfl rfl rfl rfl hR) ?_
 refine Run_loop (ι := {p : Nat × Rs × List Po // rowGo rPo p.1 p.2.1 p.2.2 = X ∧ p.2.2.length + p.1 = n ∧ p.2.1.l.length ≤ s0.l.length}) (fun p => ([(0, .ptr 0 0 0 1), (1, .ptr 2 0 j 1), (3, .fn 4187 [.ptr 0 0 0 1]), (42, .int .u64 n), (43, .int .u64 p.1.2.2.length)],
  [Cr 1 p.1.2.1.cb, Rd p.1.2.1.l p.1.2.1.rb, ⟨true, false, false, false, sz, [R.set j (.own 3 0 p.1.2.2.length p.1.2.2.length 16 none)], some 0⟩, acc true 16 true (rowsP p.1.2.2)])) (fun p => p.1.1) ⟨(n, s0, []), hX, by simp, Nat.le_refl _⟩ ?_ ?_
 ·simp only [List.length_nil, show rowsP [] = [] from rfl]
  exact gcw [0, 1, 2, 4] (an exYS2 pl5)
  skip
 rintro ⟨⟨k, s1, xs⟩, hk1, hk2, hk3⟩ hk
 dsimp only at hk1 hk2 hk3 hk ⊢
 have fin : ∀ (env : Env) (ys : List Po) (s2 : Rs) (ex : List Ob), Ent [Cr 1 s.cb, Rd s.l s.rb, Va sz R] env (Cr 1 s2.cb :: Rd s2.l s2.rb :: ⟨true, false, false, false, sz, [R.set j (.own 3 0 ys.length ys.length 16 none)], some 0⟩ :: acc true 16 true (rowsP ys) :: ex) env
   (Cr 1 s2.cb :: Rd s2.l s2.rb :: ⟨true, false, false, false, sz, [R.set j (L (rowsP ys))], some 0⟩ :: { acc true 16 true (rowsP ys) with fz := true } :: ex) := fun env ys s2 ex => by
  refine Ent.trans (Ent_freeze 3) ?_
  have := Ent_cellF (base := [Cr 1 s.cb, Rd s.l s.rb, Va sz R]) (env := env) (σ := Cr 1 s2.cb :: Rd s2.l s2.rb :: ⟨true, false, false, false, sz, [R.set j (.own 3 0 ys.length ys.length 16 none)], some 0⟩ :: { acc true 16 true (rowsP ys) with fz := true } :: ex) (l := 2) (j := 0) (i := j) (m := 3) (rows := rowsP ys) rfl rfl rfl rfl (own1 _) rfl rfl (by
   rw [viewS_own']
   show viewO (some _) _ _ _ = _
   rw [viewO_some]
   simp [acc_rows, acc_pure, rowP_len, winD_all])
  simp only [List.set_cons_zero, List.set_cons_succ, List.set_set] at this
  exact this
 by_cases hlt : 0 < k
 ·obtain ⟨k, rfl⟩ : ∃ k', k = k' + 1 := ⟨k - 1, by omega⟩
  have c1 : (((xs.length : Nat) : Int) < ((n : Nat) : Int)) = True := by simp; omega
  have he : CallG Tryz.prog 91 [.ptr 0 0 0 1, .ptr 2 0 0 1] [Cr 1 s1.cb, Rd s1.l s1.rb, Va 16 [.int .u32 0, .int .u32 0, .int .i64 0, .int .i64 0, .int .i64 0, .int .i64 0, .list (some true) true [], .list (some true) true [], .int .i64 0, .list (some true) true [], .list (some true) true [], .list (some true) true [], .list (some true) true [], .int .i64 0, .int .i64 0, .int .i64 0]] (.tup []) [Cr 1 (rPo s1).2.cb, Rd (rPo s1).2.l (rPo s1).2.rb, Va 16 (rPo s1).1.row] := cPo_r s1 16 [.int .u32 0, .int .u32 0, .int .i64 0, .int .i64 0, .int .i64 0, .int .i64 0, .list (some true) true [], .list (some true) true [], .int .i64 0, .list (some true) true [], .list (some true) true [], .list (some true) true [], .list (some true) true [], .int .i64 0, .int .i64 0, .int .i64 0] 0 rfl rfl rfl rfl rfl rfl rfl (by omega) (by omega)
  have hle := rPo_le s1
  unfold rowGo at hk1
  generalize rPo s1 = q at he hk1 hle
  obtain ⟨v, s2⟩ := q
  dsimp only at he hk1 hle
  have hcell : v.row = [.int .u32 v.id, .int .u32 v.owner, .int .i64 v.qu.a, .int .i64 v.qu.b, .int .i64 v.qu.long, .int .i64 v.qu.grid, L (row1 .u32 v.qu.must), L (row2 .u32 .i64 v.qu.may), .int .i64 v.qu.seats, L (row2 .u32 .u32 v.qu.apart), L (row3 v.qu.prefer), L (row1 .i64 v.slots), L (row2 .u32 .i64 v.votes), .int .i64 v.til, .int .i64 v.state, .int .i64 v.winner] := rfl
  rw [hcell] at he
  by_cases hb : s2.rb = true ∨ s2.cb = true
  ·rw [if_pos hb] at hk1
   rw [← hk1]
   obtain ⟨l2, rb2, cb2⟩ := s2
   dsimp only at he hb ⊢
   cases rb2
   ·obtain rfl : cb2 = true := by simpa using hb
    repeat' ((first | refine Run_seq ?_ | refine Run_skip ?_ | refine Run_block ?_ | refine Run_blk ?_ | refine Run_exit rfl ?_ | refine Run_nil ?_ | refine Run_condK ?_ | refine Run_ops mixed ?_ | refine Run_opsX mixed ?_ | with_reducible refine PostV_open ?_ | with_reducible refine PostG_open ?_ | with_reducible refine PostQ_open ?_ | with_reducible refine ro_callB (f := .t 45) ?_ | with_reducible refine ro_callB' (f := .t 45) ?_ | with_reducible refine ro_callV ?_ | with_reducible refine ro_callVX ?_ | with_reducible refine CallE_use (he) (by simp) ?_ | refine CallV_pure (bad_p _ _) ?_ ?_ | simp (disch := omega) only [w64, wu64, wu32, wu16, wu8, Int.tdiv_eq_ediv_of_nonneg, Int.tmod_eq_emod_of_nonneg] | (with_reducible refine SliceK_own rfl rfl ?_ ?_; (focus ((try simp only [Wr, r8_len, row1_len, row2_len, row3_len, rowQ_len, rowE_len, rowU_len, rowP_len, reduceIte, Int.natCast_nonneg, Int.le_refl, List.length_append, List.length_map, Nat.sub_zero]) <;> ((repeat' (with_reducible refine And.intro ?_ ?_)) <;> first | exact trivial | assumption | (simp; done) | (simp only [List.length_map] at *; omega) | omega | (simp [D.cells, D.ok, D.one, D.pt, D.pt1]; done) | exact r8_sz)))) | (refine GuardK_split (fun hc => ?_) (fun hc => ?_) <;> (try simp only [hc]) <;> (try simp at hc)) | (refine CondK_split (fun hc => ?_) (fun hc => ?_) <;> (try simp only [hc]) <;> (try simp at hc)) | (with_reducible refine And.intro ?_ ?_; (focus ((repeat' (with_reducible refine And.intro ?_ ?_)) <;> first | exact trivial | assumption | (simp; done) | (simp only [List.length_map] at *; omega) | omega | (simp [D.cells, D.ok, D.one, D.pt, D.pt1]; done) | exact r8_sz))) | (with_reducible intro x hx) | omega) <;> (try simp only [Wr, r8_len, row1_len, row2_len, row3_len, rowQ_len, rowE_len, rowU_len, rowP_len, c1, ro_nil, oo_def, om_def, ol_def, oa_def, on_def, og_def, gm_def, gl_def, ga_def, kc_def, kx_def, gk_def, kk_def, kb_def, pf_def, pt_def, ro_mov, ro_mkfn, ro_pick, ro_build, ro_slit, SlitK_t, SlitK_f, ro_chk, ro_bin, ro_eq, ro_un, ro_conv, ro_same, ro_b2s, ro_faddr, ro_fld, ro_idx, ro_ext, ro_len, ro_mx, ro_mn, ro_slice, SliceK_str, SliceK_list, ro_slice3, ro_load, LoadK_elt, LoadK_ptr, LoadO_some, LoadR_some, LoadR_map, ro_box, ro_alloc, ro_store, StoreK_ptr, StoreO_some, StoreR_some, ro_iaddr, IaddrK_list, IaddrK_own, IaddrR_some, IaddrR_map, ro_app, ro_appz, newsD_list, newsD_str, newsD_own, newsO_some, newsC_list, newsC_str, newsC_own, newsCO_some, AppN_some, AppZ_int, AppS_nil, AppS_own, AppO_acc, ro_cap, CapK_own, CapO, ro_ovl, OvlK_own, OvlO_some, ro_copy, CopyK_own, CopyO_some, ro_clear, ClearK_own, ClearO_some, ClearK_nil, ro_mks, MksK_int, winD_all, viewS_list, viewS_own', viewO_some, eqO_ptr, eqO_bool, eqO_func, eqO_row, eqO_list, eqO_own, eqOo_some, rx_nil, rx_cons, keepK_nil, keepK_cons, keepE_nil, keepE_cons, keepN_nil, keepN_cons, D.names, D.namesL, acc_real, acc_nl, acc_pure, acc_fz, acc_sz, acc_rows, acc_spare, ro_guard, GuardK_tt, GuardK_no, GuardK_ff, GuardK_tf, GuardK_ft, CondK_t, CondK_f, contP_some, lk_nil, lk_hit, lk_miss, Nat.reduceBEq, put_some, put_none, ev_t, ev_c, argEnv, reduceIte, Nat.reduceEqDiff, Nat.reduceAdd, Nat.reduceSub, Nat.reduceMul, Nat.reduceLT, Nat.reduceLeDiff, reduceCtorEq, binD, binInt, binStr, eqD, eqCell, eqCells, eqN, boolD, okD, aggD, unD, pickD, chkD, convD, sameD, strD, faddrD, fldD, idxD, extD, lenD, mxD, mnD, sliceD, slice3D, bndD, loadD, fillD, splice, D.cells, D.ok, D.one, D.pt, D.pt1, D.pt0, D.norm1, D.norm, cond_true, cond_false, true_and, and_true, and_self, Bool.true_and, Bool.and_true, Bool.false_and, Bool.and_false, Bool.not_true, Bool.not_false, Bool.true_or, Bool.false_or, Bool.or_true, Bool.or_false, List.getElem?_cons_zero, List.getElem?_cons_succ, List.getElem?_nil, List.length_cons, List.length_nil, List.length_map, List.length_append, List.length_set, List.length_take, List.length_drop, List.length_replicate, List.take_succ_cons, List.take_zero, List.take_nil, List.drop_succ_cons, List.drop_zero, List.drop_nil, List.cons_append, List.nil_append, List.append_nil, List.map_cons, List.map_nil, List.all_cons, List.all_nil, List.set_cons_zero, List.set_cons_succ, List.isEmpty_cons, List.isEmpty_nil, List.forall_mem_cons, List.not_mem_nil, List.forall_mem_nil, false_imp_iff, implies_true, ne_eq, not_false_eq_true, Option.map_some, Option.map_none, Nat.zero_add, Nat.add_zero, Nat.sub_self, Int.toNat_natCast, Int.reduceToNat, Int.reduceLT, Int.reduceLE, Int.reduceEq, Int.reduceBEq, beq_self_eq_true, Int.reduceNeg, decide_true, decide_false, IntKind.bits, Nat.min_eq_left, Int.reducePow, Nat.reducePow, Int.fdiv_eq_ediv_of_nonneg, Nat.lt_irrefl, Int.le_refl, Nat.le_refl, Int.natCast_nonneg, Nat.lt_add_one, Nat.zero_lt_succ, view, view2, view1, view0, mapO, capsD_fn, D.sc, D.sc1, D.sc2, pull, pull2, pull1, pull0, idx_hit, idx_miss, idx_nil, sucO_some, sucO_none, gate, pullσ, pullOb, Go.Vi.freeze, Go.Vi.freeze1, capt, capt.captL, reachL, reachO, isin, List.flatten_cons, List.flatten_nil, merge, mset, renOb, fr, D.ren, D.renL, List.getD_cons_zero, List.getD_cons_succ, List.nodup_cons, List.nodup_nil, List.mem_cons, or_false, false_or, resK_nil, resK_tmp, resK_cell, ResC_ptr, ResO_some, ResR_some, ResL_some, ofRes, List.reverse_nil, Option.some.injEq, D.bool.injEq, D.int.injEq, D.str.injEq, D.agg.injEq, D.tup.injEq, D.list.injEq, D.ptr.injEq, D.own.injEq, List.cons.injEq, BndE_fn]))
    refine Run_ent (fin _ xs ⟨l2, false, true⟩ [Va 16 [.int .u32 v.id, .int .u32 v.owner, .int .i64 v.qu.a, .int .i64 v.qu.b, .int .i64 v.qu.long, .int .i64 v.qu.grid, L (row1 .u32 v.qu.must), L (row2 .u32 .i64 v.qu.may), .int .i64 v.qu.seats, L (row2 .u32 .u32 v.qu.apart), L (row3 v.qu.prefer), L (row1 .i64 v.slots), L (row2 .u32 .i64 v.votes), .int .i64 v.til, .int .i64 v.state, .int .i64 v.winner]]) ?_
    refine wk [] [] exYS2 ?_
    exact rtw [0, 1, 2] (an exYS2 (an plL allL))
   ·repeat' ((first | refine Run_seq ?_ | refine Run_skip ?_ | refine Run_block ?_ | refine Run_blk ?_ | refine Run_exit rfl ?_ | refine Run_nil ?_ | refine Run_condK ?_ | refine Run_ops mixed ?_ | refine Run_opsX mixed ?_ | with_reducible refine PostV_open ?_ | with_reducible refine PostG_open ?_ | with_reducible refine PostQ_open ?_ | with_reducible refine ro_callB (f := .t 45) ?_ | with_reducible refine ro_callB' (f := .t 45) ?_ | with_reducible refine ro_callV ?_ | with_reducible refine ro_callVX ?_ | with_reducible refine CallE_use (he) (by simp) ?_ | refine CallV_pure (bad_p _ _) ?_ ?_ | simp (disch := omega) only [w64, wu64, wu32, wu16, wu8, Int.tdiv_eq_ediv_of_nonneg, Int.tmod_eq_emod_of_nonneg] | (with_reducible refine SliceK_own rfl rfl ?_ ?_; (focus ((try simp only [Wr, r8_len, row1_len, row2_len, row3_len, rowQ_len, rowE_len, rowU_len, rowP_len, reduceIte, Int.natCast_nonneg, Int.le_refl, List.length_append, List.length_map, Nat.sub_zero]) <;> ((repeat' (with_reducible refine And.intro ?_ ?_)) <;> first | exact trivial | assumption | (simp; done) | (simp only [List.length_map] at *; omega) | omega | (simp [D.cells, D.ok, D.one, D.pt, D.pt1]; done) | exact r8_sz)))) | (refine GuardK_split (fun hc => ?_) (fun hc => ?_) <;> (try simp only [hc]) <;> (try simp at hc)) | (refine CondK_split (fun hc => ?_) (fun hc => ?_) <;> (try simp only [hc]) <;> (try simp at hc)) | (with_reducible refine And.intro ?_ ?_; (focus ((repeat' (with_reducible refine And.intro ?_ ?_)) <;> first | exact trivial | assumption | (simp; done) | (simp only [List.length_map] at *; omega) | omega | (simp [D.cells, D.ok, D.one, D.pt, D.pt1]; done) | exact r8_sz))) | (with_reducible intro x hx) | omega) <;> (try simp only [Wr, r8_len, row1_len, row2_len, row3_len, rowQ_len, rowE_len, rowU_len, rowP_len, c1, ro_nil, oo_def, om_def, ol_def, oa_def, on_def, og_def, gm_def, gl_def, ga_def, kc_def, kx_def, gk_def, kk_def, kb_def, pf_def, pt_def, ro_mov, ro_mkfn, ro_pick, ro_build, ro_slit, SlitK_t, SlitK_f, ro_chk, ro_bin, ro_eq, ro_un, ro_conv, ro_same, ro_b2s, ro_faddr, ro_fld, ro_idx, ro_ext, ro_len, ro_mx, ro_mn, ro_slice, SliceK_str, SliceK_list, ro_slice3, ro_load, LoadK_elt, LoadK_ptr, LoadO_some, LoadR_some, LoadR_map, ro_box, ro_alloc, ro_store, StoreK_ptr, StoreO_some, StoreR_some, ro_iaddr, IaddrK_list, IaddrK_own, IaddrR_some, IaddrR_map, ro_app, ro_appz, newsD_list, newsD_str, newsD_own, newsO_some, newsC_list, newsC_str, newsC_own, newsCO_some, AppN_some, AppZ_int, AppS_nil, AppS_own, AppO_acc, ro_cap, CapK_own, CapO, ro_ovl, OvlK_own, OvlO_some, ro_copy, CopyK_own, CopyO_some, ro_clear, ClearK_own, ClearO_some, ClearK_nil, ro_mks, MksK_int, winD_all, viewS_list, viewS_own', viewO_some, eqO_ptr, eqO_bool, eqO_func, eqO_row, eqO_list, eqO_own, eqOo_some, rx_nil, rx_cons, keepK_nil, keepK_cons, keepE_nil, keepE_cons, keepN_nil, keepN_cons, D.names, D.namesL, acc_real, acc_nl, acc_pure, acc_fz, acc_sz, acc_rows, acc_spare, ro_guard, GuardK_tt, GuardK_no, GuardK_ff, GuardK_tf, GuardK_ft, CondK_t, CondK_f, contP_some, lk_nil, lk_hit, lk_miss, Nat.reduceBEq, put_some, put_none, ev_t, ev_c, argEnv, reduceIte, Nat.reduceEqDiff, Nat.reduceAdd, Nat.reduceSub, Nat.reduceMul, Nat.reduceLT, Nat.reduceLeDiff, reduceCtorEq, binD, binInt, binStr, eqD, eqCell, eqCells, eqN, boolD, okD, aggD, unD, pickD, chkD, convD, sameD, strD, faddrD, fldD, idxD, extD, lenD, mxD, mnD, sliceD, slice3D, bndD, loadD, fillD, splice, D.cells, D.ok, D.one, D.pt, D.pt1, D.pt0, D.norm1, D.norm, cond_true, cond_false, true_and, and_true, and_self, Bool.true_and, Bool.and_true, Bool.false_and, Bool.and_false, Bool.not_true, Bool.not_false, Bool.true_or, Bool.false_or, Bool.or_true, Bool.or_false, List.getElem?_cons_zero, List.getElem?_cons_succ, List.getElem?_nil, List.length_cons, List.length_nil, List.length_map, List.length_append, List.length_set, List.length_take, List.length_drop, List.length_replicate, List.take_succ_cons, List.take_zero, List.take_nil, List.drop_succ_cons, List.drop_zero, List.drop_nil, List.cons_append, List.nil_append, List.append_nil, List.map_cons, List.map_nil, List.all_cons, List.all_nil, List.set_cons_zero, List.set_cons_succ, List.isEmpty_cons, List.isEmpty_nil, List.forall_mem_cons, List.not_mem_nil, List.forall_mem_nil, false_imp_iff, implies_true, ne_eq, not_false_eq_true, Option.map_some, Option.map_none, Nat.zero_add, Nat.add_zero, Nat.sub_self, Int.toNat_natCast, Int.reduceToNat, Int.reduceLT, Int.reduceLE, Int.reduceEq, Int.reduceBEq, beq_self_eq_true, Int.reduceNeg, decide_true, decide_false, IntKind.bits, Nat.min_eq_left, Int.reducePow, Nat.reducePow, Int.fdiv_eq_ediv_of_nonneg, Nat.lt_irrefl, Int.le_refl, Nat.le_refl, Int.natCast_nonneg, Nat.lt_add_one, Nat.zero_lt_succ, view, view2, view1, view0, mapO, capsD_fn, D.sc, D.sc1, D.sc2, pull, pull2, pull1, pull0, idx_hit, idx_miss, idx_nil, sucO_some, sucO_none, gate, pullσ, pullOb, Go.Vi.freeze, Go.Vi.freeze1, capt, capt.captL, reachL, reachO, isin, List.flatten_cons, List.flatten_nil, merge, mset, renOb, fr, D.ren, D.renL, List.getD_cons_zero, List.getD_cons_succ, List.nodup_cons, List.nodup_nil, List.mem_cons, or_false, false_or, resK_nil, resK_tmp, resK_cell, ResC_ptr, ResO_some, ResR_some, ResL_some, ofRes, List.reverse_nil, Option.some.injEq, D.bool.injEq, D.int.injEq, D.str.injEq, D.agg.injEq, D.tup.injEq, D.list.injEq, D.ptr.injEq, D.own.injEq, List.cons.injEq, BndE_fn]))
    refine Run_ent (fin _ xs ⟨l2, true, cb2⟩ [Va 16 [.int .u32 v.id, .int .u32 v.owner, .int .i64 v.qu.a, .int .i64 v.qu.b, .int .i64 v.qu.long, .int .i64 v.qu.grid, L (row1 .u32 v.qu.must), L (row2 .u32 .i64 v.qu.may), .int .i64 v.qu.seats, L (row2 .u32 .u32 v.qu.apart), L (row3 v.qu.prefer), L (row1 .i64 v.slots), L (row2 .u32 .i64 v.votes), .int .i64 v.til, .int .i64 v.state, .int .i64 v.winner]]) ?_
    refine wk [] [] exYS2 ?_
    exact rtw [0, 1, 2] (an exYS2 (an plL allL))
  ·rw [if_neg hb] at hk1
   obtain ⟨l2, rb2, cb2⟩ := s2
   dsimp only at he hb hle hk1 ⊢
   obtain ⟨rfl, rfl⟩ : rb2 = false ∧ cb2 = false := by simpa using hb
   have hu : rowsP xs ++ [[.int .u32 v.id, .int .u32 v.owner, .int .i64 v.qu.a, .int .i64 v.qu.b, .int .i64 v.qu.long, .int .i64 v.qu.grid, L (row1 .u32 v.qu.must), L (row2 .u32 .i64 v.qu.may), .int .i64 v.qu.seats, L (row2 .u32 .u32 v.qu.apart), L (row3 v.qu.prefer), L (row1 .i64 v.slots), L (row2 .u32 .i64 v.votes), .int .i64 v.til, .int .i64 v.state, .int .i64 v.winner]] = rowsP (xs ++ [v]) := by simp [rowsP, Po.row]
   have uc1 := @bad_p
   refine wk [20045] [] (an exYS2 (an c1 (an own1 (an own2 (an hz' hu))))) ?_
   refine hk ⟨(k, ⟨l2, false, false⟩, xs ++ [v]), hk1, by rw [List.length_append, List.length_cons, List.length_nil]; omega, by dsimp only; omega⟩ _ _ (by dsimp only; omega) ?_
   dsimp only
   simp only [List.length_append, List.length_cons, List.length_nil]
   exact gcw [0, 1, 2, 3] (an exYS2 pl4)
   skip
 ·obtain rfl : k = 0 := by omega
  have c1 : (((xs.length : Nat) : Int) < ((n : Nat) : Int)) = False := by simp; omega
  unfold rowGo at hk1
  rw [← hk1]
  dsimp only
  refine Run_ent (fin _ xs s1 []) ?_
  refine wk [] [] (an exYS2 c1) ?_
  exact rtw [0, 1, 2] (an exYS2 (an plL allL))
  skip
def rSq (s : Rs) : (Sq) × Rs :=
 match rqM s with
 | (v1, s1) =>
 match rRow rUs 100 s1 with
 | (v2, s2) =>
 match rRow rPo 50 s2 with
 | (v3, s3) =>
 match rRow rDn 4096 s3 with
 | (v4, s4) =>
  (⟨v1, v2, v3, v4⟩, s4)
set_option maxHeartbeats 4000000 in
theorem cSq_r (s : Rs) (sz : Nat) (R : List D) (j : Nat) (hN1 : R[j + 1]? = some (.list (some true) true [])) (hN2 : R[j + 2]? = some (.list (some true) true [])) (hN3 : R[j + 3]? = some (.list (some true) true [])) (hz : R.length = sz) (hj : j + 4 ≤ sz) (hl : s.l.length ≤ 1099511627776) :
  CallG Tryz.prog 56 [.ptr 0 0 0 1, .ptr 2 0 j 1] [Cr 1 s.cb, Rd s.l s.rb, Va sz R] (.tup [])
   [Cr 1 (rSq s).2.cb, Rd (rSq s).2.l (rSq s).2.rb, Va sz (setL R j [.int .i64 (rSq s).1.t, L (rowsU (rSq s).1.us), L (rowsP (rSq s).1.ps), L (rowQ (rSq s).1.ds)])] := by
 refine callG Tryz.func56 low56 (by simp [c56]) ?_
 simp only [c56]
 unfold rSq
 have z0 := hz
 have k0 : ∀ x, j + 0 ≤ x → R[x]? = R[x]? := fun _ _ => rfl
 have g1 := rqM_le s
 have h1 : CallG Tryz.prog 87 [.ptr 0 0 0 1, .ptr 2 0 j 1] [Cr 1 s.cb, Rd s.l s.rb, Va sz R] (.tup []) [Cr 1 (rqM s).2.cb, Rd (rqM s).2.l (rqM s).2.rb, Va sz (R.set j (.int .i64 ((rqM s).1 : Int)))] := minutes_r s.l s.rb s.cb sz R j (by omega) (by omega) (by omega)
 generalize rqM s = q1 at h1 g1 ⊢
 obtain ⟨v1, s1⟩ := q1
 dsimp only at h1 g1 ⊢
 obtain ⟨R1, e1⟩ : ∃ R1, R1 = R.set j (.int .i64 (v1 : Int)) := ⟨_, rfl⟩
 rw [← e1] at h1
 have z1 : R1.length = sz := by rw [e1, List.length_set]; exact z0
 have k1 : ∀ x, j + 1 ≤ x → R1[x]? = R[x]? := fun x hx => by rw [e1, List.getElem?_set_ne (by omega)] <;> exact k0 x (by omega)
 have g2 := rRow_le rUs_le 100 (by omega) s1
 have h2 : CallG Tryz.prog 88 [.ptr 0 0 0 1, .ptr 2 0 (j + 1) 1, .int .i64 100, .fn 4185 [.ptr 0 0 0 1]] [Cr 1 s1.cb, Rd s1.l s1.rb, Va sz R1] (.tup []) [Cr 1 (rRow rUs 100 s1).2.cb, Rd (rRow rUs 100 s1).2.l (rRow rUs 100 s1).2.rb, Va sz (R1.set (j + 1) (L (rowsU (rRow rUs 100 s1).1)))] := rowUs_r s1 sz R1 (j + 1) 100 (by rw [k1 _ (by omega)]; exact hN1) (by omega) (by omega) (by omega)
 generalize rRow rUs 100 s1 = q2 at h2 g2 ⊢
 obtain ⟨v2, s2⟩ := q2
 dsimp only at h2 g2 ⊢
 obtain ⟨R2, e2⟩ : ∃ R2, R2 = R1.set (j + 1) (L (rowsU v2)) := ⟨_, rfl⟩
 rw [← e2] at h2
 have z2 : R2.length = sz := by rw [e2, List.length_set]; exact z1
 have k2 : ∀ x, j + 2 ≤ x → R2[x]? = R[x]? := fun x hx => by rw [e2, List.getElem?_set_ne (by omega)] <;> exact k1 x (by omega)
 have g3 := rRow_le rPo_le 50 (by omega) s2
 have h3 : CallG Tryz.prog 90 [.ptr 0 0 0 1, .ptr 2 0 (j + 2) 1, .int .i64 50, .fn 4187 [.ptr 0 0 0 1]] [Cr 1 s2.cb, Rd s2.l s2.rb, Va sz R2] (.tup []) [Cr 1 (rRow rPo 50 s2).2.cb, Rd (rRow rPo 50 s2).2.l (rRow rPo 50 s2).2.rb, Va sz (R2.set (j + 2) (L (rowsP (rRow rPo 50 s2).1)))] := rowPo_r s2 sz R2 (j + 2) 50 (by rw [k2 _ (by omega)]; exact hN2) (by omega) (by omega) (by omega)
 generalize rRow rPo 50 s2 = q3 at h3 g3 ⊢
 obtain ⟨v3, s3⟩ := q3
 dsimp only at h3 g3 ⊢
 obtain ⟨R3, e3⟩ : ∃ R3, R3 = R2.set (j + 2) (L (rowsP v3)) := ⟨_, rfl⟩
 rw [← e3] at h3
 have z3 : R3.length = sz := by rw [e3, List.length_set]; exact z2
 have k3 : ∀ x, j + 3 ≤ x → R3[x]? = R[x]? := fun x hx => by rw [e3, List.getElem?_set_ne (by omega)] <;> exact k2 x (by omega)
 have g4 := rRow_le rDn_le 4096 (by omega) s3
 have h4 : CallG Tryz.prog 92 [.ptr 0 0 0 1, .ptr 2 0 (j + 3) 1, .int .i64 4096, .fn 93 [.ptr 3 0 0 1]] [Cr 1 s3.cb, Rd s3.l s3.rb, Va sz R3, Bx 0] (.tup []) [Cr 1 (rRow rDn 4096 s3).2.cb, Rd (rRow rDn 4096 s3).2.l (rRow rDn 4096 s3).2.rb, Va sz (R3.set (j + 3) (L (rowQ (rRow rDn 4096 s3).1))), Bx 0] := rowDn_r s3 sz R3 (j + 3) 4096 (by rw [k3 _ (by omega)]; exact hN3) (by omega) (by omega) (by omega)
 generalize rRow rDn 4096 s3 = q4 at h4 g4 ⊢
 obtain ⟨v4, s4⟩ := q4
 dsimp only at h4 g4 ⊢
 obtain ⟨R4, e4⟩ : ∃ R4, R4 = R3.set (j + 3) (L (rowQ v4)) := ⟨_, rfl⟩
 rw [← e4] at h4
 have z4 : R4.length = sz := by rw [e4, List.length_set]; exact z3
 have k4 : ∀ x, j + 4 ≤ x → R4[x]? = R[x]? := fun x hx => by rw [e4, List.getElem?_set_ne (by omega)] <;> exact k3 x (by omega)
 have eR : setL R j [.int .i64 (⟨v1, v2, v3, v4⟩ : Sq).t, L (rowsU (⟨v1, v2, v3, v4⟩ : Sq).us), L (rowsP (⟨v1, v2, v3, v4⟩ : Sq).ps), L (rowQ (⟨v1, v2, v3, v4⟩ : Sq).ds)] = R4 := by rw [e4, e3, e2, e1] <;> rfl
 rw [eR]
 clear eR e1 e2 e3 e4 k0 k1 k2 k3 k4 z1 z2 z3 z4
 refine wk [87, 88, 90] [(92, [], [0, 1, 2, 3])] exYS2 ?_
 exact rtw [0, 1, 2] exYS2
end Go.Proofs.YtapennlmboabeaaGreat
