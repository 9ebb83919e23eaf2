import Derived.Test.YtapennlmboabeaaGreatYJ
import Derived.Test.YtapennlmboabeaaGreatVi33
import Derived.Test.YtapennlmboabeaaGreatVi31
set_option linter.unusedVariables false
set_option linter.unusedSimpArgs false
set_option linter.unnecessarySimpa false
namespace Go.Proofs.YtapennlmboabeaaGreat
open Go Go.Vi
def eZo (b : Int) (ts : List (Int × Int)) : List UInt8 := num (zz b) ++ (eRow eTu ts)
def xZo (b : Int) (ts : List (Int × Int)) : Bool := decide (b < (-900) ∨ 900 < b) || (xRow xTu 700 ts)
def fZo (b : Int) (ts : List (Int × Int)) : Prop := Fit b ∧ ((ts.length ≤ 140737488351232 ∧ ∀ x ∈ ts, fTu x))
theorem exYR5 : type_of% (an @Wr.eq_1 (an @r8_len (an @row1_len (an @row2_len (an @row3_len @rowQ_len))))) := (an @Wr.eq_1 (an @r8_len (an @row1_len (an @row2_len (an @row3_len @rowQ_len)))))
set_option maxHeartbeats 2000000 in
theorem cZo_w (l : List UInt8) (bad : Bool) (sz : Nat) (R : List D) (j : Nat) (b : Int) (ts : List (Int × Int))  (hR0 : R[j]? = some (.int .i64 b)) (hR1 : R[j + 1]? = some (L (row2 .i64 .i64 ts))) (hf : fZo b ts) (hl : (l ++ eZo b ts).length ≤ 1099511627776) :
  CallG Tryz.prog 149 [.ptr 0 0 0 1, .ptr 3 0 j 1] [Cw 1 bad, Ww 2 l.length, acc true 1 true (r8 l), Va sz R] (.tup [])
   [Cw 1 (bad || xZo b ts), Ww 2 (l ++ eZo b ts).length, acc true 1 true (r8 (l ++ eZo b ts)), Va sz R] := by
 refine callG Tryz.func149 low149 (by simp [c149]) ?_
 simp only [c149]
 unfold fZo at hf
 obtain ⟨l1, e1⟩ : ∃ l1, l1 = l ++ num (zz b) := ⟨_, rfl⟩
 obtain ⟨b1, d1⟩ : ∃ b1, b1 = (bad || decide (b < (-900) ∨ 900 < b)) := ⟨_, rfl⟩
 obtain ⟨l2, e2⟩ : ∃ l2, l2 = l1 ++ eRow eTu ts := ⟨_, rfl⟩
 obtain ⟨b2, d2⟩ : ∃ b2, b2 = (b1 || xRow xTu 700 ts) := ⟨_, rfl⟩
 have el : l ++ eZo b ts = l2 := by rw [e2, e1]; simp only [eZo, List.append_assoc]
 have eb : (bad || xZo b ts) = b2 := by rw [d2, d1]; simp only [xZo, Bool.or_assoc]
 rw [el] at hl
 rw [el, eb]
 have g1 : l1.length ≤ l2.length := by rw [e2, List.length_append]; omega
 have g0 : l.length ≤ l1.length := by rw [e1, List.length_append]; omega
 have h1 := sigI_w l bad sz R j b (-900) 900 hR0 hf.1 (by omega)
 rw [← e1, ← d1] at h1
 have h2 := rowTu_w l1 b1 sz R (j + 1) 700 ts hR1 (by omega) hf.2.1 hf.2.2 (by rw [← e2]; omega)
 rw [← e2, ← d2] at h2
 clear e1 e2 d1 d2 el eb
 refine wk [170] [(171, [], [0, 1, 2, 3, 4])] exYR5 ?_
 exact rtw [0, 1, 2, 3] exYR5
def eHs (ss : List (Int × Int × Int)) : List UInt8 := eRow eSh ss
def xHs (most : Nat) (ss : List (Int × Int × Int)) : Bool := xRow xSh most ss
def fHs (ss : List (Int × Int × Int)) : Prop := (ss.length ≤ 140737488351232 ∧ ∀ x ∈ ss, fSh x)
set_option maxHeartbeats 2000000 in
theorem cHs_w (l : List UInt8) (bad : Bool) (sz : Nat) (R : List D) (j : Nat) (most : Nat) (ss : List (Int × Int × Int))  (hR0 : R[j]? = some (L (row3 ss))) (hm : most < 1000000) (hf : fHs ss) (hl : (l ++ eHs ss).length ≤ 1099511627776) :
  CallG Tryz.prog 150 [.ptr 0 0 0 1, .ptr 3 0 j 1, .int .i64 most] [Cw 1 bad, Ww 2 l.length, acc true 1 true (r8 l), Va sz R] (.tup [])
   [Cw 1 (bad || xHs most ss), Ww 2 (l ++ eHs ss).length, acc true 1 true (r8 (l ++ eHs ss)), Va sz R] := by
 refine callG Tryz.func150 low150 (by simp [c150]) ?_
 simp only [c150]
 unfold fHs at hf
 obtain ⟨l1, e1⟩ : ∃ l1, l1 = l ++ eRow eSh ss := ⟨_, rfl⟩
 obtain ⟨b1, d1⟩ : ∃ b1, b1 = (bad || xRow xSh most ss) := ⟨_, rfl⟩
 have el : l ++ eHs ss = l1 := by rw [e1]; simp only [eHs, List.append_assoc]
 have eb : (bad || xHs most ss) = b1 := by rw [d1]; simp only [xHs, Bool.or_assoc]
 rw [el] at hl
 rw [el, eb]
 have g0 : l.length ≤ l1.length := by rw [e1, List.length_append]; omega
 have h1 := rowSh_w l bad sz R j most ss hR0 (by omega) hf.1 hf.2 (by rw [← e1]; omega)
 rw [← e1, ← d1] at h1
 clear e1 d1 el eb
 refine wk [] [(173, [], [0, 1, 2, 3, 4])] exYR5 ?_
 exact rtw [0, 1, 2, 3] exYR5
def eSe (s : Se) : List UInt8 := eZo s.base s.turns ++ (eHs s.shifts ++ (eRow eOf s.off ++ (num (uI s.before) ++ (num (uI s.after)))))
def xSe (s : Se) : Bool := xZo s.base s.turns || (xHs 10 s.shifts || (xRow xOf 60 s.off || (decide (240 < uI s.before) || (decide (240 < uI s.after)))))
def fSe (s : Se) : Prop := fZo s.base s.turns ∧ (fHs s.shifts ∧ ((s.off.length ≤ 140737488351232 ∧ ∀ x ∈ s.off, fOf x) ∧ (Fit s.before ∧ (Fit s.after))))
set_option maxHeartbeats 2000000 in
theorem cSe_w (l : List UInt8) (bad : Bool) (sz : Nat) (R : List D) (j : Nat) (s : Se)  (hR0 : R[j]? = some (.int .i64 s.base)) (hR1 : R[j + 1]? = some (L (row2 .i64 .i64 s.turns))) (hR2 : R[j + 2]? = some (L (row3 s.shifts))) (hR3 : R[j + 3]? = some (L (row1 .i64 s.off))) (hR4 : R[j + 4]? = some (.int .i64 s.before)) (hR5 : R[j + 5]? = some (.int .i64 s.after)) (hf : fSe s) (hl : (l ++ eSe s).length ≤ 1099511627776) :
  CallG Tryz.prog 122 [.ptr 0 0 0 1, .ptr 3 0 j 1] [Cw 1 bad, Ww 2 l.length, acc true 1 true (r8 l), Va sz R] (.tup [])
   [Cw 1 (bad || xSe s), Ww 2 (l ++ eSe s).length, acc true 1 true (r8 (l ++ eSe s)), Va sz R] := by
 refine callG Tryz.func122 low122 (by simp [c122]) ?_
 simp only [c122]
 unfold fSe at hf
 obtain ⟨l1, e1⟩ : ∃ l1, l1 = l ++ eZo s.base s.turns := ⟨_, rfl⟩
 obtain ⟨b1, d1⟩ : ∃ b1, b1 = (bad || xZo s.base s.turns) := ⟨_, rfl⟩
 obtain ⟨l2, e2⟩ : ∃ l2, l2 = l1 ++ eHs s.shifts := ⟨_, rfl⟩
 obtain ⟨b2, d2⟩ : ∃ b2, b2 = (b1 || xHs 10 s.shifts) := ⟨_, rfl⟩
 obtain ⟨l3, e3⟩ : ∃ l3, l3 = l2 ++ eRow eOf s.off := ⟨_, rfl⟩
 obtain ⟨b3, d3⟩ : ∃ b3, b3 = (b2 || xRow xOf 60 s.off) := ⟨_, rfl⟩
 obtain ⟨l4, e4⟩ : ∃ l4, l4 = l3 ++ num (uI s.before) := ⟨_, rfl⟩
 obtain ⟨b4, d4⟩ : ∃ b4, b4 = (b3 || decide (240 < uI s.before)) := ⟨_, rfl⟩
 obtain ⟨l5, e5⟩ : ∃ l5, l5 = l4 ++ num (uI s.after) := ⟨_, rfl⟩
 obtain ⟨b5, d5⟩ : ∃ b5, b5 = (b4 || decide (240 < uI s.after)) := ⟨_, rfl⟩
 have el : l ++ eSe s = l5 := by rw [e5, e4, e3, e2, e1]; simp only [eSe, List.append_assoc]
 have eb : (bad || xSe s) = b5 := by rw [d5, d4, d3, d2, d1]; simp only [xSe, Bool.or_assoc]
 rw [el] at hl
 rw [el, eb]
 have g4 : l4.length ≤ l5.length := by rw [e5, List.length_append]; omega
 have g3 : l3.length ≤ l4.length := by rw [e4, List.length_append]; omega
 have g2 : l2.length ≤ l3.length := by rw [e3, List.length_append]; omega
 have g1 : l1.length ≤ l2.length := by rw [e2, List.length_append]; omega
 have g0 : l.length ≤ l1.length := by rw [e1, List.length_append]; omega
 have h1 := cZo_w l bad sz R j s.base s.turns hR0 hR1 hf.1 (by rw [← e1]; omega)
 rw [← e1, ← d1] at h1
 have h2 := cHs_w l1 b1 sz R (j + 2) 10 s.shifts hR2 (by omega) hf.2.1 (by rw [← e2]; omega)
 rw [← e2, ← d2] at h2
 have h3 := rowOf_w l2 b2 sz R (j + 3) 60 s.off hR3 (by omega) hf.2.2.1.1 hf.2.2.1.2 (by rw [← e3]; omega)
 rw [← e3, ← d3] at h3
 have h4 := numI_w l3 b3 sz R (j + 4) 240 s.before hR4 hf.2.2.2.1 (by omega) (by omega)
 rw [← e4, ← d4] at h4
 have h5 := numI_w l4 b4 sz R (j + 5) 240 s.after hR5 hf.2.2.2.2 (by omega) (by omega)
 rw [← e5, ← d5] at h5
 clear e1 e2 e3 e4 e5 d1 d2 d3 d4 d5 el eb
 refine wk [149, 150, 131] [(151, [], [0, 1, 2, 3, 4])] exYR5 ?_
 exact rtw [0, 1, 2, 3] exYR5
def eSs (xs : List Int) : List UInt8 := eRow eSm xs
def xSs (xs : List Int) : Bool := xRow xSm 400 xs
def fSs (xs : List Int) : Prop := (xs.length ≤ 140737488351232 ∧ ∀ x ∈ xs, fSm x)
set_option maxHeartbeats 2000000 in
theorem cSs_w (l : List UInt8) (bad : Bool) (sz : Nat) (R : List D) (j : Nat) (xs : List Int)  (hR0 : R[j]? = some (L (row1 .i64 xs))) (hf : fSs xs) (hl : (l ++ eSs xs).length ≤ 1099511627776) :
  CallG Tryz.prog 177 [.ptr 0 0 0 1, .ptr 3 0 j 1] [Cw 1 bad, Ww 2 l.length, acc true 1 true (r8 l), Va sz R] (.tup [])
   [Cw 1 (bad || xSs xs), Ww 2 (l ++ eSs xs).length, acc true 1 true (r8 (l ++ eSs xs)), Va sz R] := by
 refine callG Tryz.func177 low177 (by simp [c177]) ?_
 simp only [c177]
 unfold fSs at hf
 obtain ⟨l1, e1⟩ : ∃ l1, l1 = l ++ eRow eSm xs := ⟨_, rfl⟩
 obtain ⟨b1, d1⟩ : ∃ b1, b1 = (bad || xRow xSm 400 xs) := ⟨_, rfl⟩
 have el : l ++ eSs xs = l1 := by rw [e1]; simp only [eSs, List.append_assoc]
 have eb : (bad || xSs xs) = b1 := by rw [d1]; simp only [xSs, Bool.or_assoc]
 rw [el] at hl
 rw [el, eb]
 have g0 : l.length ≤ l1.length := by rw [e1, List.length_append]; omega
 have h1 := rowSm_w l bad sz R j 400 xs hR0 (by omega) hf.1 hf.2 (by rw [← e1]; omega)
 rw [← e1, ← d1] at h1
 clear e1 d1 el eb
 refine wk [] [(151, [], [0, 1, 2, 3, 4])] exYR5 ?_
 exact rtw [0, 1, 2, 3] exYR5
def eRu (r : Ru) : List UInt8 := num (uI r.freq) ++ (num (uI r.interval) ++ (num (uI r.count) ++ (num (zz r.til) ++ (eSs r.bm ++ (eSs r.bmd ++ (eRow eDa r.bd ++ (eSs r.bsp ++ (num (uI r.start)))))))))
def xRu (r : Ru) : Bool := decide (4 < uI r.freq) || (decide (999 < uI r.interval) || (decide (5000 < uI r.count) || (xSs r.bm || (xSs r.bmd || (xRow xDa 400 r.bd || (xSs r.bsp || (decide (6 < uI r.start))))))))
def fRu (r : Ru) : Prop := Fit r.freq ∧ (Fit r.interval ∧ (Fit r.count ∧ (Fit r.til ∧ (fSs r.bm ∧ (fSs r.bmd ∧ ((r.bd.length ≤ 140737488351232 ∧ ∀ x ∈ r.bd, fDa x) ∧ (fSs r.bsp ∧ (Fit r.start))))))))
set_option maxHeartbeats 2000000 in
theorem cRu_w (l : List UInt8) (bad : Bool) (sz : Nat) (R : List D) (j : Nat) (r : Ru)  (hR0 : R[j]? = some (.int .i64 r.freq)) (hR1 : R[j + 1]? = some (.int .i64 r.interval)) (hR2 : R[j + 2]? = some (.int .i64 r.count)) (hR3 : R[j + 3]? = some (.int .i64 r.til)) (hR4 : R[j + 4]? = some (L (row1 .i64 r.bm))) (hR5 : R[j + 5]? = some (L (row1 .i64 r.bmd))) (hR6 : R[j + 6]? = some (L (row2 .i64 .i64 r.bd))) (hR7 : R[j + 7]? = some (L (row1 .i64 r.bsp))) (hR8 : R[j + 8]? = some (.int .i64 r.start)) (hf : fRu r) (hl : (l ++ eRu r).length ≤ 1099511627776) :
  CallG Tryz.prog 154 [.ptr 0 0 0 1, .ptr 3 0 j 1] [Cw 1 bad, Ww 2 l.length, acc true 1 true (r8 l), Va sz R] (.tup [])
   [Cw 1 (bad || xRu r), Ww 2 (l ++ eRu r).length, acc true 1 true (r8 (l ++ eRu r)), Va sz R] := by
 refine callG Tryz.func154 low154 (by simp [c154]) ?_
 simp only [c154]
 unfold fRu at hf
 obtain ⟨l1, e1⟩ : ∃ l1, l1 = l ++ num (uI r.freq) := ⟨_, rfl⟩
 obtain ⟨b1, d1⟩ : ∃ b1, b1 = (bad || decide (4 < uI r.freq)) := ⟨_, rfl⟩
 obtain ⟨l2, e2⟩ : ∃ l2, l2 = l1 ++ num (uI r.interval) := ⟨_, rfl⟩
 obtain ⟨b2, d2⟩ : ∃ b2, b2 = (b1 || decide (999 < uI r.interval)) := ⟨_, rfl⟩
 obtain ⟨l3, e3⟩ : ∃ l3, l3 = l2 ++ num (uI r.count) := ⟨_, rfl⟩
 obtain ⟨b3, d3⟩ : ∃ b3, b3 = (b2 || decide (5000 < uI r.count)) := ⟨_, rfl⟩
 obtain ⟨l4, e4⟩ : ∃ l4, l4 = l3 ++ num (zz r.til) := ⟨_, rfl⟩
 obtain ⟨l5, e5⟩ : ∃ l5, l5 = l4 ++ eSs r.bm := ⟨_, rfl⟩
 obtain ⟨b5, d5⟩ : ∃ b5, b5 = (b3 || xSs r.bm) := ⟨_, rfl⟩
 obtain ⟨l6, e6⟩ : ∃ l6, l6 = l5 ++ eSs r.bmd := ⟨_, rfl⟩
 obtain ⟨b6, d6⟩ : ∃ b6, b6 = (b5 || xSs r.bmd) := ⟨_, rfl⟩
 obtain ⟨l7, e7⟩ : ∃ l7, l7 = l6 ++ eRow eDa r.bd := ⟨_, rfl⟩
 obtain ⟨b7, d7⟩ : ∃ b7, b7 = (b6 || xRow xDa 400 r.bd) := ⟨_, rfl⟩
 obtain ⟨l8, e8⟩ : ∃ l8, l8 = l7 ++ eSs r.bsp := ⟨_, rfl⟩
 obtain ⟨b8, d8⟩ : ∃ b8, b8 = (b7 || xSs r.bsp) := ⟨_, rfl⟩
 obtain ⟨l9, e9⟩ : ∃ l9, l9 = l8 ++ num (uI r.start) := ⟨_, rfl⟩
 obtain ⟨b9, d9⟩ : ∃ b9, b9 = (b8 || decide (6 < uI r.start)) := ⟨_, rfl⟩
 have el : l ++ eRu r = l9 := by rw [e9, e8, e7, e6, e5, e4, e3, e2, e1]; simp only [eRu, List.append_assoc]
 have eb : (bad || xRu r) = b9 := by rw [d9, d8, d7, d6, d5, d3, d2, d1]; simp only [xRu, Bool.or_assoc]
 rw [el] at hl
 rw [el, eb]
 have g8 : l8.length ≤ l9.length := by rw [e9, List.length_append]; omega
 have g7 : l7.length ≤ l8.length := by rw [e8, List.length_append]; omega
 have g6 : l6.length ≤ l7.length := by rw [e7, List.length_append]; omega
 have g5 : l5.length ≤ l6.length := by rw [e6, List.length_append]; omega
 have g4 : l4.length ≤ l5.length := by rw [e5, List.length_append]; omega
 have g3 : l3.length ≤ l4.length := by rw [e4, List.length_append]; omega
 have g2 : l2.length ≤ l3.length := by rw [e3, List.length_append]; omega
 have g1 : l1.length ≤ l2.length := by rw [e2, List.length_append]; omega
 have g0 : l.length ≤ l1.length := by rw [e1, List.length_append]; omega
 have h1 := numI_w l bad sz R j 4 r.freq hR0 hf.1 (by omega) (by omega)
 rw [← e1, ← d1] at h1
 have h2 := numI_w l1 b1 sz R (j + 1) 999 r.interval hR1 hf.2.1 (by omega) (by omega)
 rw [← e2, ← d2] at h2
 have h3 := numI_w l2 b2 sz R (j + 2) 5000 r.count hR2 hf.2.2.1 (by omega) (by omega)
 rw [← e3, ← d3] at h3
 have h4 := minutes_w l3 b3 sz R (j + 3) r.til hR3 hf.2.2.2.1 (by omega)
 rw [← e4] at h4
 have h5 := cSs_w l4 b3 sz R (j + 4) r.bm hR4 hf.2.2.2.2.1 (by rw [← e5]; omega)
 rw [← e5, ← d5] at h5
 have h6 := cSs_w l5 b5 sz R (j + 5) r.bmd hR5 hf.2.2.2.2.2.1 (by rw [← e6]; omega)
 rw [← e6, ← d6] at h6
 have h7 := rowDa_w l6 b6 sz R (j + 6) 400 r.bd hR6 (by omega) hf.2.2.2.2.2.2.1.1 hf.2.2.2.2.2.2.1.2 (by rw [← e7]; omega)
 rw [← e7, ← d7] at h7
 have h8 := cSs_w l7 b7 sz R (j + 7) r.bsp hR7 hf.2.2.2.2.2.2.2.1 (by rw [← e8]; omega)
 rw [← e8, ← d8] at h8
 have h9 := numI_w l8 b8 sz R (j + 8) 6 r.start hR8 hf.2.2.2.2.2.2.2.2 (by omega) (by omega)
 rw [← e9, ← d9] at h9
 clear e1 e2 e3 e4 e5 e6 e7 e8 e9 d1 d2 d3 d5 d6 d7 d8 d9 el eb
 refine wk [131, 87, 177] [(178, [], [0, 1, 2, 3, 4])] exYR5 ?_
 exact rtw [0, 1, 2, 3] exYR5
def eE0 (e : Ev) : List UInt8 := num (zz e.start) ++ (num (uI e.long) ++ (fl8 e.again ++ (fl8 e.world)))
def xE0 (e : Ev) : Bool := decide (10080 < uI e.long)
def fE0 (e : Ev) : Prop := Fit e.start ∧ (Fit e.long ∧ (True ∧ (True)))
set_option maxHeartbeats 2000000 in
theorem cE0_w (l : List UInt8) (bad : Bool) (sz : Nat) (R : List D) (j : Nat) (e : Ev) (ha : e.again = false) (hR0 : R[j]? = some (.int .i64 e.start)) (hR1 : R[j + 1]? = some (.int .i64 e.long)) (hR2 : R[j + 2]? = some (.bool e.world)) (hR3 : R[j + 3]? = some (.bool e.again)) (hf : fE0 e) (hl : (l ++ eE0 e).length ≤ 1099511627776) :
  CallG Tryz.prog 125 [.ptr 0 0 0 1, .ptr 3 0 j 1] [Cw 1 bad, Ww 2 l.length, acc true 1 true (r8 l), Va sz R] (.tup [])
   [Cw 1 (bad || xE0 e), Ww 2 (l ++ eE0 e).length, acc true 1 true (r8 (l ++ eE0 e)), Va sz R] := by
 refine callG Tryz.func125 low125 (by simp [c125]) ?_
 simp only [c125]
 unfold fE0 at hf
 obtain ⟨l1, e1⟩ : ∃ l1, l1 = l ++ num (zz e.start) := ⟨_, rfl⟩
 obtain ⟨l2, e2⟩ : ∃ l2, l2 = l1 ++ num (uI e.long) := ⟨_, rfl⟩
 obtain ⟨b2, d2⟩ : ∃ b2, b2 = (bad || decide (10080 < uI e.long)) := ⟨_, rfl⟩
 obtain ⟨l3, e3⟩ : ∃ l3, l3 = l2 ++ fl8 e.again := ⟨_, rfl⟩
 obtain ⟨l4, e4⟩ : ∃ l4, l4 = l3 ++ fl8 e.world := ⟨_, rfl⟩
 have el : l ++ eE0 e = l4 := by rw [e4, e3, e2, e1]; simp only [eE0, List.append_assoc]
 have eb : (bad || xE0 e) = b2 := by rw [d2]; simp only [xE0, Bool.or_assoc]
 rw [el] at hl
 rw [el, eb]
 have g3 : l3.length ≤ l4.length := by rw [e4, List.length_append]; omega
 have g2 : l2.length ≤ l3.length := by rw [e3, List.length_append]; omega
 have g1 : l1.length ≤ l2.length := by rw [e2, List.length_append]; omega
 have g0 : l.length ≤ l1.length := by rw [e1, List.length_append]; omega
 have h1 := minutes_w l bad sz R j e.start hR0 hf.1 (by omega)
 rw [← e1] at h1
 have h2 := numI_w l1 bad sz R (j + 1) 10080 e.long hR1 hf.2.1 (by omega) (by omega)
 rw [← e2, ← d2] at h2
 have h3 := flag_w l2 b2 sz R (j + 3) e.again hR3 (by omega)
 rw [← e3] at h3
 have h4 := flag_w l3 b2 sz R (j + 2) e.world hR2 (by omega)
 rw [← e4] at h4
 clear e1 e2 e3 e4 d2 el eb
 rw [ha] at hR3
 refine wk [87, 131, 153] [] (an exYR5 hR3) ?_
 exact rtw [0, 1, 2, 3] exYR5
def eE1 (e : Ev) : List UInt8 := num (zz e.start) ++ (num (uI e.long) ++ (fl8 e.again ++ (eRu e.rule ++ (eRow eEx e.ex ++ (eRow ePl e.plus ++ (eRow eCh e.ch))))))
def xE1 (e : Ev) : Bool := decide (10080 < uI e.long) || (xRu e.rule || (xRow xEx 50 e.ex || (xRow xPl 50 e.plus || (xRow xCh 50 e.ch))))
def fE1 (e : Ev) : Prop := Fit e.start ∧ (Fit e.long ∧ (True ∧ (fRu e.rule ∧ ((e.ex.length ≤ 140737488351232 ∧ ∀ x ∈ e.ex, fEx x) ∧ ((e.plus.length ≤ 140737488351232 ∧ ∀ x ∈ e.plus, fPl x) ∧ ((e.ch.length ≤ 140737488351232 ∧ ∀ x ∈ e.ch, fCh x)))))))
set_option maxHeartbeats 2000000 in
theorem cE1_w (l : List UInt8) (bad : Bool) (sz : Nat) (R : List D) (j : Nat) (e : Ev) (ha : e.again = true) (hR0 : R[j]? = some (.int .i64 e.start)) (hR1 : R[j + 1]? = some (.int .i64 e.long)) (hR3 : R[j + 3]? = some (.bool e.again)) (hR4 : R[j + 4]? = some (.int .i64 e.rule.freq)) (hR5 : R[j + 5]? = some (.int .i64 e.rule.interval)) (hR6 : R[j + 6]? = some (.int .i64 e.rule.count)) (hR7 : R[j + 7]? = some (.int .i64 e.rule.til)) (hR8 : R[j + 8]? = some (L (row1 .i64 e.rule.bm))) (hR9 : R[j + 9]? = some (L (row1 .i64 e.rule.bmd))) (hR10 : R[j + 10]? = some (L (row2 .i64 .i64 e.rule.bd))) (hR11 : R[j + 11]? = some (L (row1 .i64 e.rule.bsp))) (hR12 : R[j + 12]? = some (.int .i64 e.rule.start)) (hR13 : R[j + 13]? = some (L (row1 .i64 e.ex))) (hR14 : R[j + 14]? = some (L (row1 .i64 e.plus))) (hR15 : R[j + 15]? = some (L (row3 e.ch))) (hf : fE1 e) (hl : (l ++ eE1 e).length ≤ 1099511627776) :
  CallG Tryz.prog 125 [.ptr 0 0 0 1, .ptr 3 0 j 1] [Cw 1 bad, Ww 2 l.length, acc true 1 true (r8 l), Va sz R] (.tup [])
   [Cw 1 (bad || xE1 e), Ww 2 (l ++ eE1 e).length, acc true 1 true (r8 (l ++ eE1 e)), Va sz R] := by
 refine callG Tryz.func125 low125 (by simp [c125]) ?_
 simp only [c125]
 unfold fE1 at hf
 obtain ⟨l1, e1⟩ : ∃ l1, l1 = l ++ num (zz e.start) := ⟨_, rfl⟩
 obtain ⟨l2, e2⟩ : ∃ l2, l2 = l1 ++ num (uI e.long) := ⟨_, rfl⟩
 obtain ⟨b2, d2⟩ : ∃ b2, b2 = (bad || decide (10080 < uI e.long)) := ⟨_, rfl⟩
 obtain ⟨l3, e3⟩ : ∃ l3, l3 = l2 ++ fl8 e.again := ⟨_, rfl⟩
 obtain ⟨l4, e4⟩ : ∃ l4, l4 = l3 ++ eRu e.rule := ⟨_, rfl⟩
 obtain ⟨b4, d4⟩ : ∃ b4, b4 = (b2 || xRu e.rule) := ⟨_, rfl⟩
 obtain ⟨l5, e5⟩ : ∃ l5, l5 = l4 ++ eRow eEx e.ex := ⟨_, rfl⟩
 obtain ⟨b5, d5⟩ : ∃ b5, b5 = (b4 || xRow xEx 50 e.ex) := ⟨_, rfl⟩
 obtain ⟨l6, e6⟩ : ∃ l6, l6 = l5 ++ eRow ePl e.plus := ⟨_, rfl⟩
 obtain ⟨b6, d6⟩ : ∃ b6, b6 = (b5 || xRow xPl 50 e.plus) := ⟨_, rfl⟩
 obtain ⟨l7, e7⟩ : ∃ l7, l7 = l6 ++ eRow eCh e.ch := ⟨_, rfl⟩
 obtain ⟨b7, d7⟩ : ∃ b7, b7 = (b6 || xRow xCh 50 e.ch) := ⟨_, rfl⟩
 have el : l ++ eE1 e = l7 := by rw [e7, e6, e5, e4, e3, e2, e1]; simp only [eE1, List.append_assoc]
 have eb : (bad || xE1 e) = b7 := by rw [d7, d6, d5, d4, d2]; simp only [xE1, Bool.or_assoc]
 rw [el] at hl
 rw [el, eb]
 have g6 : l6.length ≤ l7.length := by rw [e7, List.length_append]; omega
 have g5 : l5.length ≤ l6.length := by rw [e6, List.length_append]; omega
 have g4 : l4.length ≤ l5.length := by rw [e5, List.length_append]; omega
 have g3 : l3.length ≤ l4.length := by rw [e4, List.length_append]; omega
 have g2 : l2.length ≤ l3.length := by rw [e3, List.length_append]; omega
 have g1 : l1.length ≤ l2.length := by rw [e2, List.length_append]; omega
 have g0 : l.length ≤ l1.length := by rw [e1, List.length_append]; omega
 have h1 := minutes_w l bad sz R j e.start hR0 hf.1 (by omega)
 rw [← e1] at h1
 have h2 := numI_w l1 bad sz R (j + 1) 10080 e.long hR1 hf.2.1 (by omega) (by omega)
 rw [← e2, ← d2] at h2
 have h3 := flag_w l2 b2 sz R (j + 3) e.again hR3 (by omega)
 rw [← e3] at h3
 have h4 := cRu_w l3 b2 sz R (j + 4) e.rule hR4 hR5 hR6 hR7 hR8 hR9 hR10 hR11 hR12 hf.2.2.2.1 (by rw [← e4]; omega)
 rw [← e4, ← d4] at h4
 have h5 := rowEx_w l4 b4 sz R (j + 13) 50 e.ex hR13 (by omega) hf.2.2.2.2.1.1 hf.2.2.2.2.1.2 (by rw [← e5]; omega)
 rw [← e5, ← d5] at h5
 have h6 := rowPl_w l5 b5 sz R (j + 14) 50 e.plus hR14 (by omega) hf.2.2.2.2.2.1.1 hf.2.2.2.2.2.1.2 (by rw [← e6]; omega)
 rw [← e6, ← d6] at h6
 have h7 := rowCh_w l6 b6 sz R (j + 15) 50 e.ch hR15 (by omega) hf.2.2.2.2.2.2.1 hf.2.2.2.2.2.2.2 (by rw [← e7]; omega)
 rw [← e7, ← d7] at h7
 clear e1 e2 e3 e4 e5 e6 e7 d2 d4 d5 d6 d7 el eb
 rw [ha] at hR3
 refine wk [87, 131, 153, 154] [(127, [], [0, 1, 2, 3, 4]), (157, [], [0, 1, 2, 3, 4])] (an exYR5 hR3) ?_
 exact rtw [0, 1, 2, 3] exYR5
def eEv (e : Ev) : List UInt8 := if e.again = true then eE1 e else eE0 e
def xEv (e : Ev) : Bool := if e.again = true then xE1 e else xE0 e
def fEv (e : Ev) : Prop := fE0 e ∧ fE1 e
def eQu (q : Qu) : List UInt8 := num (zz q.a) ++ (num (zz q.b) ++ (num (uI q.long) ++ (num (uI q.grid) ++ (eRow eMu q.must ++ (eRow eWa q.may ++ (num (uI q.seats) ++ (eRow ePa q.apart ++ (eHs q.prefer))))))))
def xQu (q : Qu) : Bool := decide (10080 < uI q.long) || (decide (1440 < uI q.grid) || (xRow xMu 64 q.must || (xRow xWa 16 q.may || (decide (100 < uI q.seats) || (xRow xPa 32 q.apart || (xHs 8 q.prefer))))))
def fQu (q : Qu) : Prop := Fit q.a ∧ (Fit q.b ∧ (Fit q.long ∧ (Fit q.grid ∧ ((q.must.length ≤ 140737488351232 ∧ ∀ x ∈ q.must, fMu x) ∧ ((q.may.length ≤ 140737488351232 ∧ ∀ x ∈ q.may, fWa x) ∧ (Fit q.seats ∧ ((q.apart.length ≤ 140737488351232 ∧ ∀ x ∈ q.apart, fPa x) ∧ (fHs q.prefer))))))))
set_option maxHeartbeats 2000000 in
theorem cQu_w (l : List UInt8) (bad : Bool) (sz : Nat) (R : List D) (j : Nat) (q : Qu)  (hR0 : R[j]? = some (.int .i64 q.a)) (hR1 : R[j + 1]? = some (.int .i64 q.b)) (hR2 : R[j + 2]? = some (.int .i64 q.long)) (hR3 : R[j + 3]? = some (.int .i64 q.grid)) (hR4 : R[j + 4]? = some (L (row1 .u32 q.must))) (hR5 : R[j + 5]? = some (L (row2 .u32 .i64 q.may))) (hR6 : R[j + 6]? = some (.int .i64 q.seats)) (hR7 : R[j + 7]? = some (L (row2 .u32 .u32 q.apart))) (hR8 : R[j + 8]? = some (L (row3 q.prefer))) (hf : fQu q) (hl : (l ++ eQu q).length ≤ 1099511627776) :
  CallG Tryz.prog 126 [.ptr 0 0 0 1, .ptr 3 0 j 1] [Cw 1 bad, Ww 2 l.length, acc true 1 true (r8 l), Va sz R] (.tup [])
   [Cw 1 (bad || xQu q), Ww 2 (l ++ eQu q).length, acc true 1 true (r8 (l ++ eQu q)), Va sz R] := by
 refine callG Tryz.func126 low126 (by simp [c126]) ?_
 simp only [c126]
 unfold fQu at hf
 obtain ⟨l1, e1⟩ : ∃ l1, l1 = l ++ num (zz q.a) := ⟨_, rfl⟩
 obtain ⟨l2, e2⟩ : ∃ l2, l2 = l1 ++ num (zz q.b) := ⟨_, rfl⟩
 obtain ⟨l3, e3⟩ : ∃ l3, l3 = l2 ++ num (uI q.long) := ⟨_, rfl⟩
 obtain ⟨b3, d3⟩ : ∃ b3, b3 = (bad || decide (10080 < uI q.long)) := ⟨_, rfl⟩
 obtain ⟨l4, e4⟩ : ∃ l4, l4 = l3 ++ num (uI q.grid) := ⟨_, rfl⟩
 obtain ⟨b4, d4⟩ : ∃ b4, b4 = (b3 || decide (1440 < uI q.grid)) := ⟨_, rfl⟩
 obtain ⟨l5, e5⟩ : ∃ l5, l5 = l4 ++ eRow eMu q.must := ⟨_, rfl⟩
 obtain ⟨b5, d5⟩ : ∃ b5, b5 = (b4 || xRow xMu 64 q.must) := ⟨_, rfl⟩
 obtain ⟨l6, e6⟩ : ∃ l6, l6 = l5 ++ eRow eWa q.may := ⟨_, rfl⟩
 obtain ⟨b6, d6⟩ : ∃ b6, b6 = (b5 || xRow xWa 16 q.may) := ⟨_, rfl⟩
 obtain ⟨l7, e7⟩ : ∃ l7, l7 = l6 ++ num (uI q.seats) := ⟨_, rfl⟩
 obtain ⟨b7, d7⟩ : ∃ b7, b7 = (b6 || decide (100 < uI q.seats)) := ⟨_, rfl⟩
 obtain ⟨l8, e8⟩ : ∃ l8, l8 = l7 ++ eRow ePa q.apart := ⟨_, rfl⟩
 obtain ⟨b8, d8⟩ : ∃ b8, b8 = (b7 || xRow xPa 32 q.apart) := ⟨_, rfl⟩
 obtain ⟨l9, e9⟩ : ∃ l9, l9 = l8 ++ eHs q.prefer := ⟨_, rfl⟩
 obtain ⟨b9, d9⟩ : ∃ b9, b9 = (b8 || xHs 8 q.prefer) := ⟨_, rfl⟩
 have el : l ++ eQu q = l9 := by rw [e9, e8, e7, e6, e5, e4, e3, e2, e1]; simp only [eQu, List.append_assoc]
 have eb : (bad || xQu q) = b9 := by rw [d9, d8, d7, d6, d5, d4, d3]; simp only [xQu, Bool.or_assoc]
 rw [el] at hl
 rw [el, eb]
 have g8 : l8.length ≤ l9.length := by rw [e9, List.length_append]; omega
 have g7 : l7.length ≤ l8.length := by rw [e8, List.length_append]; omega
 have g6 : l6.length ≤ l7.length := by rw [e7, List.length_append]; omega
 have g5 : l5.length ≤ l6.length := by rw [e6, List.length_append]; omega
 have g4 : l4.length ≤ l5.length := by rw [e5, List.length_append]; omega
 have g3 : l3.length ≤ l4.length := by rw [e4, List.length_append]; omega
 have g2 : l2.length ≤ l3.length := by rw [e3, List.length_append]; omega
 have g1 : l1.length ≤ l2.length := by rw [e2, List.length_append]; omega
 have g0 : l.length ≤ l1.length := by rw [e1, List.length_append]; omega
 have h1 := minutes_w l bad sz R j q.a hR0 hf.1 (by omega)
 rw [← e1] at h1
 have h2 := minutes_w l1 bad sz R (j + 1) q.b hR1 hf.2.1 (by omega)
 rw [← e2] at h2
 have h3 := numI_w l2 bad sz R (j + 2) 10080 q.long hR2 hf.2.2.1 (by omega) (by omega)
 rw [← e3, ← d3] at h3
 have h4 := numI_w l3 b3 sz R (j + 3) 1440 q.grid hR3 hf.2.2.2.1 (by omega) (by omega)
 rw [← e4, ← d4] at h4
 have h5 := rowMu_w l4 b4 sz R (j + 4) 64 q.must hR4 (by omega) hf.2.2.2.2.1.1 hf.2.2.2.2.1.2 (by rw [← e5]; omega)
 rw [← e5, ← d5] at h5
 have h6 := rowWa_w l5 b5 sz R (j + 5) 16 q.may hR5 (by omega) hf.2.2.2.2.2.1.1 hf.2.2.2.2.2.1.2 (by rw [← e6]; omega)
 rw [← e6, ← d6] at h6
 have h7 := numI_w l6 b6 sz R (j + 6) 100 q.seats hR6 hf.2.2.2.2.2.2.1 (by omega) (by omega)
 rw [← e7, ← d7] at h7
 have h8 := rowPa_w l7 b7 sz R (j + 7) 32 q.apart hR7 (by omega) hf.2.2.2.2.2.2.2.1.1 hf.2.2.2.2.2.2.2.1.2 (by rw [← e8]; omega)
 rw [← e8, ← d8] at h8
 have h9 := cHs_w l8 b8 sz R (j + 8) 8 q.prefer hR8 (by omega) hf.2.2.2.2.2.2.2.2 (by rw [← e9]; omega)
 rw [← e9, ← d9] at h9
 clear e1 e2 e3 e4 e5 e6 e7 e8 e9 d3 d4 d5 d6 d7 d8 d9 el eb
 refine wk [87, 131, 150] [(159, [], [0, 1, 2, 3, 4]), (161, [], [0, 1, 2, 3, 4]), (163, [], [0, 1, 2, 3, 4])] exYR5 ?_
 exact rtw [0, 1, 2, 3] exYR5
def ePo (p : Po) : List UInt8 := num (uI p.id) ++ (num (uI p.owner) ++ (eQu p.qu ++ (eRow eTs p.slots ++ (eRow eVo p.votes ++ (num (zz p.til) ++ (num (uI p.state) ++ (num (uI p.winner))))))))
def xPo (p : Po) : Bool := xQu p.qu || (xRow xTs 40 p.slots || (xRow xVo 4096 p.votes || (decide (4 < uI p.state) || (decide (40 < uI p.winner)))))
def fPo (p : Po) : Prop := (0 ≤ p.id ∧ p.id ≤ 4294967295) ∧ ((0 ≤ p.owner ∧ p.owner ≤ 4294967295) ∧ (fQu p.qu ∧ ((p.slots.length ≤ 140737488351232 ∧ ∀ x ∈ p.slots, fTs x) ∧ ((p.votes.length ≤ 140737488351232 ∧ ∀ x ∈ p.votes, fVo x) ∧ (Fit p.til ∧ (Fit p.state ∧ (Fit p.winner)))))))
set_option maxHeartbeats 2000000 in
theorem cPo_w (l : List UInt8) (bad : Bool) (sz : Nat) (R : List D) (j : Nat) (p : Po)  (hR0 : R[j]? = some (.int .u32 p.id)) (hR1 : R[j + 1]? = some (.int .u32 p.owner)) (hR2 : R[j + 2]? = some (.int .i64 p.qu.a)) (hR3 : R[j + 3]? = some (.int .i64 p.qu.b)) (hR4 : R[j + 4]? = some (.int .i64 p.qu.long)) (hR5 : R[j + 5]? = some (.int .i64 p.qu.grid)) (hR6 : R[j + 6]? = some (L (row1 .u32 p.qu.must))) (hR7 : R[j + 7]? = some (L (row2 .u32 .i64 p.qu.may))) (hR8 : R[j + 8]? = some (.int .i64 p.qu.seats)) (hR9 : R[j + 9]? = some (L (row2 .u32 .u32 p.qu.apart))) (hR10 : R[j + 10]? = some (L (row3 p.qu.prefer))) (hR11 : R[j + 11]? = some (L (row1 .i64 p.slots))) (hR12 : R[j + 12]? = some (L (row2 .u32 .i64 p.votes))) (hR13 : R[j + 13]? = some (.int .i64 p.til)) (hR14 : R[j + 14]? = some (.int .i64 p.state)) (hR15 : R[j + 15]? = some (.int .i64 p.winner)) (hf : fPo p) (hl : (l ++ ePo p).length ≤ 1099511627776) :
  CallG Tryz.prog 91 [.ptr 0 0 0 1, .ptr 3 0 j 1] [Cw 1 bad, Ww 2 l.length, acc true 1 true (r8 l), Va sz R] (.tup [])
   [Cw 1 (bad || xPo p), Ww 2 (l ++ ePo p).length, acc true 1 true (r8 (l ++ ePo p)), Va sz R] := by
 refine callG Tryz.func91 low91 (by simp [c91]) ?_
 simp only [c91]
 unfold fPo at hf
 obtain ⟨l1, e1⟩ : ∃ l1, l1 = l ++ num (uI p.id) := ⟨_, rfl⟩
 obtain ⟨l2, e2⟩ : ∃ l2, l2 = l1 ++ num (uI p.owner) := ⟨_, rfl⟩
 obtain ⟨l3, e3⟩ : ∃ l3, l3 = l2 ++ eQu p.qu := ⟨_, rfl⟩
 obtain ⟨b3, d3⟩ : ∃ b3, b3 = (bad || xQu p.qu) := ⟨_, rfl⟩
 obtain ⟨l4, e4⟩ : ∃ l4, l4 = l3 ++ eRow eTs p.slots := ⟨_, rfl⟩
 obtain ⟨b4, d4⟩ : ∃ b4, b4 = (b3 || xRow xTs 40 p.slots) := ⟨_, rfl⟩
 obtain ⟨l5, e5⟩ : ∃ l5, l5 = l4 ++ eRow eVo p.votes := ⟨_, rfl⟩
 obtain ⟨b5, d5⟩ : ∃ b5, b5 = (b4 || xRow xVo 4096 p.votes) := ⟨_, rfl⟩
 obtain ⟨l6, e6⟩ : ∃ l6, l6 = l5 ++ num (zz p.til) := ⟨_, rfl⟩
 obtain ⟨l7, e7⟩ : ∃ l7, l7 = l6 ++ num (uI p.state) := ⟨_, rfl⟩
 obtain ⟨b7, d7⟩ : ∃ b7, b7 = (b5 || decide (4 < uI p.state)) := ⟨_, rfl⟩
 obtain ⟨l8, e8⟩ : ∃ l8, l8 = l7 ++ num (uI p.winner) := ⟨_, rfl⟩
 obtain ⟨b8, d8⟩ : ∃ b8, b8 = (b7 || decide (40 < uI p.winner)) := ⟨_, rfl⟩
 have el : l ++ ePo p = l8 := by rw [e8, e7, e6, e5, e4, e3, e2, e1]; simp only [ePo, List.append_assoc]
 have eb : (bad || xPo p) = b8 := by rw [d8, d7, d5, d4, d3]; simp only [xPo, Bool.or_assoc]
 rw [el] at hl
 rw [el, eb]
 have g7 : l7.length ≤ l8.length := by rw [e8, List.length_append]; omega
 have g6 : l6.length ≤ l7.length := by rw [e7, List.length_append]; omega
 have g5 : l5.length ≤ l6.length := by rw [e6, List.length_append]; omega
 have g4 : l4.length ≤ l5.length := by rw [e5, List.length_append]; omega
 have g3 : l3.length ≤ l4.length := by rw [e4, List.length_append]; omega
 have g2 : l2.length ≤ l3.length := by rw [e3, List.length_append]; omega
 have g1 : l1.length ≤ l2.length := by rw [e2, List.length_append]; omega
 have g0 : l.length ≤ l1.length := by rw [e1, List.length_append]; omega
 have h1 := name_w l bad sz R j p.id hR0 hf.1 (by omega)
 rw [← e1] at h1
 have h2 := name_w l1 bad sz R (j + 1) p.owner hR1 hf.2.1 (by omega)
 rw [← e2] at h2
 have h3 := cQu_w l2 bad sz R (j + 2) p.qu hR2 hR3 hR4 hR5 hR6 hR7 hR8 hR9 hR10 hf.2.2.1 (by rw [← e3]; omega)
 rw [← e3, ← d3] at h3
 have h4 := rowTs_w l3 b3 sz R (j + 11) 40 p.slots hR11 (by omega) hf.2.2.2.1.1 hf.2.2.2.1.2 (by rw [← e4]; omega)
 rw [← e4, ← d4] at h4
 have h5 := rowVo_w l4 b4 sz R (j + 12) 4096 p.votes hR12 (by omega) hf.2.2.2.2.1.1 hf.2.2.2.2.1.2 (by rw [← e5]; omega)
 rw [← e5, ← d5] at h5
 have h6 := minutes_w l5 b5 sz R (j + 13) p.til hR13 hf.2.2.2.2.2.1 (by omega)
 rw [← e6] at h6
 have h7 := numI_w l6 b5 sz R (j + 14) 4 p.state hR14 hf.2.2.2.2.2.2.1 (by omega) (by omega)
 rw [← e7, ← d7] at h7
 have h8 := numI_w l7 b7 sz R (j + 15) 40 p.winner hR15 hf.2.2.2.2.2.2.2 (by omega) (by omega)
 rw [← e8, ← d8] at h8
 clear e1 e2 e3 e4 e5 e6 e7 e8 d3 d4 d5 d7 d8 el eb
 refine wk [94, 126, 87, 131] [(127, [], [0, 1, 2, 3, 4]), (129, [], [0, 1, 2, 3, 4])] exYR5 ?_
 exact rtw [0, 1, 2, 3] exYR5
end Go.Proofs.YtapennlmboabeaaGreat

namespace Go.Proofs.YtapennlmboabeaaGreat
open Go Go.Vi
theorem rowGo_le {α : Type} {re : Rs → α × Rs} (h : ∀ s, (re s).2.l.length ≤ s.l.length) : ∀ (k : Nat) (s : Rs) (a : List α), (rowGo re k s a).2.l.length ≤ s.l.length
 | 0, s, a => Nat.le_refl _
 | k + 1, s, a => by
  unfold rowGo
  have h1 := h s
  split
  ·exact h1
  ·exact Nat.le_trans (rowGo_le h k _ _) h1
theorem rRow_le {α : Type} {re : Rs → α × Rs} (h : ∀ s, (re s).2.l.length ≤ s.l.length) (most : Nat) (hm : most < 18446744073709551616) (s : Rs) : (rRow re most s).2.l.length ≤ s.l.length :=
 Nat.le_trans (rowGo_le h _ _ _) (rqN_le most hm s).1
def setL (R : List D) (j : Nat) : List D → List D
 | [] => R
 | d :: ds => setL (R.set j d) (j + 1) ds
theorem setL_len : ∀ (ds : List D) (R : List D) (j : Nat), (setL R j ds).length = R.length
 | [], _, _ => rfl
 | d :: ds, R, j => by rw [setL, setL_len ds, List.length_set]
theorem setL_far : ∀ (ds : List D) (R : List D) (j x : Nat), j + ds.length ≤ x → (setL R j ds)[x]? = R[x]?
 | [], _, _, _, _ => rfl
 | d :: ds, R, j, x, h => by
  simp only [List.length_cons] at h
  rw [setL, setL_far ds _ _ x (by omega), List.getElem?_set_ne (by omega)]
def rZo (s : Rs) : (Int × List (Int × Int)) × Rs :=
 match rqS (-900) 900 s with
 | (v1, s1) =>
 match rRow rTu 700 s1 with
 | (v2, s2) =>
  ((v1, v2), s2)
theorem rZo_le (s : Rs) : (rZo s).2.l.length ≤ s.l.length := by
 unfold rZo
 have g1 := rqS_le (-900) 900 s
 generalize rqS (-900) 900 s = q1 at g1 ⊢
 obtain ⟨v1, s1⟩ := q1
 dsimp only at g1 ⊢
 have g2 := rRow_le rTu_le 700 (by omega) s1
 generalize rRow rTu 700 s1 = q2 at g2 ⊢
 obtain ⟨v2, s2⟩ := q2
 dsimp only at g2 ⊢
 omega
theorem exYR6 : type_of% (an @Wr.eq_1 (an @r8_len (an @row1_len (an @row2_len (an @row3_len @rowQ_len))))) := (an @Wr.eq_1 (an @r8_len (an @row1_len (an @row2_len (an @row3_len @rowQ_len)))))
set_option maxHeartbeats 4000000 in
theorem cZo_r (s : Rs) (sz : Nat) (R : List D) (j : Nat) (hN1 : R[j + 1]? = some (.list (some true) true [])) (hz : R.length = sz) (hj : j + 2 ≤ sz) (hl : s.l.length ≤ 1099511627776) :
  CallG Tryz.prog 149 [.ptr 0 0 0 1, .ptr 2 0 j 1] [Cr 1 s.cb, Rd s.l s.rb, Va sz R] (.tup [])
   [Cr 1 (rZo s).2.cb, Rd (rZo s).2.l (rZo s).2.rb, Va sz (setL R j [.int .i64 (rZo s).1.1, L (row2 .i64 .i64 (rZo s).1.2)])] := by
 refine callG Tryz.func149 low149 (by simp [c149]) ?_
 simp only [c149]
 unfold rZo
 have z0 := hz
 have k0 : ∀ x, j + 0 ≤ x → R[x]? = R[x]? := fun _ _ => rfl
 have g1 := rqS_le (-900) 900 s
 have h1 : CallG Tryz.prog 170 [.ptr 0 0 0 1, .ptr 2 0 j 1, .int .i64 (-900), .int .i64 900] [Cr 1 s.cb, Rd s.l s.rb, Va sz R] (.tup []) [Cr 1 (rqS (-900) 900 s).2.cb, Rd (rqS (-900) 900 s).2.l (rqS (-900) 900 s).2.rb, Va sz (R.set j (.int .i64 ((rqS (-900) 900 s).1 : Int)))] := sigI_r s.l s.rb s.cb sz R j (-900) 900 (by omega) (by omega) (by omega)
 generalize rqS (-900) 900 s = q1 at h1 g1 ⊢
 obtain ⟨v1, s1⟩ := q1
 dsimp only at h1 g1 ⊢
 obtain ⟨R1, e1⟩ : ∃ R1, R1 = R.set j (.int .i64 (v1 : Int)) := ⟨_, rfl⟩
 rw [← e1] at h1
 have z1 : R1.length = sz := by rw [e1, List.length_set]; exact z0
 have k1 : ∀ x, j + 1 ≤ x → R1[x]? = R[x]? := fun x hx => by rw [e1, List.getElem?_set_ne (by omega)] <;> exact k0 x (by omega)
 have g2 := rRow_le rTu_le 700 (by omega) s1
 have h2 : CallG Tryz.prog 171 [.ptr 0 0 0 1, .ptr 2 0 (j + 1) 1, .int .i64 700, .fn 172 [.ptr 3 0 0 1]] [Cr 1 s1.cb, Rd s1.l s1.rb, Va sz R1, Bx 0] (.tup []) [Cr 1 (rRow rTu 700 s1).2.cb, Rd (rRow rTu 700 s1).2.l (rRow rTu 700 s1).2.rb, Va sz (R1.set (j + 1) (L (row2 .i64 .i64 (rRow rTu 700 s1).1))), Bx 0] := rowTu_r s1 sz R1 (j + 1) 700 (by rw [k1 _ (by omega)]; exact hN1) (by omega) (by omega) (by omega)
 generalize rRow rTu 700 s1 = q2 at h2 g2 ⊢
 obtain ⟨v2, s2⟩ := q2
 dsimp only at h2 g2 ⊢
 obtain ⟨R2, e2⟩ : ∃ R2, R2 = R1.set (j + 1) (L (row2 .i64 .i64 v2)) := ⟨_, rfl⟩
 rw [← e2] at h2
 have z2 : R2.length = sz := by rw [e2, List.length_set]; exact z1
 have k2 : ∀ x, j + 2 ≤ x → R2[x]? = R[x]? := fun x hx => by rw [e2, List.getElem?_set_ne (by omega)] <;> exact k1 x (by omega)
 have eR : setL R j [.int .i64 (v1, v2).1, L (row2 .i64 .i64 (v1, v2).2)] = R2 := by rw [e2, e1] <;> rfl
 rw [eR]
 clear eR e1 e2 k0 k1 k2 z1 z2
 refine wk [170] [(171, [], [0, 1, 2, 3])] exYR6 ?_
 exact rtw [0, 1, 2] exYR6
def rHs (most : Nat) (s : Rs) : (List (Int × Int × Int)) × Rs :=
 match rRow rSh most s with
 | (v1, s1) =>
  (v1, s1)
theorem rHs_le (most : Nat) (hm : most < 1000000) (s : Rs) : (rHs most s).2.l.length ≤ s.l.length := by
 unfold rHs
 have g1 := rRow_le rSh_le most (by omega) s
 generalize rRow rSh most s = q1 at g1 ⊢
 obtain ⟨v1, s1⟩ := q1
 dsimp only at g1 ⊢
 omega
set_option maxHeartbeats 4000000 in
theorem cHs_r (s : Rs) (sz : Nat) (R : List D) (j : Nat) (most : Nat) (hN0 : R[j]? = some (.list (some true) true [])) (hz : R.length = sz) (hj : j + 1 ≤ sz) (hm : most < 1000000) (hl : s.l.length ≤ 1099511627776) :
  CallG Tryz.prog 150 [.ptr 0 0 0 1, .ptr 2 0 j 1, .int .i64 most] [Cr 1 s.cb, Rd s.l s.rb, Va sz R] (.tup [])
   [Cr 1 (rHs most s).2.cb, Rd (rHs most s).2.l (rHs most s).2.rb, Va sz (setL R j [L (row3 (rHs most s).1)])] := by
 refine callG Tryz.func150 low150 (by simp [c150]) ?_
 simp only [c150]
 unfold rHs
 have z0 := hz
 have k0 : ∀ x, j + 0 ≤ x → R[x]? = R[x]? := fun _ _ => rfl
 have g1 := rRow_le rSh_le most (by omega) s
 have h1 : CallG Tryz.prog 173 [.ptr 0 0 0 1, .ptr 2 0 j 1, .int .i64 most, .fn 174 [.ptr 3 0 0 1]] [Cr 1 s.cb, Rd s.l s.rb, Va sz R, Bx 0] (.tup []) [Cr 1 (rRow rSh most s).2.cb, Rd (rRow rSh most s).2.l (rRow rSh most s).2.rb, Va sz (R.set j (L (row3 (rRow rSh most s).1))), Bx 0] := rowSh_r s sz R j most (by rw [k0 _ (by omega)]; exact hN0) (by omega) (by omega) (by omega)
 generalize rRow rSh most s = q1 at h1 g1 ⊢
 obtain ⟨v1, s1⟩ := q1
 dsimp only at h1 g1 ⊢
 obtain ⟨R1, e1⟩ : ∃ R1, R1 = R.set j (L (row3 v1)) := ⟨_, rfl⟩
 rw [← e1] at h1
 have z1 : R1.length = sz := by rw [e1, List.length_set]; exact z0
 have k1 : ∀ x, j + 1 ≤ x → R1[x]? = R[x]? := fun x hx => by rw [e1, List.getElem?_set_ne (by omega)] <;> exact k0 x (by omega)
 have eR : setL R j [L (row3 v1)] = R1 := by rw [e1] <;> rfl
 rw [eR]
 clear eR e1 k0 k1 z1
 refine wk [] [(173, [], [0, 1, 2, 3])] exYR6 ?_
 exact rtw [0, 1, 2] exYR6
def rSe (s : Rs) : (Se) × Rs :=
 match rZo s with
 | (v1, s1) =>
 match rHs 10 s1 with
 | (v2, s2) =>
 match rRow rOf 60 s2 with
 | (v3, s3) =>
 match rqN 240 s3 with
 | (v4, s4) =>
 match rqN 240 s4 with
 | (v5, s5) =>
  (⟨v1.1, v1.2, v2, v3, v4, v5⟩, s5)
theorem rSe_le (s : Rs) : (rSe s).2.l.length ≤ s.l.length := by
 unfold rSe
 have g1 := rZo_le s
 generalize rZo s = q1 at g1 ⊢
 obtain ⟨v1, s1⟩ := q1
 dsimp only at g1 ⊢
 have g2 := rHs_le 10 (by omega) s1
 generalize rHs 10 s1 = q2 at g2 ⊢
 obtain ⟨v2, s2⟩ := q2
 dsimp only at g2 ⊢
 have g3 := rRow_le rOf_le 60 (by omega) s2
 generalize rRow rOf 60 s2 = q3 at g3 ⊢
 obtain ⟨v3, s3⟩ := q3
 dsimp only at g3 ⊢
 have g4 := (rqN_le 240 (by omega) s3).1
 generalize rqN 240 s3 = q4 at g4 ⊢
 obtain ⟨v4, s4⟩ := q4
 dsimp only at g4 ⊢
 have g5 := (rqN_le 240 (by omega) s4).1
 generalize rqN 240 s4 = q5 at g5 ⊢
 obtain ⟨v5, s5⟩ := q5
 dsimp only at g5 ⊢
 omega
set_option maxHeartbeats 4000000 in
theorem cSe_r (s : Rs) (sz : Nat) (R : List D) (j : Nat) (hN1 : R[j + 1]? = some (.list (some true) true [])) (hN2 : R[j + 2]? = some (.list (some true) true [])) (hN3 : R[j + 3]? = some (.list (some true) true [])) (hz : R.length = sz) (hj : j + 6 ≤ sz) (hl : s.l.length ≤ 1099511627776) :
  CallG Tryz.prog 122 [.ptr 0 0 0 1, .ptr 2 0 j 1] [Cr 1 s.cb, Rd s.l s.rb, Va sz R] (.tup [])
   [Cr 1 (rSe s).2.cb, Rd (rSe s).2.l (rSe s).2.rb, Va sz (setL R j [.int .i64 (rSe s).1.base, L (row2 .i64 .i64 (rSe s).1.turns), L (row3 (rSe s).1.shifts), L (row1 .i64 (rSe s).1.off), .int .i64 (rSe s).1.before, .int .i64 (rSe s).1.after])] := by
 refine callG Tryz.func122 low122 (by simp [c122]) ?_
 simp only [c122]
 unfold rSe
 have z0 := hz
 have k0 : ∀ x, j + 0 ≤ x → R[x]? = R[x]? := fun _ _ => rfl
 have g1 := rZo_le s
 have h1 : CallG Tryz.prog 149 [.ptr 0 0 0 1, .ptr 2 0 j 1] [Cr 1 s.cb, Rd s.l s.rb, Va sz R] (.tup []) [Cr 1 (rZo s).2.cb, Rd (rZo s).2.l (rZo s).2.rb, Va sz (setL R j [.int .i64 (rZo s).1.1, L (row2 .i64 .i64 (rZo s).1.2)])] := cZo_r s sz R j (by rw [k0 _ (by omega)]; exact hN1) (by omega) (by omega) (by omega)
 generalize rZo s = q1 at h1 g1 ⊢
 obtain ⟨v1, s1⟩ := q1
 dsimp only at h1 g1 ⊢
 obtain ⟨R1, e1⟩ : ∃ R1, R1 = setL R j [.int .i64 v1.1, L (row2 .i64 .i64 v1.2)] := ⟨_, rfl⟩
 rw [← e1] at h1
 have z1 : R1.length = sz := by rw [e1, setL_len]; exact z0
 have k1 : ∀ x, j + 2 ≤ x → R1[x]? = R[x]? := fun x hx => by rw [e1, setL_far _ _ _ _ (by simp only [List.length_cons, List.length_nil]; omega)] <;> exact k0 x (by omega)
 have g2 := rHs_le 10 (by omega) s1
 have h2 : CallG Tryz.prog 150 [.ptr 0 0 0 1, .ptr 2 0 (j + 2) 1, .int .i64 10] [Cr 1 s1.cb, Rd s1.l s1.rb, Va sz R1] (.tup []) [Cr 1 (rHs 10 s1).2.cb, Rd (rHs 10 s1).2.l (rHs 10 s1).2.rb, Va sz (setL R1 (j + 2) [L (row3 (rHs 10 s1).1)])] := cHs_r s1 sz R1 (j + 2) 10 (by rw [k1 _ (by omega)]; exact hN2) (by omega) (by omega) (by omega) (by omega)
 generalize rHs 10 s1 = q2 at h2 g2 ⊢
 obtain ⟨v2, s2⟩ := q2
 dsimp only at h2 g2 ⊢
 obtain ⟨R2, e2⟩ : ∃ R2, R2 = setL R1 (j + 2) [L (row3 v2)] := ⟨_, rfl⟩
 rw [← e2] at h2
 have z2 : R2.length = sz := by rw [e2, setL_len]; exact z1
 have k2 : ∀ x, j + 3 ≤ x → R2[x]? = R[x]? := fun x hx => by rw [e2, setL_far _ _ _ _ (by simp only [List.length_cons, List.length_nil]; omega)] <;> exact k1 x (by omega)
 have g3 := rRow_le rOf_le 60 (by omega) s2
 have h3 : CallG Tryz.prog 151 [.ptr 0 0 0 1, .ptr 2 0 (j + 3) 1, .int .i64 60, .fn 152 [.ptr 3 0 0 1]] [Cr 1 s2.cb, Rd s2.l s2.rb, Va sz R2, Bx 0] (.tup []) [Cr 1 (rRow rOf 60 s2).2.cb, Rd (rRow rOf 60 s2).2.l (rRow rOf 60 s2).2.rb, Va sz (R2.set (j + 3) (L (row1 .i64 (rRow rOf 60 s2).1))), Bx 0] := rowOf_r s2 sz R2 (j + 3) 60 (by rw [k2 _ (by omega)]; exact hN3) (by omega) (by omega) (by omega)
 generalize rRow rOf 60 s2 = q3 at h3 g3 ⊢
 obtain ⟨v3, s3⟩ := q3
 dsimp only at h3 g3 ⊢
 obtain ⟨R3, e3⟩ : ∃ R3, R3 = R2.set (j + 3) (L (row1 .i64 v3)) := ⟨_, rfl⟩
 rw [← e3] at h3
 have z3 : R3.length = sz := by rw [e3, List.length_set]; exact z2
 have k3 : ∀ x, j + 4 ≤ x → R3[x]? = R[x]? := fun x hx => by rw [e3, List.getElem?_set_ne (by omega)] <;> exact k2 x (by omega)
 have g4 := (rqN_le 240 (by omega) s3).1
 have h4 : CallG Tryz.prog 131 [.ptr 0 0 0 1, .ptr 2 0 (j + 4) 1, .int .u64 240] [Cr 1 s3.cb, Rd s3.l s3.rb, Va sz R3] (.tup []) [Cr 1 (rqN 240 s3).2.cb, Rd (rqN 240 s3).2.l (rqN 240 s3).2.rb, Va sz (R3.set (j + 4) (.int .i64 (((rqN 240 s3).1 : Nat) : Int)))] := numI_r s3.l s3.rb s3.cb sz R3 (j + 4) 240 (by omega) (by omega) (by omega) (by omega)
 generalize rqN 240 s3 = q4 at h4 g4 ⊢
 obtain ⟨v4, s4⟩ := q4
 dsimp only at h4 g4 ⊢
 obtain ⟨R4, e4⟩ : ∃ R4, R4 = R3.set (j + 4) (.int .i64 ((v4 : Nat) : Int)) := ⟨_, rfl⟩
 rw [← e4] at h4
 have z4 : R4.length = sz := by rw [e4, List.length_set]; exact z3
 have k4 : ∀ x, j + 5 ≤ x → R4[x]? = R[x]? := fun x hx => by rw [e4, List.getElem?_set_ne (by omega)] <;> exact k3 x (by omega)
 have g5 := (rqN_le 240 (by omega) s4).1
 have h5 : CallG Tryz.prog 131 [.ptr 0 0 0 1, .ptr 2 0 (j + 5) 1, .int .u64 240] [Cr 1 s4.cb, Rd s4.l s4.rb, Va sz R4] (.tup []) [Cr 1 (rqN 240 s4).2.cb, Rd (rqN 240 s4).2.l (rqN 240 s4).2.rb, Va sz (R4.set (j + 5) (.int .i64 (((rqN 240 s4).1 : Nat) : Int)))] := numI_r s4.l s4.rb s4.cb sz R4 (j + 5) 240 (by omega) (by omega) (by omega) (by omega)
 generalize rqN 240 s4 = q5 at h5 g5 ⊢
 obtain ⟨v5, s5⟩ := q5
 dsimp only at h5 g5 ⊢
 obtain ⟨R5, e5⟩ : ∃ R5, R5 = R4.set (j + 5) (.int .i64 ((v5 : Nat) : Int)) := ⟨_, rfl⟩
 rw [← e5] at h5
 have z5 : R5.length = sz := by rw [e5, List.length_set]; exact z4
 have k5 : ∀ x, j + 6 ≤ x → R5[x]? = R[x]? := fun x hx => by rw [e5, List.getElem?_set_ne (by omega)] <;> exact k4 x (by omega)
 have eR : setL R j [.int .i64 (⟨v1.1, v1.2, v2, v3, v4, v5⟩ : Se).base, L (row2 .i64 .i64 (⟨v1.1, v1.2, v2, v3, v4, v5⟩ : Se).turns), L (row3 (⟨v1.1, v1.2, v2, v3, v4, v5⟩ : Se).shifts), L (row1 .i64 (⟨v1.1, v1.2, v2, v3, v4, v5⟩ : Se).off), .int .i64 (⟨v1.1, v1.2, v2, v3, v4, v5⟩ : Se).before, .int .i64 (⟨v1.1, v1.2, v2, v3, v4, v5⟩ : Se).after] = R5 := by rw [e5, e4, e3, e2, e1] <;> rfl
 rw [eR]
 clear eR e1 e2 e3 e4 e5 k0 k1 k2 k3 k4 k5 z1 z2 z3 z4 z5
 refine wk [149, 150, 131] [(151, [], [0, 1, 2, 3])] exYR6 ?_
 exact rtw [0, 1, 2] exYR6
def rSs (s : Rs) : (List Int) × Rs :=
 match rRow rSm 400 s with
 | (v1, s1) =>
  (v1, s1)
theorem rSs_le (s : Rs) : (rSs s).2.l.length ≤ s.l.length := by
 unfold rSs
 have g1 := rRow_le rSm_le 400 (by omega) s
 generalize rRow rSm 400 s = q1 at g1 ⊢
 obtain ⟨v1, s1⟩ := q1
 dsimp only at g1 ⊢
 omega
set_option maxHeartbeats 4000000 in
theorem cSs_r (s : Rs) (sz : Nat) (R : List D) (j : Nat) (hN0 : R[j]? = some (.list (some true) true [])) (hz : R.length = sz) (hj : j + 1 ≤ sz) (hl : s.l.length ≤ 1099511627776) :
  CallG Tryz.prog 177 [.ptr 0 0 0 1, .ptr 2 0 j 1] [Cr 1 s.cb, Rd s.l s.rb, Va sz R] (.tup [])
   [Cr 1 (rSs s).2.cb, Rd (rSs s).2.l (rSs s).2.rb, Va sz (setL R j [L (row1 .i64 (rSs s).1)])] := by
 refine callG Tryz.func177 low177 (by simp [c177]) ?_
 simp only [c177]
 unfold rSs
 have z0 := hz
 have k0 : ∀ x, j + 0 ≤ x → R[x]? = R[x]? := fun _ _ => rfl
 have g1 := rRow_le rSm_le 400 (by omega) s
 have h1 : CallG Tryz.prog 151 [.ptr 0 0 0 1, .ptr 2 0 j 1, .int .i64 400, .fn 180 [.ptr 3 0 0 1]] [Cr 1 s.cb, Rd s.l s.rb, Va sz R, Bx 0] (.tup []) [Cr 1 (rRow rSm 400 s).2.cb, Rd (rRow rSm 400 s).2.l (rRow rSm 400 s).2.rb, Va sz (R.set j (L (row1 .i64 (rRow rSm 400 s).1))), Bx 0] := rowSm_r s sz R j 400 (by rw [k0 _ (by omega)]; exact hN0) (by omega) (by omega) (by omega)
 generalize rRow rSm 400 s = q1 at h1 g1 ⊢
 obtain ⟨v1, s1⟩ := q1
 dsimp only at h1 g1 ⊢
 obtain ⟨R1, e1⟩ : ∃ R1, R1 = R.set j (L (row1 .i64 v1)) := ⟨_, rfl⟩
 rw [← e1] at h1
 have z1 : R1.length = sz := by rw [e1, List.length_set]; exact z0
 have k1 : ∀ x, j + 1 ≤ x → R1[x]? = R[x]? := fun x hx => by rw [e1, List.getElem?_set_ne (by omega)] <;> exact k0 x (by omega)
 have eR : setL R j [L (row1 .i64 v1)] = R1 := by rw [e1] <;> rfl
 rw [eR]
 clear eR e1 k0 k1 z1
 refine wk [] [(151, [], [0, 1, 2, 3])] exYR6 ?_
 exact rtw [0, 1, 2] exYR6
def rRu (s : Rs) : (Ru) × Rs :=
 match rqN 4 s with
 | (v1, s1) =>
 match rqN 999 s1 with
 | (v2, s2) =>
 match rqN 5000 s2 with
 | (v3, s3) =>
 match rqM s3 with
 | (v4, s4) =>
 match rSs s4 with
 | (v5, s5) =>
 match rSs s5 with
 | (v6, s6) =>
 match rRow rDa 400 s6 with
 | (v7, s7) =>
 match rSs s7 with
 | (v8, s8) =>
 match rqN 6 s8 with
 | (v9, s9) =>
  (⟨v1, v2, v3, v4, v5, v6, v7, v8, v9⟩, s9)
theorem rRu_le (s : Rs) : (rRu s).2.l.length ≤ s.l.length := by
 unfold rRu
 have g1 := (rqN_le 4 (by omega) s).1
 generalize rqN 4 s = q1 at g1 ⊢
 obtain ⟨v1, s1⟩ := q1
 dsimp only at g1 ⊢
 have g2 := (rqN_le 999 (by omega) s1).1
 generalize rqN 999 s1 = q2 at g2 ⊢
 obtain ⟨v2, s2⟩ := q2
 dsimp only at g2 ⊢
 have g3 := (rqN_le 5000 (by omega) s2).1
 generalize rqN 5000 s2 = q3 at g3 ⊢
 obtain ⟨v3, s3⟩ := q3
 dsimp only at g3 ⊢
 have g4 := rqM_le s3
 generalize rqM s3 = q4 at g4 ⊢
 obtain ⟨v4, s4⟩ := q4
 dsimp only at g4 ⊢
 have g5 := rSs_le s4
 generalize rSs s4 = q5 at g5 ⊢
 obtain ⟨v5, s5⟩ := q5
 dsimp only at g5 ⊢
 have g6 := rSs_le s5
 generalize rSs s5 = q6 at g6 ⊢
 obtain ⟨v6, s6⟩ := q6
 dsimp only at g6 ⊢
 have g7 := rRow_le rDa_le 400 (by omega) s6
 generalize rRow rDa 400 s6 = q7 at g7 ⊢
 obtain ⟨v7, s7⟩ := q7
 dsimp only at g7 ⊢
 have g8 := rSs_le s7
 generalize rSs s7 = q8 at g8 ⊢
 obtain ⟨v8, s8⟩ := q8
 dsimp only at g8 ⊢
 have g9 := (rqN_le 6 (by omega) s8).1
 generalize rqN 6 s8 = q9 at g9 ⊢
 obtain ⟨v9, s9⟩ := q9
 dsimp only at g9 ⊢
 omega
set_option maxHeartbeats 4000000 in
theorem cRu_r (s : Rs) (sz : Nat) (R : List D) (j : Nat) (hN4 : R[j + 4]? = some (.list (some true) true [])) (hN5 : R[j + 5]? = some (.list (some true) true [])) (hN6 : R[j + 6]? = some (.list (some true) true [])) (hN7 : R[j + 7]? = some (.list (some true) true [])) (hz : R.length = sz) (hj : j + 9 ≤ sz) (hl : s.l.length ≤ 1099511627776) :
  CallG Tryz.prog 154 [.ptr 0 0 0 1, .ptr 2 0 j 1] [Cr 1 s.cb, Rd s.l s.rb, Va sz R] (.tup [])
   [Cr 1 (rRu s).2.cb, Rd (rRu s).2.l (rRu s).2.rb, Va sz (setL R j [.int .i64 (rRu s).1.freq, .int .i64 (rRu s).1.interval, .int .i64 (rRu s).1.count, .int .i64 (rRu s).1.til, L (row1 .i64 (rRu s).1.bm), L (row1 .i64 (rRu s).1.bmd), L (row2 .i64 .i64 (rRu s).1.bd), L (row1 .i64 (rRu s).1.bsp), .int .i64 (rRu s).1.start])] := by
 refine callG Tryz.func154 low154 (by simp [c154]) ?_
 simp only [c154]
 unfold rRu
 have z0 := hz
 have k0 : ∀ x, j + 0 ≤ x → R[x]? = R[x]? := fun _ _ => rfl
 have g1 := (rqN_le 4 (by omega) s).1
 have h1 : CallG Tryz.prog 131 [.ptr 0 0 0 1, .ptr 2 0 j 1, .int .u64 4] [Cr 1 s.cb, Rd s.l s.rb, Va sz R] (.tup []) [Cr 1 (rqN 4 s).2.cb, Rd (rqN 4 s).2.l (rqN 4 s).2.rb, Va sz (R.set j (.int .i64 (((rqN 4 s).1 : Nat) : Int)))] := numI_r s.l s.rb s.cb sz R j 4 (by omega) (by omega) (by omega) (by omega)
 generalize rqN 4 s = q1 at h1 g1 ⊢
 obtain ⟨v1, s1⟩ := q1
 dsimp only at h1 g1 ⊢
 obtain ⟨R1, e1⟩ : ∃ R1, R1 = R.set j (.int .i64 ((v1 : Nat) : Int)) := ⟨_, rfl⟩
 rw [← e1] at h1
 have z1 : R1.length = sz := by rw [e1, List.length_set]; exact z0
 have k1 : ∀ x, j + 1 ≤ x → R1[x]? = R[x]? := fun x hx => by rw [e1, List.getElem?_set_ne (by omega)] <;> exact k0 x (by omega)
 have g2 := (rqN_le 999 (by omega) s1).1
 have h2 : CallG Tryz.prog 131 [.ptr 0 0 0 1, .ptr 2 0 (j + 1) 1, .int .u64 999] [Cr 1 s1.cb, Rd s1.l s1.rb, Va sz R1] (.tup []) [Cr 1 (rqN 999 s1).2.cb, Rd (rqN 999 s1).2.l (rqN 999 s1).2.rb, Va sz (R1.set (j + 1) (.int .i64 (((rqN 999 s1).1 : Nat) : Int)))] := numI_r s1.l s1.rb s1.cb sz R1 (j + 1) 999 (by omega) (by omega) (by omega) (by omega)
 generalize rqN 999 s1 = q2 at h2 g2 ⊢
 obtain ⟨v2, s2⟩ := q2
 dsimp only at h2 g2 ⊢
 obtain ⟨R2, e2⟩ : ∃ R2, R2 = R1.set (j + 1) (.int .i64 ((v2 : Nat) : Int)) := ⟨_, rfl⟩
 rw [← e2] at h2
 have z2 : R2.length = sz := by rw [e2, List.length_set]; exact z1
 have k2 : ∀ x, j + 2 ≤ x → R2[x]? = R[x]? := fun x hx => by rw [e2, List.getElem?_set_ne (by omega)] <;> exact k1 x (by omega)
 have g3 := (rqN_le 5000 (by omega) s2).1
 have h3 : CallG Tryz.prog 131 [.ptr 0 0 0 1, .ptr 2 0 (j + 2) 1, .int .u64 5000] [Cr 1 s2.cb, Rd s2.l s2.rb, Va sz R2] (.tup []) [Cr 1 (rqN 5000 s2).2.cb, Rd (rqN 5000 s2).2.l (rqN 5000 s2).2.rb, Va sz (R2.set (j + 2) (.int .i64 (((rqN 5000 s2).1 : Nat) : Int)))] := numI_r s2.l s2.rb s2.cb sz R2 (j + 2) 5000 (by omega) (by omega) (by omega) (by omega)
 generalize rqN 5000 s2 = q3 at h3 g3 ⊢
 obtain ⟨v3, s3⟩ := q3
 dsimp only at h3 g3 ⊢
 obtain ⟨R3, e3⟩ : ∃ R3, R3 = R2.set (j + 2) (.int .i64 ((v3 : Nat) : Int)) := ⟨_, rfl⟩
 rw [← e3] at h3
 have z3 : R3.length = sz := by rw [e3, List.length_set]; exact z2
 have k3 : ∀ x, j + 3 ≤ x → R3[x]? = R[x]? := fun x hx => by rw [e3, List.getElem?_set_ne (by omega)] <;> exact k2 x (by omega)
 have g4 := rqM_le s3
 have h4 : CallG Tryz.prog 87 [.ptr 0 0 0 1, .ptr 2 0 (j + 3) 1] [Cr 1 s3.cb, Rd s3.l s3.rb, Va sz R3] (.tup []) [Cr 1 (rqM s3).2.cb, Rd (rqM s3).2.l (rqM s3).2.rb, Va sz (R3.set (j + 3) (.int .i64 ((rqM s3).1 : Int)))] := minutes_r s3.l s3.rb s3.cb sz R3 (j + 3) (by omega) (by omega) (by omega)
 generalize rqM s3 = q4 at h4 g4 ⊢
 obtain ⟨v4, s4⟩ := q4
 dsimp only at h4 g4 ⊢
 obtain ⟨R4, e4⟩ : ∃ R4, R4 = R3.set (j + 3) (.int .i64 (v4 : Int)) := ⟨_, rfl⟩
 rw [← e4] at h4
 have z4 : R4.length = sz := by rw [e4, List.length_set]; exact z3
 have k4 : ∀ x, j + 4 ≤ x → R4[x]? = R[x]? := fun x hx => by rw [e4, List.getElem?_set_ne (by omega)] <;> exact k3 x (by omega)
 have g5 := rSs_le s4
 have h5 : CallG Tryz.prog 177 [.ptr 0 0 0 1, .ptr 2 0 (j + 4) 1] [Cr 1 s4.cb, Rd s4.l s4.rb, Va sz R4] (.tup []) [Cr 1 (rSs s4).2.cb, Rd (rSs s4).2.l (rSs s4).2.rb, Va sz (setL R4 (j + 4) [L (row1 .i64 (rSs s4).1)])] := cSs_r s4 sz R4 (j + 4) (by rw [k4 _ (by omega)]; exact hN4) (by omega) (by omega) (by omega)
 generalize rSs s4 = q5 at h5 g5 ⊢
 obtain ⟨v5, s5⟩ := q5
 dsimp only at h5 g5 ⊢
 obtain ⟨R5, e5⟩ : ∃ R5, R5 = setL R4 (j + 4) [L (row1 .i64 v5)] := ⟨_, rfl⟩
 rw [← e5] at h5
 have z5 : R5.length = sz := by rw [e5, setL_len]; exact z4
 have k5 : ∀ x, j + 5 ≤ x → R5[x]? = R[x]? := fun x hx => by rw [e5, setL_far _ _ _ _ (by simp only [List.length_cons, List.length_nil]; omega)] <;> exact k4 x (by omega)
 have g6 := rSs_le s5
 have h6 : CallG Tryz.prog 177 [.ptr 0 0 0 1, .ptr 2 0 (j + 5) 1] [Cr 1 s5.cb, Rd s5.l s5.rb, Va sz R5] (.tup []) [Cr 1 (rSs s5).2.cb, Rd (rSs s5).2.l (rSs s5).2.rb, Va sz (setL R5 (j + 5) [L (row1 .i64 (rSs s5).1)])] := cSs_r s5 sz R5 (j + 5) (by rw [k5 _ (by omega)]; exact hN5) (by omega) (by omega) (by omega)
 generalize rSs s5 = q6 at h6 g6 ⊢
 obtain ⟨v6, s6⟩ := q6
 dsimp only at h6 g6 ⊢
 obtain ⟨R6, e6⟩ : ∃ R6, R6 = setL R5 (j + 5) [L (row1 .i64 v6)] := ⟨_, rfl⟩
 rw [← e6] at h6
 have z6 : R6.length = sz := by rw [e6, setL_len]; exact z5
 have k6 : ∀ x, j + 6 ≤ x → R6[x]? = R[x]? := fun x hx => by rw [e6, setL_far _ _ _ _ (by simp only [List.length_cons, List.length_nil]; omega)] <;> exact k5 x (by omega)
 have g7 := rRow_le rDa_le 400 (by omega) s6
 have h7 : CallG Tryz.prog 178 [.ptr 0 0 0 1, .ptr 2 0 (j + 6) 1, .int .i64 400, .fn 179 [.ptr 3 0 0 1]] [Cr 1 s6.cb, Rd s6.l s6.rb, Va sz R6, Bx 0] (.tup []) [Cr 1 (rRow rDa 400 s6).2.cb, Rd (rRow rDa 400 s6).2.l (rRow rDa 400 s6).2.rb, Va sz (R6.set (j + 6) (L (row2 .i64 .i64 (rRow rDa 400 s6).1))), Bx 0] := rowDa_r s6 sz R6 (j + 6) 400 (by rw [k6 _ (by omega)]; exact hN6) (by omega) (by omega) (by omega)
 generalize rRow rDa 400 s6 = q7 at h7 g7 ⊢
 obtain ⟨v7, s7⟩ := q7
 dsimp only at h7 g7 ⊢
 obtain ⟨R7, e7⟩ : ∃ R7, R7 = R6.set (j + 6) (L (row2 .i64 .i64 v7)) := ⟨_, rfl⟩
 rw [← e7] at h7
 have z7 : R7.length = sz := by rw [e7, List.length_set]; exact z6
 have k7 : ∀ x, j + 7 ≤ x → R7[x]? = R[x]? := fun x hx => by rw [e7, List.getElem?_set_ne (by omega)] <;> exact k6 x (by omega)
 have g8 := rSs_le s7
 have h8 : CallG Tryz.prog 177 [.ptr 0 0 0 1, .ptr 2 0 (j + 7) 1] [Cr 1 s7.cb, Rd s7.l s7.rb, Va sz R7] (.tup []) [Cr 1 (rSs s7).2.cb, Rd (rSs s7).2.l (rSs s7).2.rb, Va sz (setL R7 (j + 7) [L (row1 .i64 (rSs s7).1)])] := cSs_r s7 sz R7 (j + 7) (by rw [k7 _ (by omega)]; exact hN7) (by omega) (by omega) (by omega)
 generalize rSs s7 = q8 at h8 g8 ⊢
 obtain ⟨v8, s8⟩ := q8
 dsimp only at h8 g8 ⊢
 obtain ⟨R8, e8⟩ : ∃ R8, R8 = setL R7 (j + 7) [L (row1 .i64 v8)] := ⟨_, rfl⟩
 rw [← e8] at h8
 have z8 : R8.length = sz := by rw [e8, setL_len]; exact z7
 have k8 : ∀ x, j + 8 ≤ x → R8[x]? = R[x]? := fun x hx => by rw [e8, setL_far _ _ _ _ (by simp only [List.length_cons, List.length_nil]; omega)] <;> exact k7 x (by omega)
 have g9 := (rqN_le 6 (by omega) s8).1
 have h9 : CallG Tryz.prog 131 [.ptr 0 0 0 1, .ptr 2 0 (j + 8) 1, .int .u64 6] [Cr 1 s8.cb, Rd s8.l s8.rb, Va sz R8] (.tup []) [Cr 1 (rqN 6 s8).2.cb, Rd (rqN 6 s8).2.l (rqN 6 s8).2.rb, Va sz (R8.set (j + 8) (.int .i64 (((rqN 6 s8).1 : Nat) : Int)))] := numI_r s8.l s8.rb s8.cb sz R8 (j + 8) 6 (by omega) (by omega) (by omega) (by omega)
 generalize rqN 6 s8 = q9 at h9 g9 ⊢
 obtain ⟨v9, s9⟩ := q9
 dsimp only at h9 g9 ⊢
 obtain ⟨R9, e9⟩ : ∃ R9, R9 = R8.set (j + 8) (.int .i64 ((v9 : Nat) : Int)) := ⟨_, rfl⟩
 rw [← e9] at h9
 have z9 : R9.length = sz := by rw [e9, List.length_set]; exact z8
 have k9 : ∀ x, j + 9 ≤ x → R9[x]? = R[x]? := fun x hx => by rw [e9, List.getElem?_set_ne (by omega)] <;> exact k8 x (by omega)
 have eR : setL R j [.int .i64 (⟨v1, v2, v3, v4, v5, v6, v7, v8, v9⟩ : Ru).freq, .int .i64 (⟨v1, v2, v3, v4, v5, v6, v7, v8, v9⟩ : Ru).interval, .int .i64 (⟨v1, v2, v3, v4, v5, v6, v7, v8, v9⟩ : Ru).count, .int .i64 (⟨v1, v2, v3, v4, v5, v6, v7, v8, v9⟩ : Ru).til, L (row1 .i64 (⟨v1, v2, v3, v4, v5, v6, v7, v8, v9⟩ : Ru).bm), L (row1 .i64 (⟨v1, v2, v3, v4, v5, v6, v7, v8, v9⟩ : Ru).bmd), L (row2 .i64 .i64 (⟨v1, v2, v3, v4, v5, v6, v7, v8, v9⟩ : Ru).bd), L (row1 .i64 (⟨v1, v2, v3, v4, v5, v6, v7, v8, v9⟩ : Ru).bsp), .int .i64 (⟨v1, v2, v3, v4, v5, v6, v7, v8, v9⟩ : Ru).start] = R9 := by rw [e9, e8, e7, e6, e5, e4, e3, e2, e1] <;> rfl
 rw [eR]
 clear eR e1 e2 e3 e4 e5 e6 e7 e8 e9 k0 k1 k2 k3 k4 k5 k6 k7 k8 k9 z1 z2 z3 z4 z5 z6 z7 z8 z9
 refine wk [131, 87, 177] [(178, [], [0, 1, 2, 3])] exYR6 ?_
 exact rtw [0, 1, 2] exYR6
def rQu (s : Rs) : (Qu) × Rs :=
 match rqM s with
 | (v1, s1) =>
 match rqM s1 with
 | (v2, s2) =>
 match rqN 10080 s2 with
 | (v3, s3) =>
 match rqN 1440 s3 with
 | (v4, s4) =>
 match rRow rMu 64 s4 with
 | (v5, s5) =>
 match rRow rWa 16 s5 with
 | (v6, s6) =>
 match rqN 100 s6 with
 | (v7, s7) =>
 match rRow rPa 32 s7 with
 | (v8, s8) =>
 match rHs 8 s8 with
 | (v9, s9) =>
  (⟨v1, v2, v3, v4, v5, v6, v7, v8, v9⟩, s9)
theorem rQu_le (s : Rs) : (rQu s).2.l.length ≤ s.l.length := by
 unfold rQu
 have g1 := rqM_le s
 generalize rqM s = q1 at g1 ⊢
 obtain ⟨v1, s1⟩ := q1
 dsimp only at g1 ⊢
 have g2 := rqM_le s1
 generalize rqM s1 = q2 at g2 ⊢
 obtain ⟨v2, s2⟩ := q2
 dsimp only at g2 ⊢
 have g3 := (rqN_le 10080 (by omega) s2).1
 generalize rqN 10080 s2 = q3 at g3 ⊢
 obtain ⟨v3, s3⟩ := q3
 dsimp only at g3 ⊢
 have g4 := (rqN_le 1440 (by omega) s3).1
 generalize rqN 1440 s3 = q4 at g4 ⊢
 obtain ⟨v4, s4⟩ := q4
 dsimp only at g4 ⊢
 have g5 := rRow_le rMu_le 64 (by omega) s4
 generalize rRow rMu 64 s4 = q5 at g5 ⊢
 obtain ⟨v5, s5⟩ := q5
 dsimp only at g5 ⊢
 have g6 := rRow_le rWa_le 16 (by omega) s5
 generalize rRow rWa 16 s5 = q6 at g6 ⊢
 obtain ⟨v6, s6⟩ := q6
 dsimp only at g6 ⊢
 have g7 := (rqN_le 100 (by omega) s6).1
 generalize rqN 100 s6 = q7 at g7 ⊢
 obtain ⟨v7, s7⟩ := q7
 dsimp only at g7 ⊢
 have g8 := rRow_le rPa_le 32 (by omega) s7
 generalize rRow rPa 32 s7 = q8 at g8 ⊢
 obtain ⟨v8, s8⟩ := q8
 dsimp only at g8 ⊢
 have g9 := rHs_le 8 (by omega) s8
 generalize rHs 8 s8 = q9 at g9 ⊢
 obtain ⟨v9, s9⟩ := q9
 dsimp only at g9 ⊢
 omega
set_option maxHeartbeats 4000000 in
theorem cQu_r (s : Rs) (sz : Nat) (R : List D) (j : Nat) (hN4 : R[j + 4]? = some (.list (some true) true [])) (hN5 : R[j + 5]? = some (.list (some true) true [])) (hN7 : R[j + 7]? = some (.list (some true) true [])) (hN8 : R[j + 8]? = some (.list (some true) true [])) (hz : R.length = sz) (hj : j + 9 ≤ sz) (hl : s.l.length ≤ 1099511627776) :
  CallG Tryz.prog 126 [.ptr 0 0 0 1, .ptr 2 0 j 1] [Cr 1 s.cb, Rd s.l s.rb, Va sz R] (.tup [])
   [Cr 1 (rQu s).2.cb, Rd (rQu s).2.l (rQu s).2.rb, Va sz (setL R j [.int .i64 (rQu s).1.a, .int .i64 (rQu s).1.b, .int .i64 (rQu s).1.long, .int .i64 (rQu s).1.grid, L (row1 .u32 (rQu s).1.must), L (row2 .u32 .i64 (rQu s).1.may), .int .i64 (rQu s).1.seats, L (row2 .u32 .u32 (rQu s).1.apart), L (row3 (rQu s).1.prefer)])] := by
 refine callG Tryz.func126 low126 (by simp [c126]) ?_
 simp only [c126]
 unfold rQu
 have z0 := hz
 have k0 : ∀ x, j + 0 ≤ x → R[x]? = R[x]? := fun _ _ => rfl
 have g1 := rqM_le s
 have h1 : CallG Tryz.prog 87 [.ptr 0 0 0 1, .ptr 2 0 j 1] [Cr 1 s.cb, Rd s.l s.rb, Va sz R] (.tup []) [Cr 1 (rqM s).2.cb, Rd (rqM s).2.l (rqM s).2.rb, Va sz (R.set j (.int .i64 ((rqM s).1 : Int)))] := minutes_r s.l s.rb s.cb sz R j (by omega) (by omega) (by omega)
 generalize rqM s = q1 at h1 g1 ⊢
 obtain ⟨v1, s1⟩ := q1
 dsimp only at h1 g1 ⊢
 obtain ⟨R1, e1⟩ : ∃ R1, R1 = R.set j (.int .i64 (v1 : Int)) := ⟨_, rfl⟩
 rw [← e1] at h1
 have z1 : R1.length = sz := by rw [e1, List.length_set]; exact z0
 have k1 : ∀ x, j + 1 ≤ x → R1[x]? = R[x]? := fun x hx => by rw [e1, List.getElem?_set_ne (by omega)] <;> exact k0 x (by omega)
 have g2 := rqM_le s1
 have h2 : CallG Tryz.prog 87 [.ptr 0 0 0 1, .ptr 2 0 (j + 1) 1] [Cr 1 s1.cb, Rd s1.l s1.rb, Va sz R1] (.tup []) [Cr 1 (rqM s1).2.cb, Rd (rqM s1).2.l (rqM s1).2.rb, Va sz (R1.set (j + 1) (.int .i64 ((rqM s1).1 : Int)))] := minutes_r s1.l s1.rb s1.cb sz R1 (j + 1) (by omega) (by omega) (by omega)
 generalize rqM s1 = q2 at h2 g2 ⊢
 obtain ⟨v2, s2⟩ := q2
 dsimp only at h2 g2 ⊢
 obtain ⟨R2, e2⟩ : ∃ R2, R2 = R1.set (j + 1) (.int .i64 (v2 : Int)) := ⟨_, rfl⟩
 rw [← e2] at h2
 have z2 : R2.length = sz := by rw [e2, List.length_set]; exact z1
 have k2 : ∀ x, j + 2 ≤ x → R2[x]? = R[x]? := fun x hx => by rw [e2, List.getElem?_set_ne (by omega)] <;> exact k1 x (by omega)
 have g3 := (rqN_le 10080 (by omega) s2).1
 have h3 : CallG Tryz.prog 131 [.ptr 0 0 0 1, .ptr 2 0 (j + 2) 1, .int .u64 10080] [Cr 1 s2.cb, Rd s2.l s2.rb, Va sz R2] (.tup []) [Cr 1 (rqN 10080 s2).2.cb, Rd (rqN 10080 s2).2.l (rqN 10080 s2).2.rb, Va sz (R2.set (j + 2) (.int .i64 (((rqN 10080 s2).1 : Nat) : Int)))] := numI_r s2.l s2.rb s2.cb sz R2 (j + 2) 10080 (by omega) (by omega) (by omega) (by omega)
 generalize rqN 10080 s2 = q3 at h3 g3 ⊢
 obtain ⟨v3, s3⟩ := q3
 dsimp only at h3 g3 ⊢
 obtain ⟨R3, e3⟩ : ∃ R3, R3 = R2.set (j + 2) (.int .i64 ((v3 : Nat) : Int)) := ⟨_, rfl⟩
 rw [← e3] at h3
 have z3 : R3.length = sz := by rw [e3, List.length_set]; exact z2
 have k3 : ∀ x, j + 3 ≤ x → R3[x]? = R[x]? := fun x hx => by rw [e3, List.getElem?_set_ne (by omega)] <;> exact k2 x (by omega)
 have g4 := (rqN_le 1440 (by omega) s3).1
 have h4 : CallG Tryz.prog 131 [.ptr 0 0 0 1, .ptr 2 0 (j + 3) 1, .int .u64 1440] [Cr 1 s3.cb, Rd s3.l s3.rb, Va sz R3] (.tup []) [Cr 1 (rqN 1440 s3).2.cb, Rd (rqN 1440 s3).2.l (rqN 1440 s3).2.rb, Va sz (R3.set (j + 3) (.int .i64 (((rqN 1440 s3).1 : Nat) : Int)))] := numI_r s3.l s3.rb s3.cb sz R3 (j + 3) 1440 (by omega) (by omega) (by omega) (by omega)
 generalize rqN 1440 s3 = q4 at h4 g4 ⊢
 obtain ⟨v4, s4⟩ := q4
 dsimp only at h4 g4 ⊢
 obtain ⟨R4, e4⟩ : ∃ R4, R4 = R3.set (j + 3) (.int .i64 ((v4 : Nat) : Int)) := ⟨_, rfl⟩
 rw [← e4] at h4
 have z4 : R4.length = sz := by rw [e4, List.length_set]; exact z3
 have k4 : ∀ x, j + 4 ≤ x → R4[x]? = R[x]? := fun x hx => by rw [e4, List.getElem?_set_ne (by omega)] <;> exact k3 x (by omega)
 have g5 := rRow_le rMu_le 64 (by omega) s4
 have h5 : CallG Tryz.prog 159 [.ptr 0 0 0 1, .ptr 2 0 (j + 4) 1, .int .i64 64, .fn 160 [.ptr 3 0 0 1]] [Cr 1 s4.cb, Rd s4.l s4.rb, Va sz R4, Bx 0] (.tup []) [Cr 1 (rRow rMu 64 s4).2.cb, Rd (rRow rMu 64 s4).2.l (rRow rMu 64 s4).2.rb, Va sz (R4.set (j + 4) (L (row1 .u32 (rRow rMu 64 s4).1))), Bx 0] := rowMu_r s4 sz R4 (j + 4) 64 (by rw [k4 _ (by omega)]; exact hN4) (by omega) (by omega) (by omega)
 generalize rRow rMu 64 s4 = q5 at h5 g5 ⊢
 obtain ⟨v5, s5⟩ := q5
 dsimp only at h5 g5 ⊢
 obtain ⟨R5, e5⟩ : ∃ R5, R5 = R4.set (j + 4) (L (row1 .u32 v5)) := ⟨_, rfl⟩
 rw [← e5] at h5
 have z5 : R5.length = sz := by rw [e5, List.length_set]; exact z4
 have k5 : ∀ x, j + 5 ≤ x → R5[x]? = R[x]? := fun x hx => by rw [e5, List.getElem?_set_ne (by omega)] <;> exact k4 x (by omega)
 have g6 := rRow_le rWa_le 16 (by omega) s5
 have h6 : CallG Tryz.prog 161 [.ptr 0 0 0 1, .ptr 2 0 (j + 5) 1, .int .i64 16, .fn 162 [.ptr 3 0 0 1]] [Cr 1 s5.cb, Rd s5.l s5.rb, Va sz R5, Bx 0] (.tup []) [Cr 1 (rRow rWa 16 s5).2.cb, Rd (rRow rWa 16 s5).2.l (rRow rWa 16 s5).2.rb, Va sz (R5.set (j + 5) (L (row2 .u32 .i64 (rRow rWa 16 s5).1))), Bx 0] := rowWa_r s5 sz R5 (j + 5) 16 (by rw [k5 _ (by omega)]; exact hN5) (by omega) (by omega) (by omega)
 generalize rRow rWa 16 s5 = q6 at h6 g6 ⊢
 obtain ⟨v6, s6⟩ := q6
 dsimp only at h6 g6 ⊢
 obtain ⟨R6, e6⟩ : ∃ R6, R6 = R5.set (j + 5) (L (row2 .u32 .i64 v6)) := ⟨_, rfl⟩
 rw [← e6] at h6
 have z6 : R6.length = sz := by rw [e6, List.length_set]; exact z5
 have k6 : ∀ x, j + 6 ≤ x → R6[x]? = R[x]? := fun x hx => by rw [e6, List.getElem?_set_ne (by omega)] <;> exact k5 x (by omega)
 have g7 := (rqN_le 100 (by omega) s6).1
 have h7 : CallG Tryz.prog 131 [.ptr 0 0 0 1, .ptr 2 0 (j + 6) 1, .int .u64 100] [Cr 1 s6.cb, Rd s6.l s6.rb, Va sz R6] (.tup []) [Cr 1 (rqN 100 s6).2.cb, Rd (rqN 100 s6).2.l (rqN 100 s6).2.rb, Va sz (R6.set (j + 6) (.int .i64 (((rqN 100 s6).1 : Nat) : Int)))] := numI_r s6.l s6.rb s6.cb sz R6 (j + 6) 100 (by omega) (by omega) (by omega) (by omega)
 generalize rqN 100 s6 = q7 at h7 g7 ⊢
 obtain ⟨v7, s7⟩ := q7
 dsimp only at h7 g7 ⊢
 obtain ⟨R7, e7⟩ : ∃ R7, R7 = R6.set (j + 6) (.int .i64 ((v7 : Nat) : Int)) := ⟨_, rfl⟩
 rw [← e7] at h7
 have z7 : R7.length = sz := by rw [e7, List.length_set]; exact z6
 have k7 : ∀ x, j + 7 ≤ x → R7[x]? = R[x]? := fun x hx => by rw [e7, List.getElem?_set_ne (by omega)] <;> exact k6 x (by omega)
 have g8 := rRow_le rPa_le 32 (by omega) s7
 have h8 : CallG Tryz.prog 163 [.ptr 0 0 0 1, .ptr 2 0 (j + 7) 1, .int .i64 32, .fn 164 [.ptr 3 0 0 1]] [Cr 1 s7.cb, Rd s7.l s7.rb, Va sz R7, Bx 0] (.tup []) [Cr 1 (rRow rPa 32 s7).2.cb, Rd (rRow rPa 32 s7).2.l (rRow rPa 32 s7).2.rb, Va sz (R7.set (j + 7) (L (row2 .u32 .u32 (rRow rPa 32 s7).1))), Bx 0] := rowPa_r s7 sz R7 (j + 7) 32 (by rw [k7 _ (by omega)]; exact hN7) (by omega) (by omega) (by omega)
 generalize rRow rPa 32 s7 = q8 at h8 g8 ⊢
 obtain ⟨v8, s8⟩ := q8
 dsimp only at h8 g8 ⊢
 obtain ⟨R8, e8⟩ : ∃ R8, R8 = R7.set (j + 7) (L (row2 .u32 .u32 v8)) := ⟨_, rfl⟩
 rw [← e8] at h8
 have z8 : R8.length = sz := by rw [e8, List.length_set]; exact z7
 have k8 : ∀ x, j + 8 ≤ x → R8[x]? = R[x]? := fun x hx => by rw [e8, List.getElem?_set_ne (by omega)] <;> exact k7 x (by omega)
 have g9 := rHs_le 8 (by omega) s8
 have h9 : CallG Tryz.prog 150 [.ptr 0 0 0 1, .ptr 2 0 (j + 8) 1, .int .i64 8] [Cr 1 s8.cb, Rd s8.l s8.rb, Va sz R8] (.tup []) [Cr 1 (rHs 8 s8).2.cb, Rd (rHs 8 s8).2.l (rHs 8 s8).2.rb, Va sz (setL R8 (j + 8) [L (row3 (rHs 8 s8).1)])] := cHs_r s8 sz R8 (j + 8) 8 (by rw [k8 _ (by omega)]; exact hN8) (by omega) (by omega) (by omega) (by omega)
 generalize rHs 8 s8 = q9 at h9 g9 ⊢
 obtain ⟨v9, s9⟩ := q9
 dsimp only at h9 g9 ⊢
 obtain ⟨R9, e9⟩ : ∃ R9, R9 = setL R8 (j + 8) [L (row3 v9)] := ⟨_, rfl⟩
 rw [← e9] at h9
 have z9 : R9.length = sz := by rw [e9, setL_len]; exact z8
 have k9 : ∀ x, j + 9 ≤ x → R9[x]? = R[x]? := fun x hx => by rw [e9, setL_far _ _ _ _ (by simp only [List.length_cons, List.length_nil]; omega)] <;> exact k8 x (by omega)
 have eR : setL R j [.int .i64 (⟨v1, v2, v3, v4, v5, v6, v7, v8, v9⟩ : Qu).a, .int .i64 (⟨v1, v2, v3, v4, v5, v6, v7, v8, v9⟩ : Qu).b, .int .i64 (⟨v1, v2, v3, v4, v5, v6, v7, v8, v9⟩ : Qu).long, .int .i64 (⟨v1, v2, v3, v4, v5, v6, v7, v8, v9⟩ : Qu).grid, L (row1 .u32 (⟨v1, v2, v3, v4, v5, v6, v7, v8, v9⟩ : Qu).must), L (row2 .u32 .i64 (⟨v1, v2, v3, v4, v5, v6, v7, v8, v9⟩ : Qu).may), .int .i64 (⟨v1, v2, v3, v4, v5, v6, v7, v8, v9⟩ : Qu).seats, L (row2 .u32 .u32 (⟨v1, v2, v3, v4, v5, v6, v7, v8, v9⟩ : Qu).apart), L (row3 (⟨v1, v2, v3, v4, v5, v6, v7, v8, v9⟩ : Qu).prefer)] = R9 := by rw [e9, e8, e7, e6, e5, e4, e3, e2, e1] <;> rfl
 rw [eR]
 clear eR e1 e2 e3 e4 e5 e6 e7 e8 e9 k0 k1 k2 k3 k4 k5 k6 k7 k8 k9 z1 z2 z3 z4 z5 z6 z7 z8 z9
 refine wk [87, 131, 150] [(159, [], [0, 1, 2, 3]), (161, [], [0, 1, 2, 3]), (163, [], [0, 1, 2, 3])] exYR6 ?_
 exact rtw [0, 1, 2] exYR6
def rPo (s : Rs) : (Po) × Rs :=
 match rqN 4294967295 s with
 | (v1, s1) =>
 match rqN 4294967295 s1 with
 | (v2, s2) =>
 match rQu s2 with
 | (v3, s3) =>
 match rRow rTs 40 s3 with
 | (v4, s4) =>
 match rRow rVo 4096 s4 with
 | (v5, s5) =>
 match rqM s5 with
 | (v6, s6) =>
 match rqN 4 s6 with
 | (v7, s7) =>
 match rqN 40 s7 with
 | (v8, s8) =>
  (⟨v1, v2, v3, v4, v5, v6, v7, v8⟩, s8)
theorem rPo_le (s : Rs) : (rPo s).2.l.length ≤ s.l.length := by
 unfold rPo
 have g1 := (rqN_le 4294967295 (by omega) s).1
 generalize rqN 4294967295 s = q1 at g1 ⊢
 obtain ⟨v1, s1⟩ := q1
 dsimp only at g1 ⊢
 have g2 := (rqN_le 4294967295 (by omega) s1).1
 generalize rqN 4294967295 s1 = q2 at g2 ⊢
 obtain ⟨v2, s2⟩ := q2
 dsimp only at g2 ⊢
 have g3 := rQu_le s2
 generalize rQu s2 = q3 at g3 ⊢
 obtain ⟨v3, s3⟩ := q3
 dsimp only at g3 ⊢
 have g4 := rRow_le rTs_le 40 (by omega) s3
 generalize rRow rTs 40 s3 = q4 at g4 ⊢
 obtain ⟨v4, s4⟩ := q4
 dsimp only at g4 ⊢
 have g5 := rRow_le rVo_le 4096 (by omega) s4
 generalize rRow rVo 4096 s4 = q5 at g5 ⊢
 obtain ⟨v5, s5⟩ := q5
 dsimp only at g5 ⊢
 have g6 := rqM_le s5
 generalize rqM s5 = q6 at g6 ⊢
 obtain ⟨v6, s6⟩ := q6
 dsimp only at g6 ⊢
 have g7 := (rqN_le 4 (by omega) s6).1
 generalize rqN 4 s6 = q7 at g7 ⊢
 obtain ⟨v7, s7⟩ := q7
 dsimp only at g7 ⊢
 have g8 := (rqN_le 40 (by omega) s7).1
 generalize rqN 40 s7 = q8 at g8 ⊢
 obtain ⟨v8, s8⟩ := q8
 dsimp only at g8 ⊢
 omega
set_option maxHeartbeats 4000000 in
theorem cPo_r (s : Rs) (sz : Nat) (R : List D) (j : Nat) (hN6 : R[j + 6]? = some (.list (some true) true [])) (hN7 : R[j + 7]? = some (.list (some true) true [])) (hN9 : R[j + 9]? = some (.list (some true) true [])) (hN10 : R[j + 10]? = some (.list (some true) true [])) (hN11 : R[j + 11]? = some (.list (some true) true [])) (hN12 : R[j + 12]? = some (.list (some true) true [])) (hz : R.length = sz) (hj : j + 16 ≤ sz) (hl : s.l.length ≤ 1099511627776) :
  CallG Tryz.prog 91 [.ptr 0 0 0 1, .ptr 2 0 j 1] [Cr 1 s.cb, Rd s.l s.rb, Va sz R] (.tup [])
   [Cr 1 (rPo s).2.cb, Rd (rPo s).2.l (rPo s).2.rb, Va sz (setL R j [.int .u32 (rPo s).1.id, .int .u32 (rPo s).1.owner, .int .i64 (rPo s).1.qu.a, .int .i64 (rPo s).1.qu.b, .int .i64 (rPo s).1.qu.long, .int .i64 (rPo s).1.qu.grid, L (row1 .u32 (rPo s).1.qu.must), L (row2 .u32 .i64 (rPo s).1.qu.may), .int .i64 (rPo s).1.qu.seats, L (row2 .u32 .u32 (rPo s).1.qu.apart), L (row3 (rPo s).1.qu.prefer), L (row1 .i64 (rPo s).1.slots), L (row2 .u32 .i64 (rPo s).1.votes), .int .i64 (rPo s).1.til, .int .i64 (rPo s).1.state, .int .i64 (rPo s).1.winner])] := by
 refine callG Tryz.func91 low91 (by simp [c91]) ?_
 simp only [c91]
 unfold rPo
 have z0 := hz
 have k0 : ∀ x, j + 0 ≤ x → R[x]? = R[x]? := fun _ _ => rfl
 have g1 := (rqN_le 4294967295 (by omega) s).1
 have h1 : CallG Tryz.prog 94 [.ptr 0 0 0 1, .ptr 2 0 j 1] [Cr 1 s.cb, Rd s.l s.rb, Va sz R] (.tup []) [Cr 1 (rqN 4294967295 s).2.cb, Rd (rqN 4294967295 s).2.l (rqN 4294967295 s).2.rb, Va sz (R.set j (.int .u32 (((rqN 4294967295 s).1 : Nat) : Int)))] := name_r s.l s.rb s.cb sz R j (by omega) (by omega) (by omega)
 generalize rqN 4294967295 s = q1 at h1 g1 ⊢
 obtain ⟨v1, s1⟩ := q1
 dsimp only at h1 g1 ⊢
 obtain ⟨R1, e1⟩ : ∃ R1, R1 = R.set j (.int .u32 ((v1 : Nat) : Int)) := ⟨_, rfl⟩
 rw [← e1] at h1
 have z1 : R1.length = sz := by rw [e1, List.length_set]; exact z0
 have k1 : ∀ x, j + 1 ≤ x → R1[x]? = R[x]? := fun x hx => by rw [e1, List.getElem?_set_ne (by omega)] <;> exact k0 x (by omega)
 have g2 := (rqN_le 4294967295 (by omega) s1).1
 have h2 : CallG Tryz.prog 94 [.ptr 0 0 0 1, .ptr 2 0 (j + 1) 1] [Cr 1 s1.cb, Rd s1.l s1.rb, Va sz R1] (.tup []) [Cr 1 (rqN 4294967295 s1).2.cb, Rd (rqN 4294967295 s1).2.l (rqN 4294967295 s1).2.rb, Va sz (R1.set (j + 1) (.int .u32 (((rqN 4294967295 s1).1 : Nat) : Int)))] := name_r s1.l s1.rb s1.cb sz R1 (j + 1) (by omega) (by omega) (by omega)
 generalize rqN 4294967295 s1 = q2 at h2 g2 ⊢
 obtain ⟨v2, s2⟩ := q2
 dsimp only at h2 g2 ⊢
 obtain ⟨R2, e2⟩ : ∃ R2, R2 = R1.set (j + 1) (.int .u32 ((v2 : Nat) : Int)) := ⟨_, rfl⟩
 rw [← e2] at h2
 have z2 : R2.length = sz := by rw [e2, List.length_set]; exact z1
 have k2 : ∀ x, j + 2 ≤ x → R2[x]? = R[x]? := fun x hx => by rw [e2, List.getElem?_set_ne (by omega)] <;> exact k1 x (by omega)
 have g3 := rQu_le s2
 have h3 : CallG Tryz.prog 126 [.ptr 0 0 0 1, .ptr 2 0 (j + 2) 1] [Cr 1 s2.cb, Rd s2.l s2.rb, Va sz R2] (.tup []) [Cr 1 (rQu s2).2.cb, Rd (rQu s2).2.l (rQu s2).2.rb, Va sz (setL R2 (j + 2) [.int .i64 (rQu s2).1.a, .int .i64 (rQu s2).1.b, .int .i64 (rQu s2).1.long, .int .i64 (rQu s2).1.grid, L (row1 .u32 (rQu s2).1.must), L (row2 .u32 .i64 (rQu s2).1.may), .int .i64 (rQu s2).1.seats, L (row2 .u32 .u32 (rQu s2).1.apart), L (row3 (rQu s2).1.prefer)])] := cQu_r s2 sz R2 (j + 2) (by rw [k2 _ (by omega)]; exact hN6) (by rw [k2 _ (by omega)]; exact hN7) (by rw [k2 _ (by omega)]; exact hN9) (by rw [k2 _ (by omega)]; exact hN10) (by omega) (by omega) (by omega)
 generalize rQu s2 = q3 at h3 g3 ⊢
 obtain ⟨v3, s3⟩ := q3
 dsimp only at h3 g3 ⊢
 obtain ⟨R3, e3⟩ : ∃ R3, R3 = setL R2 (j + 2) [.int .i64 v3.a, .int .i64 v3.b, .int .i64 v3.long, .int .i64 v3.grid, L (row1 .u32 v3.must), L (row2 .u32 .i64 v3.may), .int .i64 v3.seats, L (row2 .u32 .u32 v3.apart), L (row3 v3.prefer)] := ⟨_, rfl⟩
 rw [← e3] at h3
 have z3 : R3.length = sz := by rw [e3, setL_len]; exact z2
 have k3 : ∀ x, j + 11 ≤ x → R3[x]? = R[x]? := fun x hx => by rw [e3, setL_far _ _ _ _ (by simp only [List.length_cons, List.length_nil]; omega)] <;> exact k2 x (by omega)
 have g4 := rRow_le rTs_le 40 (by omega) s3
 have h4 : CallG Tryz.prog 127 [.ptr 0 0 0 1, .ptr 2 0 (j + 11) 1, .int .i64 40, .fn 128 [.ptr 3 0 0 1]] [Cr 1 s3.cb, Rd s3.l s3.rb, Va sz R3, Bx 0] (.tup []) [Cr 1 (rRow rTs 40 s3).2.cb, Rd (rRow rTs 40 s3).2.l (rRow rTs 40 s3).2.rb, Va sz (R3.set (j + 11) (L (row1 .i64 (rRow rTs 40 s3).1))), Bx 0] := rowTs_r s3 sz R3 (j + 11) 40 (by rw [k3 _ (by omega)]; exact hN11) (by omega) (by omega) (by omega)
 generalize rRow rTs 40 s3 = q4 at h4 g4 ⊢
 obtain ⟨v4, s4⟩ := q4
 dsimp only at h4 g4 ⊢
 obtain ⟨R4, e4⟩ : ∃ R4, R4 = R3.set (j + 11) (L (row1 .i64 v4)) := ⟨_, rfl⟩
 rw [← e4] at h4
 have z4 : R4.length = sz := by rw [e4, List.length_set]; exact z3
 have k4 : ∀ x, j + 12 ≤ x → R4[x]? = R[x]? := fun x hx => by rw [e4, List.getElem?_set_ne (by omega)] <;> exact k3 x (by omega)
 have g5 := rRow_le rVo_le 4096 (by omega) s4
 have h5 : CallG Tryz.prog 129 [.ptr 0 0 0 1, .ptr 2 0 (j + 12) 1, .int .i64 4096, .fn 130 [.ptr 3 0 0 1]] [Cr 1 s4.cb, Rd s4.l s4.rb, Va sz R4, Bx 0] (.tup []) [Cr 1 (rRow rVo 4096 s4).2.cb, Rd (rRow rVo 4096 s4).2.l (rRow rVo 4096 s4).2.rb, Va sz (R4.set (j + 12) (L (row2 .u32 .i64 (rRow rVo 4096 s4).1))), Bx 0] := rowVo_r s4 sz R4 (j + 12) 4096 (by rw [k4 _ (by omega)]; exact hN12) (by omega) (by omega) (by omega)
 generalize rRow rVo 4096 s4 = q5 at h5 g5 ⊢
 obtain ⟨v5, s5⟩ := q5
 dsimp only at h5 g5 ⊢
 obtain ⟨R5, e5⟩ : ∃ R5, R5 = R4.set (j + 12) (L (row2 .u32 .i64 v5)) := ⟨_, rfl⟩
 rw [← e5] at h5
 have z5 : R5.length = sz := by rw [e5, List.length_set]; exact z4
 have k5 : ∀ x, j + 13 ≤ x → R5[x]? = R[x]? := fun x hx => by rw [e5, List.getElem?_set_ne (by omega)] <;> exact k4 x (by omega)
 have g6 := rqM_le s5
 have h6 : CallG Tryz.prog 87 [.ptr 0 0 0 1, .ptr 2 0 (j + 13) 1] [Cr 1 s5.cb, Rd s5.l s5.rb, Va sz R5] (.tup []) [Cr 1 (rqM s5).2.cb, Rd (rqM s5).2.l (rqM s5).2.rb, Va sz (R5.set (j + 13) (.int .i64 ((rqM s5).1 : Int)))] := minutes_r s5.l s5.rb s5.cb sz R5 (j + 13) (by omega) (by omega) (by omega)
 generalize rqM s5 = q6 at h6 g6 ⊢
 obtain ⟨v6, s6⟩ := q6
 dsimp only at h6 g6 ⊢
 obtain ⟨R6, e6⟩ : ∃ R6, R6 = R5.set (j + 13) (.int .i64 (v6 : Int)) := ⟨_, rfl⟩
 rw [← e6] at h6
 have z6 : R6.length = sz := by rw [e6, List.length_set]; exact z5
 have k6 : ∀ x, j + 14 ≤ x → R6[x]? = R[x]? := fun x hx => by rw [e6, List.getElem?_set_ne (by omega)] <;> exact k5 x (by omega)
 have g7 := (rqN_le 4 (by omega) s6).1
 have h7 : CallG Tryz.prog 131 [.ptr 0 0 0 1, .ptr 2 0 (j + 14) 1, .int .u64 4] [Cr 1 s6.cb, Rd s6.l s6.rb, Va sz R6] (.tup []) [Cr 1 (rqN 4 s6).2.cb, Rd (rqN 4 s6).2.l (rqN 4 s6).2.rb, Va sz (R6.set (j + 14) (.int .i64 (((rqN 4 s6).1 : Nat) : Int)))] := numI_r s6.l s6.rb s6.cb sz R6 (j + 14) 4 (by omega) (by omega) (by omega) (by omega)
 generalize rqN 4 s6 = q7 at h7 g7 ⊢
 obtain ⟨v7, s7⟩ := q7
 dsimp only at h7 g7 ⊢
 obtain ⟨R7, e7⟩ : ∃ R7, R7 = R6.set (j + 14) (.int .i64 ((v7 : Nat) : Int)) := ⟨_, rfl⟩
 rw [← e7] at h7
 have z7 : R7.length = sz := by rw [e7, List.length_set]; exact z6
 have k7 : ∀ x, j + 15 ≤ x → R7[x]? = R[x]? := fun x hx => by rw [e7, List.getElem?_set_ne (by omega)] <;> exact k6 x (by omega)
 have g8 := (rqN_le 40 (by omega) s7).1
 have h8 : CallG Tryz.prog 131 [.ptr 0 0 0 1, .ptr 2 0 (j + 15) 1, .int .u64 40] [Cr 1 s7.cb, Rd s7.l s7.rb, Va sz R7] (.tup []) [Cr 1 (rqN 40 s7).2.cb, Rd (rqN 40 s7).2.l (rqN 40 s7).2.rb, Va sz (R7.set (j + 15) (.int .i64 (((rqN 40 s7).1 : Nat) : Int)))] := numI_r s7.l s7.rb s7.cb sz R7 (j + 15) 40 (by omega) (by omega) (by omega) (by omega)
 generalize rqN 40 s7 = q8 at h8 g8 ⊢
 obtain ⟨v8, s8⟩ := q8
 dsimp only at h8 g8 ⊢
 obtain ⟨R8, e8⟩ : ∃ R8, R8 = R7.set (j + 15) (.int .i64 ((v8 : Nat) : Int)) := ⟨_, rfl⟩
 rw [← e8] at h8
 have z8 : R8.length = sz := by rw [e8, List.length_set]; exact z7
 have k8 : ∀ x, j + 16 ≤ x → R8[x]? = R[x]? := fun x hx => by rw [e8, List.getElem?_set_ne (by omega)] <;> exact k7 x (by omega)
 have eR : setL R j [.int .u32 (⟨v1, v2, v3, v4, v5, v6, v7, v8⟩ : Po).id, .int .u32 (⟨v1, v2, v3, v4, v5, v6, v7, v8⟩ : Po).owner, .int .i64 (⟨v1, v2, v3, v4, v5, v6, v7, v8⟩ : Po).qu.a, .int .i64 (⟨v1, v2, v3, v4, v5, v6, v7, v8⟩ : Po).qu.b, .int .i64 (⟨v1, v2, v3, v4, v5, v6, v7, v8⟩ : Po).qu.long, .int .i64 (⟨v1, v2, v3, v4, v5, v6, v7, v8⟩ : Po).qu.grid, L (row1 .u32 (⟨v1, v2, v3, v4, v5, v6, v7, v8⟩ : Po).qu.must), L (row2 .u32 .i64 (⟨v1, v2, v3, v4, v5, v6, v7, v8⟩ : Po).qu.may), .int .i64 (⟨v1, v2, v3, v4, v5, v6, v7, v8⟩ : Po).qu.seats, L (row2 .u32 .u32 (⟨v1, v2, v3, v4, v5, v6, v7, v8⟩ : Po).qu.apart), L (row3 (⟨v1, v2, v3, v4, v5, v6, v7, v8⟩ : Po).qu.prefer), L (row1 .i64 (⟨v1, v2, v3, v4, v5, v6, v7, v8⟩ : Po).slots), L (row2 .u32 .i64 (⟨v1, v2, v3, v4, v5, v6, v7, v8⟩ : Po).votes), .int .i64 (⟨v1, v2, v3, v4, v5, v6, v7, v8⟩ : Po).til, .int .i64 (⟨v1, v2, v3, v4, v5, v6, v7, v8⟩ : Po).state, .int .i64 (⟨v1, v2, v3, v4, v5, v6, v7, v8⟩ : Po).winner] = R8 := by rw [e8, e7, e6, e5, e4, e3, e2, e1] <;> rfl
 rw [eR]
 clear eR e1 e2 e3 e4 e5 e6 e7 e8 k0 k1 k2 k3 k4 k5 k6 k7 k8 z1 z2 z3 z4 z5 z6 z7 z8
 refine wk [94, 126, 87, 131] [(127, [], [0, 1, 2, 3]), (129, [], [0, 1, 2, 3])] exYR6 ?_
 exact rtw [0, 1, 2] exYR6
end Go.Proofs.YtapennlmboabeaaGreat

namespace Go.Proofs.YtapennlmboabeaaGreat
open Go Go.Vi
abbrev Ru0 : Ru := ⟨0, 0, 0, 0, [], [], [], [], 0⟩
def evR (R : List D) (j : Nat) (e : Ev) : List D := if e.again = true then setL (((R.set j (.int .i64 e.start)).set (j + 1) (.int .i64 e.long)).set (j + 3) (.bool true)) (j + 4) [.int .i64 e.rule.freq, .int .i64 e.rule.interval, .int .i64 e.rule.count, .int .i64 e.rule.til, L (row1 .i64 e.rule.bm), L (row1 .i64 e.rule.bmd), L (row2 .i64 .i64 e.rule.bd), L (row1 .i64 e.rule.bsp), .int .i64 e.rule.start, L (row1 .i64 e.ex), L (row1 .i64 e.plus), L (row3 e.ch)] else (((R.set j (.int .i64 e.start)).set (j + 1) (.int .i64 e.long)).set (j + 3) (.bool false)).set (j + 2) (.bool e.world)
def rEvT (v1 : Int) (v2 : Nat) (s3 : Rs) : Ev × Rs :=
 match rRu s3 with
 | (v4, s4) =>
 match rRow rEx 50 s4 with
 | (v5, s5) =>
 match rRow rPl 50 s5 with
 | (v6, s6) =>
 match rRow rCh 50 s6 with
 | (v7, s7) =>
  (⟨v1, v2, false, true, v4, v5, v6, v7⟩, s7)
def rEvF (v1 : Int) (v2 : Nat) (s3 : Rs) : Ev × Rs :=
 match rqF s3 with
 | (v4, s4) =>
  (⟨v1, v2, v4, false, Ru0, [], [], []⟩, s4)
def rEv (s : Rs) : Ev × Rs :=
 match rqM s with
 | (v1, s1) =>
 match rqN 10080 s1 with
 | (v2, s2) =>
 match rqF s2 with
 | (v3, s3) =>
 if v3 = true then rEvT v1 v2 s3 else rEvF v1 v2 s3
theorem rEv_le (s : Rs) : (rEv s).2.l.length ≤ s.l.length := by
 unfold rEv
 have g1 := rqM_le s
 generalize rqM s = q1 at g1 ⊢
 obtain ⟨v1, s1⟩ := q1
 dsimp only at g1 ⊢
 have g2 := (rqN_le 10080 (by omega) s1).1
 generalize rqN 10080 s1 = q2 at g2 ⊢
 obtain ⟨v2, s2⟩ := q2
 dsimp only at g2 ⊢
 have g3 := rqF_le s2
 generalize rqF s2 = q3 at g3 ⊢
 obtain ⟨v3, s3⟩ := q3
 dsimp only at g3 ⊢
 split
 ·unfold rEvT
  have g4 := rRu_le s3
  generalize rRu s3 = q4 at g4 ⊢
  obtain ⟨v4, s4⟩ := q4
  dsimp only at g4 ⊢
  have g5 := rRow_le rEx_le 50 (by omega) s4
  generalize rRow rEx 50 s4 = q5 at g5 ⊢
  obtain ⟨v5, s5⟩ := q5
  dsimp only at g5 ⊢
  have g6 := rRow_le rPl_le 50 (by omega) s5
  generalize rRow rPl 50 s5 = q6 at g6 ⊢
  obtain ⟨v6, s6⟩ := q6
  dsimp only at g6 ⊢
  have g7 := rRow_le rCh_le 50 (by omega) s6
  generalize rRow rCh 50 s6 = q7 at g7 ⊢
  obtain ⟨v7, s7⟩ := q7
  dsimp only at g7 ⊢
  omega
 ·unfold rEvF
  have g4 := rqF_le s3
  generalize rqF s3 = q4 at g4 ⊢
  obtain ⟨v4, s4⟩ := q4
  dsimp only at g4 ⊢
  omega
set_option maxHeartbeats 8000000 in
theorem cEv_r (s : Rs) (sz : Nat) (R : List D) (j : Nat) (hN8 : R[j + 8]? = some (.list (some true) true [])) (hN9 : R[j + 9]? = some (.list (some true) true [])) (hN10 : R[j + 10]? = some (.list (some true) true [])) (hN11 : R[j + 11]? = some (.list (some true) true [])) (hN13 : R[j + 13]? = some (.list (some true) true [])) (hN14 : R[j + 14]? = some (.list (some true) true [])) (hN15 : R[j + 15]? = some (.list (some true) true [])) (hz : R.length = sz) (hj : j + 16 ≤ sz) (hl : s.l.length ≤ 1099511627776) :
  CallG Tryz.prog 125 [.ptr 0 0 0 1, .ptr 2 0 j 1] [Cr 1 s.cb, Rd s.l s.rb, Va sz R] (.tup [])
   [Cr 1 (rEv s).2.cb, Rd (rEv s).2.l (rEv s).2.rb, Va sz (evR R j (rEv s).1)] := by
 refine callG Tryz.func125 low125 (by simp [c125]) ?_
 simp only [c125]
 unfold rEv
 have z0 := hz
 have k0 : ∀ x, j + 0 ≤ x → R[x]? = R[x]? := fun _ _ => rfl
 have g1 := rqM_le s
 have h1 : CallG Tryz.prog 87 [.ptr 0 0 0 1, .ptr 2 0 j 1] [Cr 1 s.cb, Rd s.l s.rb, Va sz R] (.tup []) [Cr 1 (rqM s).2.cb, Rd (rqM s).2.l (rqM s).2.rb, Va sz (R.set j (.int .i64 ((rqM s).1 : Int)))] := minutes_r s.l s.rb s.cb sz R j (by omega) (by omega) (by omega)
 generalize rqM s = q1 at h1 g1 ⊢
 obtain ⟨v1, s1⟩ := q1
 dsimp only at h1 g1 ⊢
 obtain ⟨R1, e1⟩ : ∃ R1, R1 = R.set j (.int .i64 (v1 : Int)) := ⟨_, rfl⟩
 rw [← e1] at h1
 have z1 : R1.length = sz := by rw [e1, List.length_set]; exact z0
 have k1 : ∀ x, j + 1 ≤ x → R1[x]? = R[x]? := fun x hx => by rw [e1, List.getElem?_set_ne (by omega)] <;> exact k0 x (by omega)
 have g2 := (rqN_le 10080 (by omega) s1).1
 have h2 : CallG Tryz.prog 131 [.ptr 0 0 0 1, .ptr 2 0 (j + 1) 1, .int .u64 10080] [Cr 1 s1.cb, Rd s1.l s1.rb, Va sz R1] (.tup []) [Cr 1 (rqN 10080 s1).2.cb, Rd (rqN 10080 s1).2.l (rqN 10080 s1).2.rb, Va sz (R1.set (j + 1) (.int .i64 (((rqN 10080 s1).1 : Nat) : Int)))] := numI_r s1.l s1.rb s1.cb sz R1 (j + 1) 10080 (by omega) (by omega) (by omega) (by omega)
 generalize rqN 10080 s1 = q2 at h2 g2 ⊢
 obtain ⟨v2, s2⟩ := q2
 dsimp only at h2 g2 ⊢
 obtain ⟨R2, e2⟩ : ∃ R2, R2 = R1.set (j + 1) (.int .i64 ((v2 : Nat) : Int)) := ⟨_, rfl⟩
 rw [← e2] at h2
 have z2 : R2.length = sz := by rw [e2, List.length_set]; exact z1
 have k2 : ∀ x, j + 2 ≤ x → R2[x]? = R[x]? := fun x hx => by rw [e2, List.getElem?_set_ne (by omega)] <;> exact k1 x (by omega)
 have g3 := rqF_le s2
 have h3 : CallG Tryz.prog 153 [.ptr 0 0 0 1, .ptr 2 0 (j + 3) 1] [Cr 1 s2.cb, Rd s2.l s2.rb, Va sz R2] (.tup []) [Cr 1 (rqF s2).2.cb, Rd (rqF s2).2.l (rqF s2).2.rb, Va sz (R2.set (j + 3) (.bool (rqF s2).1))] := flag_r s2.l s2.rb s2.cb sz R2 (j + 3) (by omega) (by omega) (by omega)
 generalize rqF s2 = q3 at h3 g3 ⊢
 obtain ⟨v3, s3⟩ := q3
 dsimp only at h3 g3 ⊢
 obtain ⟨R3, e3⟩ : ∃ R3, R3 = R2.set (j + 3) (.bool v3) := ⟨_, rfl⟩
 rw [← e3] at h3
 have z3 : R3.length = sz := by rw [e3, List.length_set]; exact z2
 have k3 : ∀ x, j + 4 ≤ x → R3[x]? = R[x]? := fun x hx => by rw [e3, List.getElem?_set_ne (by omega)] <;> exact k2 x (by omega)
 have hA : R3[j + 3]? = some (.bool v3) := by rw [e3, List.getElem?_set_self (by rw [z2]; omega)]
 cases v3
 ·simp only [Bool.false_eq_true, reduceIte]
  unfold rEvF
  have g4 := rqF_le s3
  have h4 : CallG Tryz.prog 153 [.ptr 0 0 0 1, .ptr 2 0 (j + 2) 1] [Cr 1 s3.cb, Rd s3.l s3.rb, Va sz R3] (.tup []) [Cr 1 (rqF s3).2.cb, Rd (rqF s3).2.l (rqF s3).2.rb, Va sz (R3.set (j + 2) (.bool (rqF s3).1))] := flag_r s3.l s3.rb s3.cb sz R3 (j + 2) (by omega) (by omega) (by omega)
  generalize rqF s3 = q4 at h4 g4 ⊢
  obtain ⟨v4, s4⟩ := q4
  dsimp only at h4 g4 ⊢
  obtain ⟨R4, e4⟩ : ∃ R4, R4 = R3.set (j + 2) (.bool v4) := ⟨_, rfl⟩
  rw [← e4] at h4
  have z4 : R4.length = sz := by rw [e4, List.length_set]; exact z3
  have eR : evR R j ⟨v1, v2, v4, false, Ru0, [], [], []⟩ = R4 := by rw [e4, e3, e2, e1] <;> rfl
  rw [eR]
  clear eR e1 e2 e3 e4 k0 k1 k2 k3 z1 z2 z3 z4
  refine wk [87, 131, 153] [] hA ?_
  exact rtw [0, 1, 2] trivial
 ·simp only [reduceIte]
  unfold rEvT
  have g4 := rRu_le s3
  have h4 : CallG Tryz.prog 154 [.ptr 0 0 0 1, .ptr 2 0 (j + 4) 1] [Cr 1 s3.cb, Rd s3.l s3.rb, Va sz R3] (.tup []) [Cr 1 (rRu s3).2.cb, Rd (rRu s3).2.l (rRu s3).2.rb, Va sz (setL R3 (j + 4) [.int .i64 (rRu s3).1.freq, .int .i64 (rRu s3).1.interval, .int .i64 (rRu s3).1.count, .int .i64 (rRu s3).1.til, L (row1 .i64 (rRu s3).1.bm), L (row1 .i64 (rRu s3).1.bmd), L (row2 .i64 .i64 (rRu s3).1.bd), L (row1 .i64 (rRu s3).1.bsp), .int .i64 (rRu s3).1.start])] := cRu_r s3 sz R3 (j + 4) (by rw [k3 _ (by omega)]; exact hN8) (by rw [k3 _ (by omega)]; exact hN9) (by rw [k3 _ (by omega)]; exact hN10) (by rw [k3 _ (by omega)]; exact hN11) (by omega) (by omega) (by omega)
  generalize rRu s3 = q4 at h4 g4 ⊢
  obtain ⟨v4, s4⟩ := q4
  dsimp only at h4 g4 ⊢
  obtain ⟨R4, e4⟩ : ∃ R4, R4 = setL R3 (j + 4) [.int .i64 v4.freq, .int .i64 v4.interval, .int .i64 v4.count, .int .i64 v4.til, L (row1 .i64 v4.bm), L (row1 .i64 v4.bmd), L (row2 .i64 .i64 v4.bd), L (row1 .i64 v4.bsp), .int .i64 v4.start] := ⟨_, rfl⟩
  rw [← e4] at h4
  have z4 : R4.length = sz := by rw [e4, setL_len]; exact z3
  have k4 : ∀ x, j + 13 ≤ x → R4[x]? = R[x]? := fun x hx => by rw [e4, setL_far _ _ _ _ (by simp only [List.length_cons, List.length_nil]; omega)] <;> exact k3 x (by omega)
  have g5 := rRow_le rEx_le 50 (by omega) s4
  have h5 : CallG Tryz.prog 127 [.ptr 0 0 0 1, .ptr 2 0 (j + 13) 1, .int .i64 50, .fn 155 [.ptr 3 0 0 1]] [Cr 1 s4.cb, Rd s4.l s4.rb, Va sz R4, Bx 0] (.tup []) [Cr 1 (rRow rEx 50 s4).2.cb, Rd (rRow rEx 50 s4).2.l (rRow rEx 50 s4).2.rb, Va sz (R4.set (j + 13) (L (row1 .i64 (rRow rEx 50 s4).1))), Bx 0] := rowEx_r s4 sz R4 (j + 13) 50 (by rw [k4 _ (by omega)]; exact hN13) (by omega) (by omega) (by omega)
  generalize rRow rEx 50 s4 = q5 at h5 g5 ⊢
  obtain ⟨v5, s5⟩ := q5
  dsimp only at h5 g5 ⊢
  obtain ⟨R5, e5⟩ : ∃ R5, R5 = R4.set (j + 13) (L (row1 .i64 v5)) := ⟨_, rfl⟩
  rw [← e5] at h5
  have z5 : R5.length = sz := by rw [e5, List.length_set]; exact z4
  have k5 : ∀ x, j + 14 ≤ x → R5[x]? = R[x]? := fun x hx => by rw [e5, List.getElem?_set_ne (by omega)] <;> exact k4 x (by omega)
  have g6 := rRow_le rPl_le 50 (by omega) s5
  have h6 : CallG Tryz.prog 127 [.ptr 0 0 0 1, .ptr 2 0 (j + 14) 1, .int .i64 50, .fn 156 [.ptr 3 0 0 1]] [Cr 1 s5.cb, Rd s5.l s5.rb, Va sz R5, Bx 0] (.tup []) [Cr 1 (rRow rPl 50 s5).2.cb, Rd (rRow rPl 50 s5).2.l (rRow rPl 50 s5).2.rb, Va sz (R5.set (j + 14) (L (row1 .i64 (rRow rPl 50 s5).1))), Bx 0] := rowPl_r s5 sz R5 (j + 14) 50 (by rw [k5 _ (by omega)]; exact hN14) (by omega) (by omega) (by omega)
  generalize rRow rPl 50 s5 = q6 at h6 g6 ⊢
  obtain ⟨v6, s6⟩ := q6
  dsimp only at h6 g6 ⊢
  obtain ⟨R6, e6⟩ : ∃ R6, R6 = R5.set (j + 14) (L (row1 .i64 v6)) := ⟨_, rfl⟩
  rw [← e6] at h6
  have z6 : R6.length = sz := by rw [e6, List.length_set]; exact z5
  have k6 : ∀ x, j + 15 ≤ x → R6[x]? = R[x]? := fun x hx => by rw [e6, List.getElem?_set_ne (by omega)] <;> exact k5 x (by omega)
  have g7 := rRow_le rCh_le 50 (by omega) s6
  have h7 : CallG Tryz.prog 157 [.ptr 0 0 0 1, .ptr 2 0 (j + 15) 1, .int .i64 50, .fn 158 [.ptr 3 0 0 1]] [Cr 1 s6.cb, Rd s6.l s6.rb, Va sz R6, Bx 0] (.tup []) [Cr 1 (rRow rCh 50 s6).2.cb, Rd (rRow rCh 50 s6).2.l (rRow rCh 50 s6).2.rb, Va sz (R6.set (j + 15) (L (row3 (rRow rCh 50 s6).1))), Bx 0] := rowCh_r s6 sz R6 (j + 15) 50 (by rw [k6 _ (by omega)]; exact hN15) (by omega) (by omega) (by omega)
  generalize rRow rCh 50 s6 = q7 at h7 g7 ⊢
  obtain ⟨v7, s7⟩ := q7
  dsimp only at h7 g7 ⊢
  obtain ⟨R7, e7⟩ : ∃ R7, R7 = R6.set (j + 15) (L (row3 v7)) := ⟨_, rfl⟩
  rw [← e7] at h7
  have z7 : R7.length = sz := by rw [e7, List.length_set]; exact z6
  have k7 : ∀ x, j + 16 ≤ x → R7[x]? = R[x]? := fun x hx => by rw [e7, List.getElem?_set_ne (by omega)] <;> exact k6 x (by omega)
  have eR : evR R j ⟨v1, v2, false, true, v4, v5, v6, v7⟩ = R7 := by rw [e7, e6, e5, e4, e3, e2, e1] <;> rfl
  rw [eR]
  clear eR e1 e2 e3 e4 e5 e6 e7 k0 k1 k2 k3 k4 k5 k6 k7 z1 z2 z3 z4 z5 z6 z7
  refine wk [87, 131, 153, 154] [(127, [], [0, 1, 2, 3]), (157, [], [0, 1, 2, 3])] hA ?_
  exact rtw [0, 1, 2] trivial
end Go.Proofs.YtapennlmboabeaaGreat

namespace Go.Proofs.YtapennlmboabeaaGreat
open Go Go.Vi
structure As where
 kind : Int
 caller : Int
 number : Int
 user : Int
 id : Int
 se : Se
 ev : Ev
 qu : Qu
 cursor : ByteArray
 count : Int
 poll : Int
 slot : Int
 yes : Bool
 til : Int
def As.cells (a : As) : List D := [.int .i64 a.kind, .int .u32 a.caller, .int .u64 a.number, .int .u32 a.user, .int .u32 a.id, .int .i64 a.se.base, L (row2 .i64 .i64 a.se.turns), L (row3 a.se.shifts), L (row1 .i64 a.se.off), .int .i64 a.se.before, .int .i64 a.se.after, .int .i64 a.ev.start, .int .i64 a.ev.long, .bool a.ev.world, .bool a.ev.again, .int .i64 a.ev.rule.freq, .int .i64 a.ev.rule.interval, .int .i64 a.ev.rule.count, .int .i64 a.ev.rule.til, L (row1 .i64 a.ev.rule.bm), L (row1 .i64 a.ev.rule.bmd), L (row2 .i64 .i64 a.ev.rule.bd), L (row1 .i64 a.ev.rule.bsp), .int .i64 a.ev.rule.start, L (row1 .i64 a.ev.ex), L (row1 .i64 a.ev.plus), L (row3 a.ev.ch), .int .i64 a.qu.a, .int .i64 a.qu.b, .int .i64 a.qu.long, .int .i64 a.qu.grid, L (row1 .u32 a.qu.must), L (row2 .u32 .i64 a.qu.may), .int .i64 a.qu.seats, L (row2 .u32 .u32 a.qu.apart), L (row3 a.qu.prefer), .str a.cursor, .int .i64 a.count, .int .u32 a.poll, .int .i64 a.slot, .bool a.yes, .int .i64 a.til]
theorem cEv_w (l : List UInt8) (bad : Bool) (sz : Nat) (R : List D) (j : Nat) (e : Ev) (hR0 : R[j]? = some (.int .i64 e.start)) (hR1 : R[j + 1]? = some (.int .i64 e.long)) (hR2 : R[j + 2]? = some (.bool e.world)) (hR3 : R[j + 3]? = some (.bool e.again)) (hR4 : R[j + 4]? = some (.int .i64 e.rule.freq)) (hR5 : R[j + 5]? = some (.int .i64 e.rule.interval)) (hR6 : R[j + 6]? = some (.int .i64 e.rule.count)) (hR7 : R[j + 7]? = some (.int .i64 e.rule.til)) (hR8 : R[j + 8]? = some (L (row1 .i64 e.rule.bm))) (hR9 : R[j + 9]? = some (L (row1 .i64 e.rule.bmd))) (hR10 : R[j + 10]? = some (L (row2 .i64 .i64 e.rule.bd))) (hR11 : R[j + 11]? = some (L (row1 .i64 e.rule.bsp))) (hR12 : R[j + 12]? = some (.int .i64 e.rule.start)) (hR13 : R[j + 13]? = some (L (row1 .i64 e.ex))) (hR14 : R[j + 14]? = some (L (row1 .i64 e.plus))) (hR15 : R[j + 15]? = some (L (row3 e.ch))) (hf : fEv e) (hl : (l ++ eEv e).length ≤ 1099511627776) :
  CallG Tryz.prog 125 [.ptr 0 0 0 1, .ptr 3 0 j 1] [Cw 1 bad, Ww 2 l.length, acc true 1 true (r8 l), Va sz R] (.tup [])
   [Cw 1 (bad || xEv e), Ww 2 (l ++ eEv e).length, acc true 1 true (r8 (l ++ eEv e)), Va sz R] := by
 unfold eEv xEv
 unfold eEv at hl
 cases ha : e.again
 ·rw [if_neg (by rw [ha]; simp)] at hl
  rw [if_neg (by simp), if_neg (by simp)]
  exact cE0_w l bad sz R j e ha hR0 hR1 hR2 hR3 hf.1 hl
 ·rw [if_pos ha] at hl
  rw [if_pos rfl, if_pos rfl]
  exact cE1_w l bad sz R j e ha hR0 hR1 hR3 hR4 hR5 hR6 hR7 hR8 hR9 hR10 hR11 hR12 hR13 hR14 hR15 hf.2 hl
structure fAs (a : As) : Prop where
 kind : Fit a.kind
 caller : 0 ≤ a.caller ∧ a.caller ≤ 4294967295
 number : 0 ≤ a.number ∧ a.number ≤ 18446744073709551615
 id : 0 ≤ a.id ∧ a.id ≤ 4294967295
 se : fSe a.se
 ev : fEv a.ev
 qu : fQu a.qu
 cursor : a.cursor.size ≤ 1099511627776
 count : Fit a.count
 poll : 0 ≤ a.poll ∧ a.poll ≤ 4294967295
 slot : Fit a.slot
 til : Fit a.til
end Go.Proofs.YtapennlmboabeaaGreat

namespace Go.Proofs.YtapennlmboabeaaGreat
open Go Go.Vi
theorem rEv_form (s : Rs) : ((rEv s).1.again = true ∧ (rEv s).1.world = false) ∨ ((rEv s).1.again = false ∧ (rEv s).1.rule = Ru0 ∧ (rEv s).1.ex = [] ∧ (rEv s).1.plus = [] ∧ (rEv s).1.ch = []) := by
 unfold rEv
 generalize rqM s = q1
 obtain ⟨v1, s1⟩ := q1
 dsimp only
 generalize rqN 10080 s1 = q2
 obtain ⟨v2, s2⟩ := q2
 dsimp only
 generalize rqF s2 = q3
 obtain ⟨v3, s3⟩ := q3
 dsimp only
 split
 ·unfold rEvT
  generalize rRu s3 = q4
  obtain ⟨v4, s4⟩ := q4
  dsimp only
  generalize rRow rEx 50 s4 = q5
  obtain ⟨v5, s5⟩ := q5
  dsimp only
  generalize rRow rPl 50 s5 = q6
  obtain ⟨v6, s6⟩ := q6
  dsimp only
  generalize rRow rCh 50 s6 = q7
  obtain ⟨v7, s7⟩ := q7
  dsimp only
  exact .inl ⟨rfl, rfl⟩
 ·unfold rEvF
  generalize rqF s3 = q4
  obtain ⟨v4, s4⟩ := q4
  dsimp only
  exact .inr ⟨rfl, rfl, rfl, rfl, rfl⟩
end Go.Proofs.YtapennlmboabeaaGreat
