import Derived.Test.YtapennlmboabeaaGreatYJ
import Derived.Test.YtapennlmboabeaaGreatVi33
import Derived.Test.YtapennlmboabeaaGreatVi31
set_option linter.unusedVariables false
set_option linter.unusedSimpArgs false
set_option linter.unnecessarySimpa false
namespace Go.Proofs.YtapennlmboabeaaGreat
open Go Go.Vi
def yt (b : Int) (ts : List (Int × Int)) : List UInt8 := ez (zz b) ++ (cZ u1 ts)
def C4 (b : Int) (ts : List (Int × Int)) : Bool := decide (b < (-900) ∨ 900 < b) || (fO Bd 700 ts)
def fZo (b : Int) (ts : List (Int × Int)) : Prop := iY b ∧ ((ts.length ≤ 140737488351232 ∧ ∀ x ∈ ts, Cl x))
theorem ji : type_of% (an @Wr.eq_1 (an @co (an @ab (an @ac (an @ae @dc))))) := (an @Wr.eq_1 (an @co (an @ab (an @ac (an @ae @dc)))))
set_option maxHeartbeats 2000000 in
theorem cZo_w (l : List UInt8) (bad : Bool) (sz : Nat) (R : List D) (j : Nat) (b : Int) (ts : List (Int × Int))  (hR0 : R[j]? = some (.int .i64 b)) (hR1 : R[j + 1]? = some (L (bz .i64 .i64 ts))) (hf : fZo b ts) (hl : (l ++ yt b ts).length ≤ 1099511627776) :
  aa Tryz.prog 149 [.ptr 0 0 0 1, .ptr 3 0 j 1] [Cw 1 bad, Ww 2 l.length, bw true 1 true (r8 l), Va sz R] (.tup [])
   [Cw 1 (bad || C4 b ts), Ww 2 (l ++ yt b ts).length, bw true 1 true (r8 (l ++ yt b ts)), Va sz R] := by
 refine aP Tryz.func149 low149 (by simp [c149]) ?_
 simp only [c149]
 unfold fZo at hf
 obtain ⟨l1, e1⟩ : ∃ l1, l1 = l ++ ez (zz b) := ⟨_, rfl⟩
 obtain ⟨b1, d1⟩ : ∃ b1, b1 = (bad || decide (b < (-900) ∨ 900 < b)) := ⟨_, rfl⟩
 obtain ⟨l2, e2⟩ : ∃ l2, l2 = l1 ++ cZ u1 ts := ⟨_, rfl⟩
 obtain ⟨b2, d2⟩ : ∃ b2, b2 = (b1 || fO Bd 700 ts) := ⟨_, rfl⟩
 have el : l ++ yt b ts = l2 := by rw [e2, e1]; simp only [yt, List.append_assoc]
 have eb : (bad || C4 b ts) = b2 := by rw [d2, d1]; simp only [C4, Bool.or_assoc]
 rw [el] at hl
 rw [el, eb]
 have g1 : l1.length ≤ l2.length := by rw [e2, List.length_append]; omega
 have g0 : l.length ≤ l1.length := by rw [e1, List.length_append]; omega
 have h1 := rW l bad sz R j b (-900) 900 hR0 hf.1 (by omega)
 rw [← e1, ← d1] at h1
 have h2 := Ah l1 b1 sz R (j + 1) 700 ts hR1 (by omega) hf.2.1 hf.2.2 (by rw [← e2]; omega)
 rw [← e2, ← d2] at h2
 clear e1 e2 d1 d2 el eb
 refine wk [170] [(171, [], [0, 1, 2, 3, 4])] ji ?_
 exact fH [0, 1, 2, 3] ji
def vu (ss : List (Int × Int × Int)) : List UInt8 := cZ uX ss
def Av (most : Nat) (ss : List (Int × Int × Int)) : Bool := fO Ba most ss
def C7 (ss : List (Int × Int × Int)) : Prop := (ss.length ≤ 140737488351232 ∧ ∀ x ∈ ss, Ch x)
set_option maxHeartbeats 2000000 in
theorem AF (l : List UInt8) (bad : Bool) (sz : Nat) (R : List D) (j : Nat) (most : Nat) (ss : List (Int × Int × Int))  (hR0 : R[j]? = some (L (ed ss))) (hm : most < 1000000) (hf : C7 ss) (hl : (l ++ vu ss).length ≤ 1099511627776) :
  aa Tryz.prog 150 [.ptr 0 0 0 1, .ptr 3 0 j 1, .int .i64 most] [Cw 1 bad, Ww 2 l.length, bw true 1 true (r8 l), Va sz R] (.tup [])
   [Cw 1 (bad || Av most ss), Ww 2 (l ++ vu ss).length, bw true 1 true (r8 (l ++ vu ss)), Va sz R] := by
 refine aP Tryz.func150 low150 (by simp [c150]) ?_
 simp only [c150]
 unfold C7 at hf
 obtain ⟨l1, e1⟩ : ∃ l1, l1 = l ++ cZ uX ss := ⟨_, rfl⟩
 obtain ⟨b1, d1⟩ : ∃ b1, b1 = (bad || fO Ba most ss) := ⟨_, rfl⟩
 have el : l ++ vu ss = l1 := by rw [e1]; simp only [vu, List.append_assoc]
 have eb : (bad || Av most ss) = b1 := by rw [d1]; simp only [Av, Bool.or_assoc]
 rw [el] at hl
 rw [el, eb]
 have g0 : l.length ≤ l1.length := by rw [e1, List.length_append]; omega
 have h1 := Ab l bad sz R j most ss hR0 (by omega) hf.1 hf.2 (by rw [← e1]; omega)
 rw [← e1, ← d1] at h1
 clear e1 d1 el eb
 refine wk [] [(173, [], [0, 1, 2, 3, 4])] ji ?_
 exact fH [0, 1, 2, 3] ji
def wW (s : Se) : List UInt8 := yt s.base s.turns ++ (vu s.shifts ++ (cZ uU s.off ++ (ez (uI s.before) ++ (ez (uI s.after)))))
def CZ (s : Se) : Bool := C4 s.base s.turns || (Av 10 s.shifts || (fO A7 60 s.off || (decide (240 < uI s.before) || (decide (240 < uI s.after)))))
def Cg (s : Se) : Prop := fZo s.base s.turns ∧ (C7 s.shifts ∧ ((s.off.length ≤ 140737488351232 ∧ ∀ x ∈ s.off, Cc x) ∧ (iY s.before ∧ (iY s.after))))
set_option maxHeartbeats 2000000 in
theorem cSe_w (l : List UInt8) (bad : Bool) (sz : Nat) (R : List D) (j : Nat) (s : Se)  (hR0 : R[j]? = some (.int .i64 s.base)) (hR1 : R[j + 1]? = some (L (bz .i64 .i64 s.turns))) (hR2 : R[j + 2]? = some (L (ed s.shifts))) (hR3 : R[j + 3]? = some (L (ar .i64 s.off))) (hR4 : R[j + 4]? = some (.int .i64 s.before)) (hR5 : R[j + 5]? = some (.int .i64 s.after)) (hf : Cg s) (hl : (l ++ wW s).length ≤ 1099511627776) :
  aa Tryz.prog 122 [.ptr 0 0 0 1, .ptr 3 0 j 1] [Cw 1 bad, Ww 2 l.length, bw true 1 true (r8 l), Va sz R] (.tup [])
   [Cw 1 (bad || CZ s), Ww 2 (l ++ wW s).length, bw true 1 true (r8 (l ++ wW s)), Va sz R] := by
 refine aP Tryz.func122 low122 (by simp [c122]) ?_
 simp only [c122]
 unfold Cg at hf
 obtain ⟨l1, e1⟩ : ∃ l1, l1 = l ++ yt s.base s.turns := ⟨_, rfl⟩
 obtain ⟨b1, d1⟩ : ∃ b1, b1 = (bad || C4 s.base s.turns) := ⟨_, rfl⟩
 obtain ⟨l2, e2⟩ : ∃ l2, l2 = l1 ++ vu s.shifts := ⟨_, rfl⟩
 obtain ⟨b2, d2⟩ : ∃ b2, b2 = (b1 || Av 10 s.shifts) := ⟨_, rfl⟩
 obtain ⟨l3, e3⟩ : ∃ l3, l3 = l2 ++ cZ uU s.off := ⟨_, rfl⟩
 obtain ⟨b3, d3⟩ : ∃ b3, b3 = (b2 || fO A7 60 s.off) := ⟨_, rfl⟩
 obtain ⟨l4, e4⟩ : ∃ l4, l4 = l3 ++ ez (uI s.before) := ⟨_, rfl⟩
 obtain ⟨b4, d4⟩ : ∃ b4, b4 = (b3 || decide (240 < uI s.before)) := ⟨_, rfl⟩
 obtain ⟨l5, e5⟩ : ∃ l5, l5 = l4 ++ ez (uI s.after) := ⟨_, rfl⟩
 obtain ⟨b5, d5⟩ : ∃ b5, b5 = (b4 || decide (240 < uI s.after)) := ⟨_, rfl⟩
 have el : l ++ wW s = l5 := by rw [e5, e4, e3, e2, e1]; simp only [wW, List.append_assoc]
 have eb : (bad || CZ s) = b5 := by rw [d5, d4, d3, d2, d1]; simp only [CZ, Bool.or_assoc]
 rw [el] at hl
 rw [el, eb]
 have g4 : l4.length ≤ l5.length := by rw [e5, List.length_append]; omega
 have g3 : l3.length ≤ l4.length := by rw [e4, List.length_append]; omega
 have g2 : l2.length ≤ l3.length := by rw [e3, List.length_append]; omega
 have g1 : l1.length ≤ l2.length := by rw [e2, List.length_append]; omega
 have g0 : l.length ≤ l1.length := by rw [e1, List.length_append]; omega
 have h1 := cZo_w l bad sz R j s.base s.turns hR0 hR1 hf.1 (by rw [← e1]; omega)
 rw [← e1, ← d1] at h1
 have h2 := AF l1 b1 sz R (j + 2) 10 s.shifts hR2 (by omega) hf.2.1 (by rw [← e2]; omega)
 rw [← e2, ← d2] at h2
 have h3 := zS l2 b2 sz R (j + 3) 60 s.off hR3 (by omega) hf.2.2.1.1 hf.2.2.1.2 (by rw [← e3]; omega)
 rw [← e3, ← d3] at h3
 have h4 := gZ l3 b3 sz R (j + 4) 240 s.before hR4 hf.2.2.2.1 (by omega) (by omega)
 rw [← e4, ← d4] at h4
 have h5 := gZ l4 b4 sz R (j + 5) 240 s.after hR5 hf.2.2.2.2 (by omega) (by omega)
 rw [← e5, ← d5] at h5
 clear e1 e2 e3 e4 e5 d1 d2 d3 d4 d5 el eb
 refine wk [149, 150, 131] [(151, [], [0, 1, 2, 3, 4])] ji ?_
 exact fH [0, 1, 2, 3] ji
def uZ (xs : List Int) : List UInt8 := cZ uY xs
def yr (xs : List Int) : Bool := fO Bb 400 xs
def Cj (xs : List Int) : Prop := (xs.length ≤ 140737488351232 ∧ ∀ x ∈ xs, Ci x)
set_option maxHeartbeats 2000000 in
theorem wQ (l : List UInt8) (bad : Bool) (sz : Nat) (R : List D) (j : Nat) (xs : List Int)  (hR0 : R[j]? = some (L (ar .i64 xs))) (hf : Cj xs) (hl : (l ++ uZ xs).length ≤ 1099511627776) :
  aa Tryz.prog 177 [.ptr 0 0 0 1, .ptr 3 0 j 1] [Cw 1 bad, Ww 2 l.length, bw true 1 true (r8 l), Va sz R] (.tup [])
   [Cw 1 (bad || yr xs), Ww 2 (l ++ uZ xs).length, bw true 1 true (r8 (l ++ uZ xs)), Va sz R] := by
 refine aP Tryz.func177 low177 (by simp [c177]) ?_
 simp only [c177]
 unfold Cj at hf
 obtain ⟨l1, e1⟩ : ∃ l1, l1 = l ++ cZ uY xs := ⟨_, rfl⟩
 obtain ⟨b1, d1⟩ : ∃ b1, b1 = (bad || fO Bb 400 xs) := ⟨_, rfl⟩
 have el : l ++ uZ xs = l1 := by rw [e1]; simp only [uZ, List.append_assoc]
 have eb : (bad || yr xs) = b1 := by rw [d1]; simp only [yr, Bool.or_assoc]
 rw [el] at hl
 rw [el, eb]
 have g0 : l.length ≤ l1.length := by rw [e1, List.length_append]; omega
 have h1 := Ad l bad sz R j 400 xs hR0 (by omega) hf.1 hf.2 (by rw [← e1]; omega)
 rw [← e1, ← d1] at h1
 clear e1 d1 el eb
 refine wk [] [(151, [], [0, 1, 2, 3, 4])] ji ?_
 exact fH [0, 1, 2, 3] ji
def wV (r : Ru) : List UInt8 := ez (uI r.freq) ++ (ez (uI r.interval) ++ (ez (uI r.count) ++ (ez (zz r.til) ++ (uZ r.bm ++ (uZ r.bmd ++ (cZ uQ r.bd ++ (uZ r.bsp ++ (ez (uI r.start)))))))))
def CY (r : Ru) : Bool := decide (4 < uI r.freq) || (decide (999 < uI r.interval) || (decide (5000 < uI r.count) || (yr r.bm || (yr r.bmd || (fO A4 400 r.bd || (yr r.bsp || (decide (6 < uI r.start))))))))
def Cf (r : Ru) : Prop := iY r.freq ∧ (iY r.interval ∧ (iY r.count ∧ (iY r.til ∧ (Cj r.bm ∧ (Cj r.bmd ∧ ((r.bd.length ≤ 140737488351232 ∧ ∀ x ∈ r.bd, B8 x) ∧ (Cj r.bsp ∧ (iY r.start))))))))
set_option maxHeartbeats 2000000 in
theorem cRu_w (l : List UInt8) (bad : Bool) (sz : Nat) (R : List D) (j : Nat) (r : Ru)  (hR0 : R[j]? = some (.int .i64 r.freq)) (hR1 : R[j + 1]? = some (.int .i64 r.interval)) (hR2 : R[j + 2]? = some (.int .i64 r.count)) (hR3 : R[j + 3]? = some (.int .i64 r.til)) (hR4 : R[j + 4]? = some (L (ar .i64 r.bm))) (hR5 : R[j + 5]? = some (L (ar .i64 r.bmd))) (hR6 : R[j + 6]? = some (L (bz .i64 .i64 r.bd))) (hR7 : R[j + 7]? = some (L (ar .i64 r.bsp))) (hR8 : R[j + 8]? = some (.int .i64 r.start)) (hf : Cf r) (hl : (l ++ wV r).length ≤ 1099511627776) :
  aa Tryz.prog 154 [.ptr 0 0 0 1, .ptr 3 0 j 1] [Cw 1 bad, Ww 2 l.length, bw true 1 true (r8 l), Va sz R] (.tup [])
   [Cw 1 (bad || CY r), Ww 2 (l ++ wV r).length, bw true 1 true (r8 (l ++ wV r)), Va sz R] := by
 refine aP Tryz.func154 low154 (by simp [c154]) ?_
 simp only [c154]
 unfold Cf at hf
 obtain ⟨l1, e1⟩ : ∃ l1, l1 = l ++ ez (uI r.freq) := ⟨_, rfl⟩
 obtain ⟨b1, d1⟩ : ∃ b1, b1 = (bad || decide (4 < uI r.freq)) := ⟨_, rfl⟩
 obtain ⟨l2, e2⟩ : ∃ l2, l2 = l1 ++ ez (uI r.interval) := ⟨_, rfl⟩
 obtain ⟨b2, d2⟩ : ∃ b2, b2 = (b1 || decide (999 < uI r.interval)) := ⟨_, rfl⟩
 obtain ⟨l3, e3⟩ : ∃ l3, l3 = l2 ++ ez (uI r.count) := ⟨_, rfl⟩
 obtain ⟨b3, d3⟩ : ∃ b3, b3 = (b2 || decide (5000 < uI r.count)) := ⟨_, rfl⟩
 obtain ⟨l4, e4⟩ : ∃ l4, l4 = l3 ++ ez (zz r.til) := ⟨_, rfl⟩
 obtain ⟨l5, e5⟩ : ∃ l5, l5 = l4 ++ uZ r.bm := ⟨_, rfl⟩
 obtain ⟨b5, d5⟩ : ∃ b5, b5 = (b3 || yr r.bm) := ⟨_, rfl⟩
 obtain ⟨l6, e6⟩ : ∃ l6, l6 = l5 ++ uZ r.bmd := ⟨_, rfl⟩
 obtain ⟨b6, d6⟩ : ∃ b6, b6 = (b5 || yr r.bmd) := ⟨_, rfl⟩
 obtain ⟨l7, e7⟩ : ∃ l7, l7 = l6 ++ cZ uQ r.bd := ⟨_, rfl⟩
 obtain ⟨b7, d7⟩ : ∃ b7, b7 = (b6 || fO A4 400 r.bd) := ⟨_, rfl⟩
 obtain ⟨l8, e8⟩ : ∃ l8, l8 = l7 ++ uZ r.bsp := ⟨_, rfl⟩
 obtain ⟨b8, d8⟩ : ∃ b8, b8 = (b7 || yr r.bsp) := ⟨_, rfl⟩
 obtain ⟨l9, e9⟩ : ∃ l9, l9 = l8 ++ ez (uI r.start) := ⟨_, rfl⟩
 obtain ⟨b9, d9⟩ : ∃ b9, b9 = (b8 || decide (6 < uI r.start)) := ⟨_, rfl⟩
 have el : l ++ wV r = l9 := by rw [e9, e8, e7, e6, e5, e4, e3, e2, e1]; simp only [wV, List.append_assoc]
 have eb : (bad || CY r) = b9 := by rw [d9, d8, d7, d6, d5, d3, d2, d1]; simp only [CY, Bool.or_assoc]
 rw [el] at hl
 rw [el, eb]
 have g8 : l8.length ≤ l9.length := by rw [e9, List.length_append]; omega
 have g7 : l7.length ≤ l8.length := by rw [e8, List.length_append]; omega
 have g6 : l6.length ≤ l7.length := by rw [e7, List.length_append]; omega
 have g5 : l5.length ≤ l6.length := by rw [e6, List.length_append]; omega
 have g4 : l4.length ≤ l5.length := by rw [e5, List.length_append]; omega
 have g3 : l3.length ≤ l4.length := by rw [e4, List.length_append]; omega
 have g2 : l2.length ≤ l3.length := by rw [e3, List.length_append]; omega
 have g1 : l1.length ≤ l2.length := by rw [e2, List.length_append]; omega
 have g0 : l.length ≤ l1.length := by rw [e1, List.length_append]; omega
 have h1 := gZ l bad sz R j 4 r.freq hR0 hf.1 (by omega) (by omega)
 rw [← e1, ← d1] at h1
 have h2 := gZ l1 b1 sz R (j + 1) 999 r.interval hR1 hf.2.1 (by omega) (by omega)
 rw [← e2, ← d2] at h2
 have h3 := gZ l2 b2 sz R (j + 2) 5000 r.count hR2 hf.2.2.1 (by omega) (by omega)
 rw [← e3, ← d3] at h3
 have h4 := gJ l3 b3 sz R (j + 3) r.til hR3 hf.2.2.2.1 (by omega)
 rw [← e4] at h4
 have h5 := wQ l4 b3 sz R (j + 4) r.bm hR4 hf.2.2.2.2.1 (by rw [← e5]; omega)
 rw [← e5, ← d5] at h5
 have h6 := wQ l5 b5 sz R (j + 5) r.bmd hR5 hf.2.2.2.2.2.1 (by rw [← e6]; omega)
 rw [← e6, ← d6] at h6
 have h7 := zH l6 b6 sz R (j + 6) 400 r.bd hR6 (by omega) hf.2.2.2.2.2.2.1.1 hf.2.2.2.2.2.2.1.2 (by rw [← e7]; omega)
 rw [← e7, ← d7] at h7
 have h8 := wQ l7 b7 sz R (j + 7) r.bsp hR7 hf.2.2.2.2.2.2.2.1 (by rw [← e8]; omega)
 rw [← e8, ← d8] at h8
 have h9 := gZ l8 b8 sz R (j + 8) 6 r.start hR8 hf.2.2.2.2.2.2.2.2 (by omega) (by omega)
 rw [← e9, ← d9] at h9
 clear e1 e2 e3 e4 e5 e6 e7 e8 e9 d1 d2 d3 d5 d6 d7 d8 d9 el eb
 refine wk [131, 87, 177] [(178, [], [0, 1, 2, 3, 4])] ji ?_
 exact fH [0, 1, 2, 3] ji
def AO (e : Ev) : List UInt8 := ez (zz e.start) ++ (ez (uI e.long) ++ (vA e.again ++ (vA e.world)))
def xE0 (e : Ev) : Bool := decide (10080 < uI e.long)
def fE0 (e : Ev) : Prop := iY e.start ∧ (iY e.long ∧ (True ∧ (True)))
set_option maxHeartbeats 2000000 in
theorem cE0_w (l : List UInt8) (bad : Bool) (sz : Nat) (R : List D) (j : Nat) (e : Ev) (ha : e.again = false) (hR0 : R[j]? = some (.int .i64 e.start)) (hR1 : R[j + 1]? = some (.int .i64 e.long)) (hR2 : R[j + 2]? = some (.bool e.world)) (hR3 : R[j + 3]? = some (.bool e.again)) (hf : fE0 e) (hl : (l ++ AO e).length ≤ 1099511627776) :
  aa Tryz.prog 125 [.ptr 0 0 0 1, .ptr 3 0 j 1] [Cw 1 bad, Ww 2 l.length, bw true 1 true (r8 l), Va sz R] (.tup [])
   [Cw 1 (bad || xE0 e), Ww 2 (l ++ AO e).length, bw true 1 true (r8 (l ++ AO e)), Va sz R] := by
 refine aP Tryz.func125 low125 (by simp [c125]) ?_
 simp only [c125]
 unfold fE0 at hf
 obtain ⟨l1, e1⟩ : ∃ l1, l1 = l ++ ez (zz e.start) := ⟨_, rfl⟩
 obtain ⟨l2, e2⟩ : ∃ l2, l2 = l1 ++ ez (uI e.long) := ⟨_, rfl⟩
 obtain ⟨b2, d2⟩ : ∃ b2, b2 = (bad || decide (10080 < uI e.long)) := ⟨_, rfl⟩
 obtain ⟨l3, e3⟩ : ∃ l3, l3 = l2 ++ vA e.again := ⟨_, rfl⟩
 obtain ⟨l4, e4⟩ : ∃ l4, l4 = l3 ++ vA e.world := ⟨_, rfl⟩
 have el : l ++ AO e = l4 := by rw [e4, e3, e2, e1]; simp only [AO, List.append_assoc]
 have eb : (bad || xE0 e) = b2 := by rw [d2]; simp only [xE0, Bool.or_assoc]
 rw [el] at hl
 rw [el, eb]
 have g3 : l3.length ≤ l4.length := by rw [e4, List.length_append]; omega
 have g2 : l2.length ≤ l3.length := by rw [e3, List.length_append]; omega
 have g1 : l1.length ≤ l2.length := by rw [e2, List.length_append]; omega
 have g0 : l.length ≤ l1.length := by rw [e1, List.length_append]; omega
 have h1 := gJ l bad sz R j e.start hR0 hf.1 (by omega)
 rw [← e1] at h1
 have h2 := gZ l1 bad sz R (j + 1) 10080 e.long hR1 hf.2.1 (by omega) (by omega)
 rw [← e2, ← d2] at h2
 have h3 := tL l2 b2 sz R (j + 3) e.again hR3 (by omega)
 rw [← e3] at h3
 have h4 := tL l3 b2 sz R (j + 2) e.world hR2 (by omega)
 rw [← e4] at h4
 clear e1 e2 e3 e4 d2 el eb
 rw [ha] at hR3
 refine wk [87, 131, 153] [] (an ji hR3) ?_
 exact fH [0, 1, 2, 3] ji
def AP (e : Ev) : List UInt8 := ez (zz e.start) ++ (ez (uI e.long) ++ (vA e.again ++ (wV e.rule ++ (cZ uS e.ex ++ (cZ uW e.plus ++ (cZ uP e.ch))))))
def xE1 (e : Ev) : Bool := decide (10080 < uI e.long) || (CY e.rule || (fO A5 50 e.ex || (fO A9 50 e.plus || (fO A3 50 e.ch))))
def fE1 (e : Ev) : Prop := iY e.start ∧ (iY e.long ∧ (True ∧ (Cf e.rule ∧ ((e.ex.length ≤ 140737488351232 ∧ ∀ x ∈ e.ex, Ca x) ∧ ((e.plus.length ≤ 140737488351232 ∧ ∀ x ∈ e.plus, Ce x) ∧ ((e.ch.length ≤ 140737488351232 ∧ ∀ x ∈ e.ch, B7 x)))))))
set_option maxHeartbeats 2000000 in
theorem cE1_w (l : List UInt8) (bad : Bool) (sz : Nat) (R : List D) (j : Nat) (e : Ev) (ha : e.again = true) (hR0 : R[j]? = some (.int .i64 e.start)) (hR1 : R[j + 1]? = some (.int .i64 e.long)) (hR3 : R[j + 3]? = some (.bool e.again)) (hR4 : R[j + 4]? = some (.int .i64 e.rule.freq)) (hR5 : R[j + 5]? = some (.int .i64 e.rule.interval)) (hR6 : R[j + 6]? = some (.int .i64 e.rule.count)) (hR7 : R[j + 7]? = some (.int .i64 e.rule.til)) (hR8 : R[j + 8]? = some (L (ar .i64 e.rule.bm))) (hR9 : R[j + 9]? = some (L (ar .i64 e.rule.bmd))) (hR10 : R[j + 10]? = some (L (bz .i64 .i64 e.rule.bd))) (hR11 : R[j + 11]? = some (L (ar .i64 e.rule.bsp))) (hR12 : R[j + 12]? = some (.int .i64 e.rule.start)) (hR13 : R[j + 13]? = some (L (ar .i64 e.ex))) (hR14 : R[j + 14]? = some (L (ar .i64 e.plus))) (hR15 : R[j + 15]? = some (L (ed e.ch))) (hf : fE1 e) (hl : (l ++ AP e).length ≤ 1099511627776) :
  aa Tryz.prog 125 [.ptr 0 0 0 1, .ptr 3 0 j 1] [Cw 1 bad, Ww 2 l.length, bw true 1 true (r8 l), Va sz R] (.tup [])
   [Cw 1 (bad || xE1 e), Ww 2 (l ++ AP e).length, bw true 1 true (r8 (l ++ AP e)), Va sz R] := by
 refine aP Tryz.func125 low125 (by simp [c125]) ?_
 simp only [c125]
 unfold fE1 at hf
 obtain ⟨l1, e1⟩ : ∃ l1, l1 = l ++ ez (zz e.start) := ⟨_, rfl⟩
 obtain ⟨l2, e2⟩ : ∃ l2, l2 = l1 ++ ez (uI e.long) := ⟨_, rfl⟩
 obtain ⟨b2, d2⟩ : ∃ b2, b2 = (bad || decide (10080 < uI e.long)) := ⟨_, rfl⟩
 obtain ⟨l3, e3⟩ : ∃ l3, l3 = l2 ++ vA e.again := ⟨_, rfl⟩
 obtain ⟨l4, e4⟩ : ∃ l4, l4 = l3 ++ wV e.rule := ⟨_, rfl⟩
 obtain ⟨b4, d4⟩ : ∃ b4, b4 = (b2 || CY e.rule) := ⟨_, rfl⟩
 obtain ⟨l5, e5⟩ : ∃ l5, l5 = l4 ++ cZ uS e.ex := ⟨_, rfl⟩
 obtain ⟨b5, d5⟩ : ∃ b5, b5 = (b4 || fO A5 50 e.ex) := ⟨_, rfl⟩
 obtain ⟨l6, e6⟩ : ∃ l6, l6 = l5 ++ cZ uW e.plus := ⟨_, rfl⟩
 obtain ⟨b6, d6⟩ : ∃ b6, b6 = (b5 || fO A9 50 e.plus) := ⟨_, rfl⟩
 obtain ⟨l7, e7⟩ : ∃ l7, l7 = l6 ++ cZ uP e.ch := ⟨_, rfl⟩
 obtain ⟨b7, d7⟩ : ∃ b7, b7 = (b6 || fO A3 50 e.ch) := ⟨_, rfl⟩
 have el : l ++ AP e = l7 := by rw [e7, e6, e5, e4, e3, e2, e1]; simp only [AP, List.append_assoc]
 have eb : (bad || xE1 e) = b7 := by rw [d7, d6, d5, d4, d2]; simp only [xE1, Bool.or_assoc]
 rw [el] at hl
 rw [el, eb]
 have g6 : l6.length ≤ l7.length := by rw [e7, List.length_append]; omega
 have g5 : l5.length ≤ l6.length := by rw [e6, List.length_append]; omega
 have g4 : l4.length ≤ l5.length := by rw [e5, List.length_append]; omega
 have g3 : l3.length ≤ l4.length := by rw [e4, List.length_append]; omega
 have g2 : l2.length ≤ l3.length := by rw [e3, List.length_append]; omega
 have g1 : l1.length ≤ l2.length := by rw [e2, List.length_append]; omega
 have g0 : l.length ≤ l1.length := by rw [e1, List.length_append]; omega
 have h1 := gJ l bad sz R j e.start hR0 hf.1 (by omega)
 rw [← e1] at h1
 have h2 := gZ l1 bad sz R (j + 1) 10080 e.long hR1 hf.2.1 (by omega) (by omega)
 rw [← e2, ← d2] at h2
 have h3 := tL l2 b2 sz R (j + 3) e.again hR3 (by omega)
 rw [← e3] at h3
 have h4 := cRu_w l3 b2 sz R (j + 4) e.rule hR4 hR5 hR6 hR7 hR8 hR9 hR10 hR11 hR12 hf.2.2.2.1 (by rw [← e4]; omega)
 rw [← e4, ← d4] at h4
 have h5 := zN l4 b4 sz R (j + 13) 50 e.ex hR13 (by omega) hf.2.2.2.2.1.1 hf.2.2.2.2.1.2 (by rw [← e5]; omega)
 rw [← e5, ← d5] at h5
 have h6 := zX l5 b5 sz R (j + 14) 50 e.plus hR14 (by omega) hf.2.2.2.2.2.1.1 hf.2.2.2.2.2.1.2 (by rw [← e6]; omega)
 rw [← e6, ← d6] at h6
 have h7 := zF l6 b6 sz R (j + 15) 50 e.ch hR15 (by omega) hf.2.2.2.2.2.2.1 hf.2.2.2.2.2.2.2 (by rw [← e7]; omega)
 rw [← e7, ← d7] at h7
 clear e1 e2 e3 e4 e5 e6 e7 d2 d4 d5 d6 d7 el eb
 rw [ha] at hR3
 refine wk [87, 131, 153, 154] [(127, [], [0, 1, 2, 3, 4]), (157, [], [0, 1, 2, 3, 4])] (an ji hR3) ?_
 exact fH [0, 1, 2, 3] ji
def wT (e : Ev) : List UInt8 := if e.again = true then AP e else AO e
def C9 (e : Ev) : Bool := if e.again = true then xE1 e else xE0 e
def fEv (e : Ev) : Prop := fE0 e ∧ fE1 e
def wU (q : Qu) : List UInt8 := ez (zz q.a) ++ (ez (zz q.b) ++ (ez (uI q.long) ++ (ez (uI q.grid) ++ (cZ uT q.must ++ (cZ u3 q.may ++ (ez (uI q.seats) ++ (cZ uV q.apart ++ (vu q.prefer))))))))
def CX (q : Qu) : Bool := decide (10080 < uI q.long) || (decide (1440 < uI q.grid) || (fO A6 64 q.must || (fO Bf 16 q.may || (decide (100 < uI q.seats) || (fO A8 32 q.apart || (Av 8 q.prefer))))))
def AT (q : Qu) : Prop := iY q.a ∧ (iY q.b ∧ (iY q.long ∧ (iY q.grid ∧ ((q.must.length ≤ 140737488351232 ∧ ∀ x ∈ q.must, Cb x) ∧ ((q.may.length ≤ 140737488351232 ∧ ∀ x ∈ q.may, Cn x) ∧ (iY q.seats ∧ ((q.apart.length ≤ 140737488351232 ∧ ∀ x ∈ q.apart, Cd x) ∧ (C7 q.prefer))))))))
set_option maxHeartbeats 2000000 in
theorem cQu_w (l : List UInt8) (bad : Bool) (sz : Nat) (R : List D) (j : Nat) (q : Qu)  (hR0 : R[j]? = some (.int .i64 q.a)) (hR1 : R[j + 1]? = some (.int .i64 q.b)) (hR2 : R[j + 2]? = some (.int .i64 q.long)) (hR3 : R[j + 3]? = some (.int .i64 q.grid)) (hR4 : R[j + 4]? = some (L (ar .u32 q.must))) (hR5 : R[j + 5]? = some (L (bz .u32 .i64 q.may))) (hR6 : R[j + 6]? = some (.int .i64 q.seats)) (hR7 : R[j + 7]? = some (L (bz .u32 .u32 q.apart))) (hR8 : R[j + 8]? = some (L (ed q.prefer))) (hf : AT q) (hl : (l ++ wU q).length ≤ 1099511627776) :
  aa Tryz.prog 126 [.ptr 0 0 0 1, .ptr 3 0 j 1] [Cw 1 bad, Ww 2 l.length, bw true 1 true (r8 l), Va sz R] (.tup [])
   [Cw 1 (bad || CX q), Ww 2 (l ++ wU q).length, bw true 1 true (r8 (l ++ wU q)), Va sz R] := by
 refine aP Tryz.func126 low126 (by simp [c126]) ?_
 simp only [c126]
 unfold AT at hf
 obtain ⟨l1, e1⟩ : ∃ l1, l1 = l ++ ez (zz q.a) := ⟨_, rfl⟩
 obtain ⟨l2, e2⟩ : ∃ l2, l2 = l1 ++ ez (zz q.b) := ⟨_, rfl⟩
 obtain ⟨l3, e3⟩ : ∃ l3, l3 = l2 ++ ez (uI q.long) := ⟨_, rfl⟩
 obtain ⟨b3, d3⟩ : ∃ b3, b3 = (bad || decide (10080 < uI q.long)) := ⟨_, rfl⟩
 obtain ⟨l4, e4⟩ : ∃ l4, l4 = l3 ++ ez (uI q.grid) := ⟨_, rfl⟩
 obtain ⟨b4, d4⟩ : ∃ b4, b4 = (b3 || decide (1440 < uI q.grid)) := ⟨_, rfl⟩
 obtain ⟨l5, e5⟩ : ∃ l5, l5 = l4 ++ cZ uT q.must := ⟨_, rfl⟩
 obtain ⟨b5, d5⟩ : ∃ b5, b5 = (b4 || fO A6 64 q.must) := ⟨_, rfl⟩
 obtain ⟨l6, e6⟩ : ∃ l6, l6 = l5 ++ cZ u3 q.may := ⟨_, rfl⟩
 obtain ⟨b6, d6⟩ : ∃ b6, b6 = (b5 || fO Bf 16 q.may) := ⟨_, rfl⟩
 obtain ⟨l7, e7⟩ : ∃ l7, l7 = l6 ++ ez (uI q.seats) := ⟨_, rfl⟩
 obtain ⟨b7, d7⟩ : ∃ b7, b7 = (b6 || decide (100 < uI q.seats)) := ⟨_, rfl⟩
 obtain ⟨l8, e8⟩ : ∃ l8, l8 = l7 ++ cZ uV q.apart := ⟨_, rfl⟩
 obtain ⟨b8, d8⟩ : ∃ b8, b8 = (b7 || fO A8 32 q.apart) := ⟨_, rfl⟩
 obtain ⟨l9, e9⟩ : ∃ l9, l9 = l8 ++ vu q.prefer := ⟨_, rfl⟩
 obtain ⟨b9, d9⟩ : ∃ b9, b9 = (b8 || Av 8 q.prefer) := ⟨_, rfl⟩
 have el : l ++ wU q = l9 := by rw [e9, e8, e7, e6, e5, e4, e3, e2, e1]; simp only [wU, List.append_assoc]
 have eb : (bad || CX q) = b9 := by rw [d9, d8, d7, d6, d5, d4, d3]; simp only [CX, Bool.or_assoc]
 rw [el] at hl
 rw [el, eb]
 have g8 : l8.length ≤ l9.length := by rw [e9, List.length_append]; omega
 have g7 : l7.length ≤ l8.length := by rw [e8, List.length_append]; omega
 have g6 : l6.length ≤ l7.length := by rw [e7, List.length_append]; omega
 have g5 : l5.length ≤ l6.length := by rw [e6, List.length_append]; omega
 have g4 : l4.length ≤ l5.length := by rw [e5, List.length_append]; omega
 have g3 : l3.length ≤ l4.length := by rw [e4, List.length_append]; omega
 have g2 : l2.length ≤ l3.length := by rw [e3, List.length_append]; omega
 have g1 : l1.length ≤ l2.length := by rw [e2, List.length_append]; omega
 have g0 : l.length ≤ l1.length := by rw [e1, List.length_append]; omega
 have h1 := gJ l bad sz R j q.a hR0 hf.1 (by omega)
 rw [← e1] at h1
 have h2 := gJ l1 bad sz R (j + 1) q.b hR1 hf.2.1 (by omega)
 rw [← e2] at h2
 have h3 := gZ l2 bad sz R (j + 2) 10080 q.long hR2 hf.2.2.1 (by omega) (by omega)
 rw [← e3, ← d3] at h3
 have h4 := gZ l3 b3 sz R (j + 3) 1440 q.grid hR3 hf.2.2.2.1 (by omega) (by omega)
 rw [← e4, ← d4] at h4
 have h5 := zQ l4 b4 sz R (j + 4) 64 q.must hR4 (by omega) hf.2.2.2.2.1.1 hf.2.2.2.2.1.2 (by rw [← e5]; omega)
 rw [← e5, ← d5] at h5
 have h6 := An l5 b5 sz R (j + 5) 16 q.may hR5 (by omega) hf.2.2.2.2.2.1.1 hf.2.2.2.2.2.1.2 (by rw [← e6]; omega)
 rw [← e6, ← d6] at h6
 have h7 := gZ l6 b6 sz R (j + 6) 100 q.seats hR6 hf.2.2.2.2.2.2.1 (by omega) (by omega)
 rw [← e7, ← d7] at h7
 have h8 := zV l7 b7 sz R (j + 7) 32 q.apart hR7 (by omega) hf.2.2.2.2.2.2.2.1.1 hf.2.2.2.2.2.2.2.1.2 (by rw [← e8]; omega)
 rw [← e8, ← d8] at h8
 have h9 := AF l8 b8 sz R (j + 8) 8 q.prefer hR8 (by omega) hf.2.2.2.2.2.2.2.2 (by rw [← e9]; omega)
 rw [← e9, ← d9] at h9
 clear e1 e2 e3 e4 e5 e6 e7 e8 e9 d3 d4 d5 d6 d7 d8 d9 el eb
 refine wk [87, 131, 150] [(159, [], [0, 1, 2, 3, 4]), (161, [], [0, 1, 2, 3, 4]), (163, [], [0, 1, 2, 3, 4])] ji ?_
 exact fH [0, 1, 2, 3] ji
def nO (p : Po) : List UInt8 := ez (uI p.id) ++ (ez (uI p.owner) ++ (wU p.qu ++ (cZ u0 p.slots ++ (cZ u2 p.votes ++ (ez (zz p.til) ++ (ez (uI p.state) ++ (ez (uI p.winner))))))))
def tn (p : Po) : Bool := CX p.qu || (fO Bc 40 p.slots || (fO Be 4096 p.votes || (decide (4 < uI p.state) || (decide (40 < uI p.winner)))))
def AS (p : Po) : Prop := (0 ≤ p.id ∧ p.id ≤ 4294967295) ∧ ((0 ≤ p.owner ∧ p.owner ≤ 4294967295) ∧ (AT p.qu ∧ ((p.slots.length ≤ 140737488351232 ∧ ∀ x ∈ p.slots, Ck x) ∧ ((p.votes.length ≤ 140737488351232 ∧ ∀ x ∈ p.votes, Cm x) ∧ (iY p.til ∧ (iY p.state ∧ (iY p.winner)))))))
set_option maxHeartbeats 2000000 in
theorem cPo_w (l : List UInt8) (bad : Bool) (sz : Nat) (R : List D) (j : Nat) (p : Po)  (hR0 : R[j]? = some (.int .u32 p.id)) (hR1 : R[j + 1]? = some (.int .u32 p.owner)) (hR2 : R[j + 2]? = some (.int .i64 p.qu.a)) (hR3 : R[j + 3]? = some (.int .i64 p.qu.b)) (hR4 : R[j + 4]? = some (.int .i64 p.qu.long)) (hR5 : R[j + 5]? = some (.int .i64 p.qu.grid)) (hR6 : R[j + 6]? = some (L (ar .u32 p.qu.must))) (hR7 : R[j + 7]? = some (L (bz .u32 .i64 p.qu.may))) (hR8 : R[j + 8]? = some (.int .i64 p.qu.seats)) (hR9 : R[j + 9]? = some (L (bz .u32 .u32 p.qu.apart))) (hR10 : R[j + 10]? = some (L (ed p.qu.prefer))) (hR11 : R[j + 11]? = some (L (ar .i64 p.slots))) (hR12 : R[j + 12]? = some (L (bz .u32 .i64 p.votes))) (hR13 : R[j + 13]? = some (.int .i64 p.til)) (hR14 : R[j + 14]? = some (.int .i64 p.state)) (hR15 : R[j + 15]? = some (.int .i64 p.winner)) (hf : AS p) (hl : (l ++ nO p).length ≤ 1099511627776) :
  aa Tryz.prog 91 [.ptr 0 0 0 1, .ptr 3 0 j 1] [Cw 1 bad, Ww 2 l.length, bw true 1 true (r8 l), Va sz R] (.tup [])
   [Cw 1 (bad || tn p), Ww 2 (l ++ nO p).length, bw true 1 true (r8 (l ++ nO p)), Va sz R] := by
 refine aP Tryz.func91 low91 (by simp [c91]) ?_
 simp only [c91]
 unfold AS at hf
 obtain ⟨l1, e1⟩ : ∃ l1, l1 = l ++ ez (uI p.id) := ⟨_, rfl⟩
 obtain ⟨l2, e2⟩ : ∃ l2, l2 = l1 ++ ez (uI p.owner) := ⟨_, rfl⟩
 obtain ⟨l3, e3⟩ : ∃ l3, l3 = l2 ++ wU p.qu := ⟨_, rfl⟩
 obtain ⟨b3, d3⟩ : ∃ b3, b3 = (bad || CX p.qu) := ⟨_, rfl⟩
 obtain ⟨l4, e4⟩ : ∃ l4, l4 = l3 ++ cZ u0 p.slots := ⟨_, rfl⟩
 obtain ⟨b4, d4⟩ : ∃ b4, b4 = (b3 || fO Bc 40 p.slots) := ⟨_, rfl⟩
 obtain ⟨l5, e5⟩ : ∃ l5, l5 = l4 ++ cZ u2 p.votes := ⟨_, rfl⟩
 obtain ⟨b5, d5⟩ : ∃ b5, b5 = (b4 || fO Be 4096 p.votes) := ⟨_, rfl⟩
 obtain ⟨l6, e6⟩ : ∃ l6, l6 = l5 ++ ez (zz p.til) := ⟨_, rfl⟩
 obtain ⟨l7, e7⟩ : ∃ l7, l7 = l6 ++ ez (uI p.state) := ⟨_, rfl⟩
 obtain ⟨b7, d7⟩ : ∃ b7, b7 = (b5 || decide (4 < uI p.state)) := ⟨_, rfl⟩
 obtain ⟨l8, e8⟩ : ∃ l8, l8 = l7 ++ ez (uI p.winner) := ⟨_, rfl⟩
 obtain ⟨b8, d8⟩ : ∃ b8, b8 = (b7 || decide (40 < uI p.winner)) := ⟨_, rfl⟩
 have el : l ++ nO p = l8 := by rw [e8, e7, e6, e5, e4, e3, e2, e1]; simp only [nO, List.append_assoc]
 have eb : (bad || tn p) = b8 := by rw [d8, d7, d5, d4, d3]; simp only [tn, Bool.or_assoc]
 rw [el] at hl
 rw [el, eb]
 have g7 : l7.length ≤ l8.length := by rw [e8, List.length_append]; omega
 have g6 : l6.length ≤ l7.length := by rw [e7, List.length_append]; omega
 have g5 : l5.length ≤ l6.length := by rw [e6, List.length_append]; omega
 have g4 : l4.length ≤ l5.length := by rw [e5, List.length_append]; omega
 have g3 : l3.length ≤ l4.length := by rw [e4, List.length_append]; omega
 have g2 : l2.length ≤ l3.length := by rw [e3, List.length_append]; omega
 have g1 : l1.length ≤ l2.length := by rw [e2, List.length_append]; omega
 have g0 : l.length ≤ l1.length := by rw [e1, List.length_append]; omega
 have h1 := kg l bad sz R j p.id hR0 hf.1 (by omega)
 rw [← e1] at h1
 have h2 := kg l1 bad sz R (j + 1) p.owner hR1 hf.2.1 (by omega)
 rw [← e2] at h2
 have h3 := cQu_w l2 bad sz R (j + 2) p.qu hR2 hR3 hR4 hR5 hR6 hR7 hR8 hR9 hR10 hf.2.2.1 (by rw [← e3]; omega)
 rw [← e3, ← d3] at h3
 have h4 := Af l3 b3 sz R (j + 11) 40 p.slots hR11 (by omega) hf.2.2.2.1.1 hf.2.2.2.1.2 (by rw [← e4]; omega)
 rw [← e4, ← d4] at h4
 have h5 := Al l4 b4 sz R (j + 12) 4096 p.votes hR12 (by omega) hf.2.2.2.2.1.1 hf.2.2.2.2.1.2 (by rw [← e5]; omega)
 rw [← e5, ← d5] at h5
 have h6 := gJ l5 b5 sz R (j + 13) p.til hR13 hf.2.2.2.2.2.1 (by omega)
 rw [← e6] at h6
 have h7 := gZ l6 b5 sz R (j + 14) 4 p.state hR14 hf.2.2.2.2.2.2.1 (by omega) (by omega)
 rw [← e7, ← d7] at h7
 have h8 := gZ l7 b7 sz R (j + 15) 40 p.winner hR15 hf.2.2.2.2.2.2.2 (by omega) (by omega)
 rw [← e8, ← d8] at h8
 clear e1 e2 e3 e4 e5 e6 e7 e8 d3 d4 d5 d7 d8 el eb
 refine wk [94, 126, 87, 131] [(127, [], [0, 1, 2, 3, 4]), (129, [], [0, 1, 2, 3, 4])] ji ?_
 exact fH [0, 1, 2, 3] ji
end Go.Proofs.YtapennlmboabeaaGreat

namespace Go.Proofs.YtapennlmboabeaaGreat
open Go Go.Vi
theorem sR {α : Type} {re : Rs → α × Rs} (h : ∀ s, (re s).2.l.length ≤ s.l.length) : ∀ (k : Nat) (s : Rs) (a : List α), (iP re k s a).2.l.length ≤ s.l.length
 | 0, s, a => Nat.le_refl _
 | k + 1, s, a => by
  unfold iP
  have h1 := h s
  split
  ·exact h1
  ·exact Nat.le_trans (sR h k _ _) h1
theorem eg {α : Type} {re : Rs → α × Rs} (h : ∀ s, (re s).2.l.length ≤ s.l.length) (most : Nat) (hm : most < 18446744073709551616) (s : Rs) : (ap re most s).2.l.length ≤ s.l.length :=
 Nat.le_trans (sR h _ _ _) (br most hm s).1
def hI (R : List D) (j : Nat) : List D → List D
 | [] => R
 | d :: ds => hI (R.set j d) (j + 1) ds
theorem iV : ∀ (ds : List D) (R : List D) (j : Nat), (hI R j ds).length = R.length
 | [], _, _ => rfl
 | d :: ds, R, j => by rw [hI, iV ds, List.length_set]
theorem iU : ∀ (ds : List D) (R : List D) (j x : Nat), j + ds.length ≤ x → (hI R j ds)[x]? = R[x]?
 | [], _, _, _, _ => rfl
 | d :: ds, R, j, x, h => by
  simp only [List.length_cons] at h
  rw [hI, iU ds _ _ x (by omega), List.getElem?_set_ne (by omega)]
def sf (s : Rs) : (Int × List (Int × Int)) × Rs :=
 match mb (-900) 900 s with
 | (v1, s1) =>
 match ap rL 700 s1 with
 | (v2, s2) =>
  ((v1, v2), s2)
theorem xS (s : Rs) : (sf s).2.l.length ≤ s.l.length := by
 unfold sf
 have g1 := lz (-900) 900 s
 generalize mb (-900) 900 s = q1 at g1 ⊢
 obtain ⟨v1, s1⟩ := q1
 dsimp only at g1 ⊢
 have g2 := eg ud 700 (by omega) s1
 generalize ap rL 700 s1 = q2 at g2 ⊢
 obtain ⟨v2, s2⟩ := q2
 dsimp only at g2 ⊢
 omega
theorem j5 : type_of% (an @Wr.eq_1 (an @co (an @ab (an @ac (an @ae @dc))))) := (an @Wr.eq_1 (an @co (an @ab (an @ac (an @ae @dc)))))
set_option maxHeartbeats 4000000 in
theorem cZo_r (s : Rs) (sz : Nat) (R : List D) (j : Nat) (hN1 : R[j + 1]? = some (.list (some true) true [])) (hz : R.length = sz) (hj : j + 2 ≤ sz) (hl : s.l.length ≤ 1099511627776) :
  aa Tryz.prog 149 [.ptr 0 0 0 1, .ptr 2 0 j 1] [Cr 1 s.cb, Rd s.l s.rb, Va sz R] (.tup [])
   [Cr 1 (sf s).2.cb, Rd (sf s).2.l (sf s).2.rb, Va sz (hI R j [.int .i64 (sf s).1.1, L (bz .i64 .i64 (sf s).1.2)])] := by
 refine aP Tryz.func149 low149 (by simp [c149]) ?_
 simp only [c149]
 unfold sf
 have z0 := hz
 have k0 : ∀ x, j + 0 ≤ x → R[x]? = R[x]? := fun _ _ => rfl
 have g1 := lz (-900) 900 s
 have h1 : aa Tryz.prog 170 [.ptr 0 0 0 1, .ptr 2 0 j 1, .int .i64 (-900), .int .i64 900] [Cr 1 s.cb, Rd s.l s.rb, Va sz R] (.tup []) [Cr 1 (mb (-900) 900 s).2.cb, Rd (mb (-900) 900 s).2.l (mb (-900) 900 s).2.rb, Va sz (R.set j (.int .i64 ((mb (-900) 900 s).1 : Int)))] := rV s.l s.rb s.cb sz R j (-900) 900 (by omega) (by omega) (by omega)
 generalize mb (-900) 900 s = q1 at h1 g1 ⊢
 obtain ⟨v1, s1⟩ := q1
 dsimp only at h1 g1 ⊢
 obtain ⟨R1, e1⟩ : ∃ R1, R1 = R.set j (.int .i64 (v1 : Int)) := ⟨_, rfl⟩
 rw [← e1] at h1
 have z1 : R1.length = sz := by rw [e1, List.length_set]; exact z0
 have k1 : ∀ x, j + 1 ≤ x → R1[x]? = R[x]? := fun x hx => by rw [e1, List.getElem?_set_ne (by omega)] <;> exact k0 x (by omega)
 have g2 := eg ud 700 (by omega) s1
 have h2 : aa Tryz.prog 171 [.ptr 0 0 0 1, .ptr 2 0 (j + 1) 1, .int .i64 700, .fn 172 [.ptr 3 0 0 1]] [Cr 1 s1.cb, Rd s1.l s1.rb, Va sz R1, Bx 0] (.tup []) [Cr 1 (ap rL 700 s1).2.cb, Rd (ap rL 700 s1).2.l (ap rL 700 s1).2.rb, Va sz (R1.set (j + 1) (L (bz .i64 .i64 (ap rL 700 s1).1))), Bx 0] := Ag s1 sz R1 (j + 1) 700 (by rw [k1 _ (by omega)]; exact hN1) (by omega) (by omega) (by omega)
 generalize ap rL 700 s1 = q2 at h2 g2 ⊢
 obtain ⟨v2, s2⟩ := q2
 dsimp only at h2 g2 ⊢
 obtain ⟨R2, e2⟩ : ∃ R2, R2 = R1.set (j + 1) (L (bz .i64 .i64 v2)) := ⟨_, rfl⟩
 rw [← e2] at h2
 have z2 : R2.length = sz := by rw [e2, List.length_set]; exact z1
 have k2 : ∀ x, j + 2 ≤ x → R2[x]? = R[x]? := fun x hx => by rw [e2, List.getElem?_set_ne (by omega)] <;> exact k1 x (by omega)
 have eR : hI R j [.int .i64 (v1, v2).1, L (bz .i64 .i64 (v1, v2).2)] = R2 := by rw [e2, e1] <;> rfl
 rw [eR]
 clear eR e1 e2 k0 k1 k2 z1 z2
 refine wk [170] [(171, [], [0, 1, 2, 3])] j5 ?_
 exact fH [0, 1, 2] j5
def py (most : Nat) (s : Rs) : (List (Int × Int × Int)) × Rs :=
 match ap rI most s with
 | (v1, s1) =>
  (v1, s1)
theorem rE (most : Nat) (hm : most < 1000000) (s : Rs) : (py most s).2.l.length ≤ s.l.length := by
 unfold py
 have g1 := eg ua most (by omega) s
 generalize ap rI most s = q1 at g1 ⊢
 obtain ⟨v1, s1⟩ := q1
 dsimp only at g1 ⊢
 omega
set_option maxHeartbeats 4000000 in
theorem AE (s : Rs) (sz : Nat) (R : List D) (j : Nat) (most : Nat) (hN0 : R[j]? = some (.list (some true) true [])) (hz : R.length = sz) (hj : j + 1 ≤ sz) (hm : most < 1000000) (hl : s.l.length ≤ 1099511627776) :
  aa Tryz.prog 150 [.ptr 0 0 0 1, .ptr 2 0 j 1, .int .i64 most] [Cr 1 s.cb, Rd s.l s.rb, Va sz R] (.tup [])
   [Cr 1 (py most s).2.cb, Rd (py most s).2.l (py most s).2.rb, Va sz (hI R j [L (ed (py most s).1)])] := by
 refine aP Tryz.func150 low150 (by simp [c150]) ?_
 simp only [c150]
 unfold py
 have z0 := hz
 have k0 : ∀ x, j + 0 ≤ x → R[x]? = R[x]? := fun _ _ => rfl
 have g1 := eg ua most (by omega) s
 have h1 : aa Tryz.prog 173 [.ptr 0 0 0 1, .ptr 2 0 j 1, .int .i64 most, .fn 174 [.ptr 3 0 0 1]] [Cr 1 s.cb, Rd s.l s.rb, Va sz R, Bx 0] (.tup []) [Cr 1 (ap rI most s).2.cb, Rd (ap rI most s).2.l (ap rI most s).2.rb, Va sz (R.set j (L (ed (ap rI most s).1))), Bx 0] := Aa s sz R j most (by rw [k0 _ (by omega)]; exact hN0) (by omega) (by omega) (by omega)
 generalize ap rI most s = q1 at h1 g1 ⊢
 obtain ⟨v1, s1⟩ := q1
 dsimp only at h1 g1 ⊢
 obtain ⟨R1, e1⟩ : ∃ R1, R1 = R.set j (L (ed v1)) := ⟨_, rfl⟩
 rw [← e1] at h1
 have z1 : R1.length = sz := by rw [e1, List.length_set]; exact z0
 have k1 : ∀ x, j + 1 ≤ x → R1[x]? = R[x]? := fun x hx => by rw [e1, List.getElem?_set_ne (by omega)] <;> exact k0 x (by omega)
 have eR : hI R j [L (ed v1)] = R1 := by rw [e1] <;> rfl
 rw [eR]
 clear eR e1 k0 k1 z1
 refine wk [] [(173, [], [0, 1, 2, 3])] j5 ?_
 exact fH [0, 1, 2] j5
def nZ (s : Rs) : (Se) × Rs :=
 match sf s with
 | (v1, s1) =>
 match py 10 s1 with
 | (v2, s2) =>
 match ap rG 60 s2 with
 | (v3, s3) =>
 match bx 240 s3 with
 | (v4, s4) =>
 match bx 240 s4 with
 | (v5, s5) =>
  (⟨v1.1, v1.2, v2, v3, v4, v5⟩, s5)
theorem xQ (s : Rs) : (nZ s).2.l.length ≤ s.l.length := by
 unfold nZ
 have g1 := xS s
 generalize sf s = q1 at g1 ⊢
 obtain ⟨v1, s1⟩ := q1
 dsimp only at g1 ⊢
 have g2 := rE 10 (by omega) s1
 generalize py 10 s1 = q2 at g2 ⊢
 obtain ⟨v2, s2⟩ := q2
 dsimp only at g2 ⊢
 have g3 := eg t7 60 (by omega) s2
 generalize ap rG 60 s2 = q3 at g3 ⊢
 obtain ⟨v3, s3⟩ := q3
 dsimp only at g3 ⊢
 have g4 := (br 240 (by omega) s3).1
 generalize bx 240 s3 = q4 at g4 ⊢
 obtain ⟨v4, s4⟩ := q4
 dsimp only at g4 ⊢
 have g5 := (br 240 (by omega) s4).1
 generalize bx 240 s4 = q5 at g5 ⊢
 obtain ⟨v5, s5⟩ := q5
 dsimp only at g5 ⊢
 omega
set_option maxHeartbeats 4000000 in
theorem cSe_r (s : Rs) (sz : Nat) (R : List D) (j : Nat) (hN1 : R[j + 1]? = some (.list (some true) true [])) (hN2 : R[j + 2]? = some (.list (some true) true [])) (hN3 : R[j + 3]? = some (.list (some true) true [])) (hz : R.length = sz) (hj : j + 6 ≤ sz) (hl : s.l.length ≤ 1099511627776) :
  aa Tryz.prog 122 [.ptr 0 0 0 1, .ptr 2 0 j 1] [Cr 1 s.cb, Rd s.l s.rb, Va sz R] (.tup [])
   [Cr 1 (nZ s).2.cb, Rd (nZ s).2.l (nZ s).2.rb, Va sz (hI R j [.int .i64 (nZ s).1.base, L (bz .i64 .i64 (nZ s).1.turns), L (ed (nZ s).1.shifts), L (ar .i64 (nZ s).1.off), .int .i64 (nZ s).1.before, .int .i64 (nZ s).1.after])] := by
 refine aP Tryz.func122 low122 (by simp [c122]) ?_
 simp only [c122]
 unfold nZ
 have z0 := hz
 have k0 : ∀ x, j + 0 ≤ x → R[x]? = R[x]? := fun _ _ => rfl
 have g1 := xS s
 have h1 : aa Tryz.prog 149 [.ptr 0 0 0 1, .ptr 2 0 j 1] [Cr 1 s.cb, Rd s.l s.rb, Va sz R] (.tup []) [Cr 1 (sf s).2.cb, Rd (sf s).2.l (sf s).2.rb, Va sz (hI R j [.int .i64 (sf s).1.1, L (bz .i64 .i64 (sf s).1.2)])] := cZo_r s sz R j (by rw [k0 _ (by omega)]; exact hN1) (by omega) (by omega) (by omega)
 generalize sf s = q1 at h1 g1 ⊢
 obtain ⟨v1, s1⟩ := q1
 dsimp only at h1 g1 ⊢
 obtain ⟨R1, e1⟩ : ∃ R1, R1 = hI R j [.int .i64 v1.1, L (bz .i64 .i64 v1.2)] := ⟨_, rfl⟩
 rw [← e1] at h1
 have z1 : R1.length = sz := by rw [e1, iV]; exact z0
 have k1 : ∀ x, j + 2 ≤ x → R1[x]? = R[x]? := fun x hx => by rw [e1, iU _ _ _ _ (by simp only [List.length_cons, List.length_nil]; omega)] <;> exact k0 x (by omega)
 have g2 := rE 10 (by omega) s1
 have h2 : aa Tryz.prog 150 [.ptr 0 0 0 1, .ptr 2 0 (j + 2) 1, .int .i64 10] [Cr 1 s1.cb, Rd s1.l s1.rb, Va sz R1] (.tup []) [Cr 1 (py 10 s1).2.cb, Rd (py 10 s1).2.l (py 10 s1).2.rb, Va sz (hI R1 (j + 2) [L (ed (py 10 s1).1)])] := AE s1 sz R1 (j + 2) 10 (by rw [k1 _ (by omega)]; exact hN2) (by omega) (by omega) (by omega) (by omega)
 generalize py 10 s1 = q2 at h2 g2 ⊢
 obtain ⟨v2, s2⟩ := q2
 dsimp only at h2 g2 ⊢
 obtain ⟨R2, e2⟩ : ∃ R2, R2 = hI R1 (j + 2) [L (ed v2)] := ⟨_, rfl⟩
 rw [← e2] at h2
 have z2 : R2.length = sz := by rw [e2, iV]; exact z1
 have k2 : ∀ x, j + 3 ≤ x → R2[x]? = R[x]? := fun x hx => by rw [e2, iU _ _ _ _ (by simp only [List.length_cons, List.length_nil]; omega)] <;> exact k1 x (by omega)
 have g3 := eg t7 60 (by omega) s2
 have h3 : aa Tryz.prog 151 [.ptr 0 0 0 1, .ptr 2 0 (j + 3) 1, .int .i64 60, .fn 152 [.ptr 3 0 0 1]] [Cr 1 s2.cb, Rd s2.l s2.rb, Va sz R2, Bx 0] (.tup []) [Cr 1 (ap rG 60 s2).2.cb, Rd (ap rG 60 s2).2.l (ap rG 60 s2).2.rb, Va sz (R2.set (j + 3) (L (ar .i64 (ap rG 60 s2).1))), Bx 0] := zR s2 sz R2 (j + 3) 60 (by rw [k2 _ (by omega)]; exact hN3) (by omega) (by omega) (by omega)
 generalize ap rG 60 s2 = q3 at h3 g3 ⊢
 obtain ⟨v3, s3⟩ := q3
 dsimp only at h3 g3 ⊢
 obtain ⟨R3, e3⟩ : ∃ R3, R3 = R2.set (j + 3) (L (ar .i64 v3)) := ⟨_, rfl⟩
 rw [← e3] at h3
 have z3 : R3.length = sz := by rw [e3, List.length_set]; exact z2
 have k3 : ∀ x, j + 4 ≤ x → R3[x]? = R[x]? := fun x hx => by rw [e3, List.getElem?_set_ne (by omega)] <;> exact k2 x (by omega)
 have g4 := (br 240 (by omega) s3).1
 have h4 : aa Tryz.prog 131 [.ptr 0 0 0 1, .ptr 2 0 (j + 4) 1, .int .u64 240] [Cr 1 s3.cb, Rd s3.l s3.rb, Va sz R3] (.tup []) [Cr 1 (bx 240 s3).2.cb, Rd (bx 240 s3).2.l (bx 240 s3).2.rb, Va sz (R3.set (j + 4) (.int .i64 (((bx 240 s3).1 : Nat) : Int)))] := hM s3.l s3.rb s3.cb sz R3 (j + 4) 240 (by omega) (by omega) (by omega) (by omega)
 generalize bx 240 s3 = q4 at h4 g4 ⊢
 obtain ⟨v4, s4⟩ := q4
 dsimp only at h4 g4 ⊢
 obtain ⟨R4, e4⟩ : ∃ R4, R4 = R3.set (j + 4) (.int .i64 ((v4 : Nat) : Int)) := ⟨_, rfl⟩
 rw [← e4] at h4
 have z4 : R4.length = sz := by rw [e4, List.length_set]; exact z3
 have k4 : ∀ x, j + 5 ≤ x → R4[x]? = R[x]? := fun x hx => by rw [e4, List.getElem?_set_ne (by omega)] <;> exact k3 x (by omega)
 have g5 := (br 240 (by omega) s4).1
 have h5 : aa Tryz.prog 131 [.ptr 0 0 0 1, .ptr 2 0 (j + 5) 1, .int .u64 240] [Cr 1 s4.cb, Rd s4.l s4.rb, Va sz R4] (.tup []) [Cr 1 (bx 240 s4).2.cb, Rd (bx 240 s4).2.l (bx 240 s4).2.rb, Va sz (R4.set (j + 5) (.int .i64 (((bx 240 s4).1 : Nat) : Int)))] := hM s4.l s4.rb s4.cb sz R4 (j + 5) 240 (by omega) (by omega) (by omega) (by omega)
 generalize bx 240 s4 = q5 at h5 g5 ⊢
 obtain ⟨v5, s5⟩ := q5
 dsimp only at h5 g5 ⊢
 obtain ⟨R5, e5⟩ : ∃ R5, R5 = R4.set (j + 5) (.int .i64 ((v5 : Nat) : Int)) := ⟨_, rfl⟩
 rw [← e5] at h5
 have z5 : R5.length = sz := by rw [e5, List.length_set]; exact z4
 have k5 : ∀ x, j + 6 ≤ x → R5[x]? = R[x]? := fun x hx => by rw [e5, List.getElem?_set_ne (by omega)] <;> exact k4 x (by omega)
 have eR : hI R j [.int .i64 (⟨v1.1, v1.2, v2, v3, v4, v5⟩ : Se).base, L (bz .i64 .i64 (⟨v1.1, v1.2, v2, v3, v4, v5⟩ : Se).turns), L (ed (⟨v1.1, v1.2, v2, v3, v4, v5⟩ : Se).shifts), L (ar .i64 (⟨v1.1, v1.2, v2, v3, v4, v5⟩ : Se).off), .int .i64 (⟨v1.1, v1.2, v2, v3, v4, v5⟩ : Se).before, .int .i64 (⟨v1.1, v1.2, v2, v3, v4, v5⟩ : Se).after] = R5 := by rw [e5, e4, e3, e2, e1] <;> rfl
 rw [eR]
 clear eR e1 e2 e3 e4 e5 k0 k1 k2 k3 k4 k5 z1 z2 z3 z4 z5
 refine wk [149, 150, 131] [(151, [], [0, 1, 2, 3])] j5 ?_
 exact fH [0, 1, 2] j5
def mC (s : Rs) : (List Int) × Rs :=
 match ap rJ 400 s with
 | (v1, s1) =>
  (v1, s1)
theorem nq (s : Rs) : (mC s).2.l.length ≤ s.l.length := by
 unfold mC
 have g1 := eg ub 400 (by omega) s
 generalize ap rJ 400 s = q1 at g1 ⊢
 obtain ⟨v1, s1⟩ := q1
 dsimp only at g1 ⊢
 omega
set_option maxHeartbeats 4000000 in
theorem wP (s : Rs) (sz : Nat) (R : List D) (j : Nat) (hN0 : R[j]? = some (.list (some true) true [])) (hz : R.length = sz) (hj : j + 1 ≤ sz) (hl : s.l.length ≤ 1099511627776) :
  aa Tryz.prog 177 [.ptr 0 0 0 1, .ptr 2 0 j 1] [Cr 1 s.cb, Rd s.l s.rb, Va sz R] (.tup [])
   [Cr 1 (mC s).2.cb, Rd (mC s).2.l (mC s).2.rb, Va sz (hI R j [L (ar .i64 (mC s).1)])] := by
 refine aP Tryz.func177 low177 (by simp [c177]) ?_
 simp only [c177]
 unfold mC
 have z0 := hz
 have k0 : ∀ x, j + 0 ≤ x → R[x]? = R[x]? := fun _ _ => rfl
 have g1 := eg ub 400 (by omega) s
 have h1 : aa Tryz.prog 151 [.ptr 0 0 0 1, .ptr 2 0 j 1, .int .i64 400, .fn 180 [.ptr 3 0 0 1]] [Cr 1 s.cb, Rd s.l s.rb, Va sz R, Bx 0] (.tup []) [Cr 1 (ap rJ 400 s).2.cb, Rd (ap rJ 400 s).2.l (ap rJ 400 s).2.rb, Va sz (R.set j (L (ar .i64 (ap rJ 400 s).1))), Bx 0] := Ac s sz R j 400 (by rw [k0 _ (by omega)]; exact hN0) (by omega) (by omega) (by omega)
 generalize ap rJ 400 s = q1 at h1 g1 ⊢
 obtain ⟨v1, s1⟩ := q1
 dsimp only at h1 g1 ⊢
 obtain ⟨R1, e1⟩ : ∃ R1, R1 = R.set j (L (ar .i64 v1)) := ⟨_, rfl⟩
 rw [← e1] at h1
 have z1 : R1.length = sz := by rw [e1, List.length_set]; exact z0
 have k1 : ∀ x, j + 1 ≤ x → R1[x]? = R[x]? := fun x hx => by rw [e1, List.getElem?_set_ne (by omega)] <;> exact k0 x (by omega)
 have eR : hI R j [L (ar .i64 v1)] = R1 := by rw [e1] <;> rfl
 rw [eR]
 clear eR e1 k0 k1 z1
 refine wk [] [(151, [], [0, 1, 2, 3])] j5 ?_
 exact fH [0, 1, 2] j5
def lT (s : Rs) : (Ru) × Rs :=
 match bx 4 s with
 | (v1, s1) =>
 match bx 999 s1 with
 | (v2, s2) =>
 match bx 5000 s2 with
 | (v3, s3) =>
 match gT s3 with
 | (v4, s4) =>
 match mC s4 with
 | (v5, s5) =>
 match mC s5 with
 | (v6, s6) =>
 match ap rD 400 s6 with
 | (v7, s7) =>
 match mC s7 with
 | (v8, s8) =>
 match bx 6 s8 with
 | (v9, s9) =>
  (⟨v1, v2, v3, v4, v5, v6, v7, v8, v9⟩, s9)
theorem xP (s : Rs) : (lT s).2.l.length ≤ s.l.length := by
 unfold lT
 have g1 := (br 4 (by omega) s).1
 generalize bx 4 s = q1 at g1 ⊢
 obtain ⟨v1, s1⟩ := q1
 dsimp only at g1 ⊢
 have g2 := (br 999 (by omega) s1).1
 generalize bx 999 s1 = q2 at g2 ⊢
 obtain ⟨v2, s2⟩ := q2
 dsimp only at g2 ⊢
 have g3 := (br 5000 (by omega) s2).1
 generalize bx 5000 s2 = q3 at g3 ⊢
 obtain ⟨v3, s3⟩ := q3
 dsimp only at g3 ⊢
 have g4 := gQ s3
 generalize gT s3 = q4 at g4 ⊢
 obtain ⟨v4, s4⟩ := q4
 dsimp only at g4 ⊢
 have g5 := nq s4
 generalize mC s4 = q5 at g5 ⊢
 obtain ⟨v5, s5⟩ := q5
 dsimp only at g5 ⊢
 have g6 := nq s5
 generalize mC s5 = q6 at g6 ⊢
 obtain ⟨v6, s6⟩ := q6
 dsimp only at g6 ⊢
 have g7 := eg t3 400 (by omega) s6
 generalize ap rD 400 s6 = q7 at g7 ⊢
 obtain ⟨v7, s7⟩ := q7
 dsimp only at g7 ⊢
 have g8 := nq s7
 generalize mC s7 = q8 at g8 ⊢
 obtain ⟨v8, s8⟩ := q8
 dsimp only at g8 ⊢
 have g9 := (br 6 (by omega) s8).1
 generalize bx 6 s8 = q9 at g9 ⊢
 obtain ⟨v9, s9⟩ := q9
 dsimp only at g9 ⊢
 omega
set_option maxHeartbeats 4000000 in
theorem cRu_r (s : Rs) (sz : Nat) (R : List D) (j : Nat) (hN4 : R[j + 4]? = some (.list (some true) true [])) (hN5 : R[j + 5]? = some (.list (some true) true [])) (hN6 : R[j + 6]? = some (.list (some true) true [])) (hN7 : R[j + 7]? = some (.list (some true) true [])) (hz : R.length = sz) (hj : j + 9 ≤ sz) (hl : s.l.length ≤ 1099511627776) :
  aa Tryz.prog 154 [.ptr 0 0 0 1, .ptr 2 0 j 1] [Cr 1 s.cb, Rd s.l s.rb, Va sz R] (.tup [])
   [Cr 1 (lT s).2.cb, Rd (lT s).2.l (lT s).2.rb, Va sz (hI R j [.int .i64 (lT s).1.freq, .int .i64 (lT s).1.interval, .int .i64 (lT s).1.count, .int .i64 (lT s).1.til, L (ar .i64 (lT s).1.bm), L (ar .i64 (lT s).1.bmd), L (bz .i64 .i64 (lT s).1.bd), L (ar .i64 (lT s).1.bsp), .int .i64 (lT s).1.start])] := by
 refine aP Tryz.func154 low154 (by simp [c154]) ?_
 simp only [c154]
 unfold lT
 have z0 := hz
 have k0 : ∀ x, j + 0 ≤ x → R[x]? = R[x]? := fun _ _ => rfl
 have g1 := (br 4 (by omega) s).1
 have h1 : aa Tryz.prog 131 [.ptr 0 0 0 1, .ptr 2 0 j 1, .int .u64 4] [Cr 1 s.cb, Rd s.l s.rb, Va sz R] (.tup []) [Cr 1 (bx 4 s).2.cb, Rd (bx 4 s).2.l (bx 4 s).2.rb, Va sz (R.set j (.int .i64 (((bx 4 s).1 : Nat) : Int)))] := hM s.l s.rb s.cb sz R j 4 (by omega) (by omega) (by omega) (by omega)
 generalize bx 4 s = q1 at h1 g1 ⊢
 obtain ⟨v1, s1⟩ := q1
 dsimp only at h1 g1 ⊢
 obtain ⟨R1, e1⟩ : ∃ R1, R1 = R.set j (.int .i64 ((v1 : Nat) : Int)) := ⟨_, rfl⟩
 rw [← e1] at h1
 have z1 : R1.length = sz := by rw [e1, List.length_set]; exact z0
 have k1 : ∀ x, j + 1 ≤ x → R1[x]? = R[x]? := fun x hx => by rw [e1, List.getElem?_set_ne (by omega)] <;> exact k0 x (by omega)
 have g2 := (br 999 (by omega) s1).1
 have h2 : aa Tryz.prog 131 [.ptr 0 0 0 1, .ptr 2 0 (j + 1) 1, .int .u64 999] [Cr 1 s1.cb, Rd s1.l s1.rb, Va sz R1] (.tup []) [Cr 1 (bx 999 s1).2.cb, Rd (bx 999 s1).2.l (bx 999 s1).2.rb, Va sz (R1.set (j + 1) (.int .i64 (((bx 999 s1).1 : Nat) : Int)))] := hM s1.l s1.rb s1.cb sz R1 (j + 1) 999 (by omega) (by omega) (by omega) (by omega)
 generalize bx 999 s1 = q2 at h2 g2 ⊢
 obtain ⟨v2, s2⟩ := q2
 dsimp only at h2 g2 ⊢
 obtain ⟨R2, e2⟩ : ∃ R2, R2 = R1.set (j + 1) (.int .i64 ((v2 : Nat) : Int)) := ⟨_, rfl⟩
 rw [← e2] at h2
 have z2 : R2.length = sz := by rw [e2, List.length_set]; exact z1
 have k2 : ∀ x, j + 2 ≤ x → R2[x]? = R[x]? := fun x hx => by rw [e2, List.getElem?_set_ne (by omega)] <;> exact k1 x (by omega)
 have g3 := (br 5000 (by omega) s2).1
 have h3 : aa Tryz.prog 131 [.ptr 0 0 0 1, .ptr 2 0 (j + 2) 1, .int .u64 5000] [Cr 1 s2.cb, Rd s2.l s2.rb, Va sz R2] (.tup []) [Cr 1 (bx 5000 s2).2.cb, Rd (bx 5000 s2).2.l (bx 5000 s2).2.rb, Va sz (R2.set (j + 2) (.int .i64 (((bx 5000 s2).1 : Nat) : Int)))] := hM s2.l s2.rb s2.cb sz R2 (j + 2) 5000 (by omega) (by omega) (by omega) (by omega)
 generalize bx 5000 s2 = q3 at h3 g3 ⊢
 obtain ⟨v3, s3⟩ := q3
 dsimp only at h3 g3 ⊢
 obtain ⟨R3, e3⟩ : ∃ R3, R3 = R2.set (j + 2) (.int .i64 ((v3 : Nat) : Int)) := ⟨_, rfl⟩
 rw [← e3] at h3
 have z3 : R3.length = sz := by rw [e3, List.length_set]; exact z2
 have k3 : ∀ x, j + 3 ≤ x → R3[x]? = R[x]? := fun x hx => by rw [e3, List.getElem?_set_ne (by omega)] <;> exact k2 x (by omega)
 have g4 := gQ s3
 have h4 : aa Tryz.prog 87 [.ptr 0 0 0 1, .ptr 2 0 (j + 3) 1] [Cr 1 s3.cb, Rd s3.l s3.rb, Va sz R3] (.tup []) [Cr 1 (gT s3).2.cb, Rd (gT s3).2.l (gT s3).2.rb, Va sz (R3.set (j + 3) (.int .i64 ((gT s3).1 : Int)))] := gU s3.l s3.rb s3.cb sz R3 (j + 3) (by omega) (by omega) (by omega)
 generalize gT s3 = q4 at h4 g4 ⊢
 obtain ⟨v4, s4⟩ := q4
 dsimp only at h4 g4 ⊢
 obtain ⟨R4, e4⟩ : ∃ R4, R4 = R3.set (j + 3) (.int .i64 (v4 : Int)) := ⟨_, rfl⟩
 rw [← e4] at h4
 have z4 : R4.length = sz := by rw [e4, List.length_set]; exact z3
 have k4 : ∀ x, j + 4 ≤ x → R4[x]? = R[x]? := fun x hx => by rw [e4, List.getElem?_set_ne (by omega)] <;> exact k3 x (by omega)
 have g5 := nq s4
 have h5 : aa Tryz.prog 177 [.ptr 0 0 0 1, .ptr 2 0 (j + 4) 1] [Cr 1 s4.cb, Rd s4.l s4.rb, Va sz R4] (.tup []) [Cr 1 (mC s4).2.cb, Rd (mC s4).2.l (mC s4).2.rb, Va sz (hI R4 (j + 4) [L (ar .i64 (mC s4).1)])] := wP s4 sz R4 (j + 4) (by rw [k4 _ (by omega)]; exact hN4) (by omega) (by omega) (by omega)
 generalize mC s4 = q5 at h5 g5 ⊢
 obtain ⟨v5, s5⟩ := q5
 dsimp only at h5 g5 ⊢
 obtain ⟨R5, e5⟩ : ∃ R5, R5 = hI R4 (j + 4) [L (ar .i64 v5)] := ⟨_, rfl⟩
 rw [← e5] at h5
 have z5 : R5.length = sz := by rw [e5, iV]; exact z4
 have k5 : ∀ x, j + 5 ≤ x → R5[x]? = R[x]? := fun x hx => by rw [e5, iU _ _ _ _ (by simp only [List.length_cons, List.length_nil]; omega)] <;> exact k4 x (by omega)
 have g6 := nq s5
 have h6 : aa Tryz.prog 177 [.ptr 0 0 0 1, .ptr 2 0 (j + 5) 1] [Cr 1 s5.cb, Rd s5.l s5.rb, Va sz R5] (.tup []) [Cr 1 (mC s5).2.cb, Rd (mC s5).2.l (mC s5).2.rb, Va sz (hI R5 (j + 5) [L (ar .i64 (mC s5).1)])] := wP s5 sz R5 (j + 5) (by rw [k5 _ (by omega)]; exact hN5) (by omega) (by omega) (by omega)
 generalize mC s5 = q6 at h6 g6 ⊢
 obtain ⟨v6, s6⟩ := q6
 dsimp only at h6 g6 ⊢
 obtain ⟨R6, e6⟩ : ∃ R6, R6 = hI R5 (j + 5) [L (ar .i64 v6)] := ⟨_, rfl⟩
 rw [← e6] at h6
 have z6 : R6.length = sz := by rw [e6, iV]; exact z5
 have k6 : ∀ x, j + 6 ≤ x → R6[x]? = R[x]? := fun x hx => by rw [e6, iU _ _ _ _ (by simp only [List.length_cons, List.length_nil]; omega)] <;> exact k5 x (by omega)
 have g7 := eg t3 400 (by omega) s6
 have h7 : aa Tryz.prog 178 [.ptr 0 0 0 1, .ptr 2 0 (j + 6) 1, .int .i64 400, .fn 179 [.ptr 3 0 0 1]] [Cr 1 s6.cb, Rd s6.l s6.rb, Va sz R6, Bx 0] (.tup []) [Cr 1 (ap rD 400 s6).2.cb, Rd (ap rD 400 s6).2.l (ap rD 400 s6).2.rb, Va sz (R6.set (j + 6) (L (bz .i64 .i64 (ap rD 400 s6).1))), Bx 0] := zG s6 sz R6 (j + 6) 400 (by rw [k6 _ (by omega)]; exact hN6) (by omega) (by omega) (by omega)
 generalize ap rD 400 s6 = q7 at h7 g7 ⊢
 obtain ⟨v7, s7⟩ := q7
 dsimp only at h7 g7 ⊢
 obtain ⟨R7, e7⟩ : ∃ R7, R7 = R6.set (j + 6) (L (bz .i64 .i64 v7)) := ⟨_, rfl⟩
 rw [← e7] at h7
 have z7 : R7.length = sz := by rw [e7, List.length_set]; exact z6
 have k7 : ∀ x, j + 7 ≤ x → R7[x]? = R[x]? := fun x hx => by rw [e7, List.getElem?_set_ne (by omega)] <;> exact k6 x (by omega)
 have g8 := nq s7
 have h8 : aa Tryz.prog 177 [.ptr 0 0 0 1, .ptr 2 0 (j + 7) 1] [Cr 1 s7.cb, Rd s7.l s7.rb, Va sz R7] (.tup []) [Cr 1 (mC s7).2.cb, Rd (mC s7).2.l (mC s7).2.rb, Va sz (hI R7 (j + 7) [L (ar .i64 (mC s7).1)])] := wP s7 sz R7 (j + 7) (by rw [k7 _ (by omega)]; exact hN7) (by omega) (by omega) (by omega)
 generalize mC s7 = q8 at h8 g8 ⊢
 obtain ⟨v8, s8⟩ := q8
 dsimp only at h8 g8 ⊢
 obtain ⟨R8, e8⟩ : ∃ R8, R8 = hI R7 (j + 7) [L (ar .i64 v8)] := ⟨_, rfl⟩
 rw [← e8] at h8
 have z8 : R8.length = sz := by rw [e8, iV]; exact z7
 have k8 : ∀ x, j + 8 ≤ x → R8[x]? = R[x]? := fun x hx => by rw [e8, iU _ _ _ _ (by simp only [List.length_cons, List.length_nil]; omega)] <;> exact k7 x (by omega)
 have g9 := (br 6 (by omega) s8).1
 have h9 : aa Tryz.prog 131 [.ptr 0 0 0 1, .ptr 2 0 (j + 8) 1, .int .u64 6] [Cr 1 s8.cb, Rd s8.l s8.rb, Va sz R8] (.tup []) [Cr 1 (bx 6 s8).2.cb, Rd (bx 6 s8).2.l (bx 6 s8).2.rb, Va sz (R8.set (j + 8) (.int .i64 (((bx 6 s8).1 : Nat) : Int)))] := hM s8.l s8.rb s8.cb sz R8 (j + 8) 6 (by omega) (by omega) (by omega) (by omega)
 generalize bx 6 s8 = q9 at h9 g9 ⊢
 obtain ⟨v9, s9⟩ := q9
 dsimp only at h9 g9 ⊢
 obtain ⟨R9, e9⟩ : ∃ R9, R9 = R8.set (j + 8) (.int .i64 ((v9 : Nat) : Int)) := ⟨_, rfl⟩
 rw [← e9] at h9
 have z9 : R9.length = sz := by rw [e9, List.length_set]; exact z8
 have k9 : ∀ x, j + 9 ≤ x → R9[x]? = R[x]? := fun x hx => by rw [e9, List.getElem?_set_ne (by omega)] <;> exact k8 x (by omega)
 have eR : hI R j [.int .i64 (⟨v1, v2, v3, v4, v5, v6, v7, v8, v9⟩ : Ru).freq, .int .i64 (⟨v1, v2, v3, v4, v5, v6, v7, v8, v9⟩ : Ru).interval, .int .i64 (⟨v1, v2, v3, v4, v5, v6, v7, v8, v9⟩ : Ru).count, .int .i64 (⟨v1, v2, v3, v4, v5, v6, v7, v8, v9⟩ : Ru).til, L (ar .i64 (⟨v1, v2, v3, v4, v5, v6, v7, v8, v9⟩ : Ru).bm), L (ar .i64 (⟨v1, v2, v3, v4, v5, v6, v7, v8, v9⟩ : Ru).bmd), L (bz .i64 .i64 (⟨v1, v2, v3, v4, v5, v6, v7, v8, v9⟩ : Ru).bd), L (ar .i64 (⟨v1, v2, v3, v4, v5, v6, v7, v8, v9⟩ : Ru).bsp), .int .i64 (⟨v1, v2, v3, v4, v5, v6, v7, v8, v9⟩ : Ru).start] = R9 := by rw [e9, e8, e7, e6, e5, e4, e3, e2, e1] <;> rfl
 rw [eR]
 clear eR e1 e2 e3 e4 e5 e6 e7 e8 e9 k0 k1 k2 k3 k4 k5 k6 k7 k8 k9 z1 z2 z3 z4 z5 z6 z7 z8 z9
 refine wk [131, 87, 177] [(178, [], [0, 1, 2, 3])] j5 ?_
 exact fH [0, 1, 2] j5
def ma (s : Rs) : (Qu) × Rs :=
 match gT s with
 | (v1, s1) =>
 match gT s1 with
 | (v2, s2) =>
 match bx 10080 s2 with
 | (v3, s3) =>
 match bx 1440 s3 with
 | (v4, s4) =>
 match ap rF 64 s4 with
 | (v5, s5) =>
 match ap rN 16 s5 with
 | (v6, s6) =>
 match bx 100 s6 with
 | (v7, s7) =>
 match ap rH 32 s7 with
 | (v8, s8) =>
 match py 8 s8 with
 | (v9, s9) =>
  (⟨v1, v2, v3, v4, v5, v6, v7, v8, v9⟩, s9)
theorem xO (s : Rs) : (ma s).2.l.length ≤ s.l.length := by
 unfold ma
 have g1 := gQ s
 generalize gT s = q1 at g1 ⊢
 obtain ⟨v1, s1⟩ := q1
 dsimp only at g1 ⊢
 have g2 := gQ s1
 generalize gT s1 = q2 at g2 ⊢
 obtain ⟨v2, s2⟩ := q2
 dsimp only at g2 ⊢
 have g3 := (br 10080 (by omega) s2).1
 generalize bx 10080 s2 = q3 at g3 ⊢
 obtain ⟨v3, s3⟩ := q3
 dsimp only at g3 ⊢
 have g4 := (br 1440 (by omega) s3).1
 generalize bx 1440 s3 = q4 at g4 ⊢
 obtain ⟨v4, s4⟩ := q4
 dsimp only at g4 ⊢
 have g5 := eg t6 64 (by omega) s4
 generalize ap rF 64 s4 = q5 at g5 ⊢
 obtain ⟨v5, s5⟩ := q5
 dsimp only at g5 ⊢
 have g6 := eg ug 16 (by omega) s5
 generalize ap rN 16 s5 = q6 at g6 ⊢
 obtain ⟨v6, s6⟩ := q6
 dsimp only at g6 ⊢
 have g7 := (br 100 (by omega) s6).1
 generalize bx 100 s6 = q7 at g7 ⊢
 obtain ⟨v7, s7⟩ := q7
 dsimp only at g7 ⊢
 have g8 := eg t8 32 (by omega) s7
 generalize ap rH 32 s7 = q8 at g8 ⊢
 obtain ⟨v8, s8⟩ := q8
 dsimp only at g8 ⊢
 have g9 := rE 8 (by omega) s8
 generalize py 8 s8 = q9 at g9 ⊢
 obtain ⟨v9, s9⟩ := q9
 dsimp only at g9 ⊢
 omega
set_option maxHeartbeats 4000000 in
theorem cQu_r (s : Rs) (sz : Nat) (R : List D) (j : Nat) (hN4 : R[j + 4]? = some (.list (some true) true [])) (hN5 : R[j + 5]? = some (.list (some true) true [])) (hN7 : R[j + 7]? = some (.list (some true) true [])) (hN8 : R[j + 8]? = some (.list (some true) true [])) (hz : R.length = sz) (hj : j + 9 ≤ sz) (hl : s.l.length ≤ 1099511627776) :
  aa Tryz.prog 126 [.ptr 0 0 0 1, .ptr 2 0 j 1] [Cr 1 s.cb, Rd s.l s.rb, Va sz R] (.tup [])
   [Cr 1 (ma s).2.cb, Rd (ma s).2.l (ma s).2.rb, Va sz (hI R j [.int .i64 (ma s).1.a, .int .i64 (ma s).1.b, .int .i64 (ma s).1.long, .int .i64 (ma s).1.grid, L (ar .u32 (ma s).1.must), L (bz .u32 .i64 (ma s).1.may), .int .i64 (ma s).1.seats, L (bz .u32 .u32 (ma s).1.apart), L (ed (ma s).1.prefer)])] := by
 refine aP Tryz.func126 low126 (by simp [c126]) ?_
 simp only [c126]
 unfold ma
 have z0 := hz
 have k0 : ∀ x, j + 0 ≤ x → R[x]? = R[x]? := fun _ _ => rfl
 have g1 := gQ s
 have h1 : aa Tryz.prog 87 [.ptr 0 0 0 1, .ptr 2 0 j 1] [Cr 1 s.cb, Rd s.l s.rb, Va sz R] (.tup []) [Cr 1 (gT s).2.cb, Rd (gT s).2.l (gT s).2.rb, Va sz (R.set j (.int .i64 ((gT s).1 : Int)))] := gU s.l s.rb s.cb sz R j (by omega) (by omega) (by omega)
 generalize gT s = q1 at h1 g1 ⊢
 obtain ⟨v1, s1⟩ := q1
 dsimp only at h1 g1 ⊢
 obtain ⟨R1, e1⟩ : ∃ R1, R1 = R.set j (.int .i64 (v1 : Int)) := ⟨_, rfl⟩
 rw [← e1] at h1
 have z1 : R1.length = sz := by rw [e1, List.length_set]; exact z0
 have k1 : ∀ x, j + 1 ≤ x → R1[x]? = R[x]? := fun x hx => by rw [e1, List.getElem?_set_ne (by omega)] <;> exact k0 x (by omega)
 have g2 := gQ s1
 have h2 : aa Tryz.prog 87 [.ptr 0 0 0 1, .ptr 2 0 (j + 1) 1] [Cr 1 s1.cb, Rd s1.l s1.rb, Va sz R1] (.tup []) [Cr 1 (gT s1).2.cb, Rd (gT s1).2.l (gT s1).2.rb, Va sz (R1.set (j + 1) (.int .i64 ((gT s1).1 : Int)))] := gU s1.l s1.rb s1.cb sz R1 (j + 1) (by omega) (by omega) (by omega)
 generalize gT s1 = q2 at h2 g2 ⊢
 obtain ⟨v2, s2⟩ := q2
 dsimp only at h2 g2 ⊢
 obtain ⟨R2, e2⟩ : ∃ R2, R2 = R1.set (j + 1) (.int .i64 (v2 : Int)) := ⟨_, rfl⟩
 rw [← e2] at h2
 have z2 : R2.length = sz := by rw [e2, List.length_set]; exact z1
 have k2 : ∀ x, j + 2 ≤ x → R2[x]? = R[x]? := fun x hx => by rw [e2, List.getElem?_set_ne (by omega)] <;> exact k1 x (by omega)
 have g3 := (br 10080 (by omega) s2).1
 have h3 : aa Tryz.prog 131 [.ptr 0 0 0 1, .ptr 2 0 (j + 2) 1, .int .u64 10080] [Cr 1 s2.cb, Rd s2.l s2.rb, Va sz R2] (.tup []) [Cr 1 (bx 10080 s2).2.cb, Rd (bx 10080 s2).2.l (bx 10080 s2).2.rb, Va sz (R2.set (j + 2) (.int .i64 (((bx 10080 s2).1 : Nat) : Int)))] := hM s2.l s2.rb s2.cb sz R2 (j + 2) 10080 (by omega) (by omega) (by omega) (by omega)
 generalize bx 10080 s2 = q3 at h3 g3 ⊢
 obtain ⟨v3, s3⟩ := q3
 dsimp only at h3 g3 ⊢
 obtain ⟨R3, e3⟩ : ∃ R3, R3 = R2.set (j + 2) (.int .i64 ((v3 : Nat) : Int)) := ⟨_, rfl⟩
 rw [← e3] at h3
 have z3 : R3.length = sz := by rw [e3, List.length_set]; exact z2
 have k3 : ∀ x, j + 3 ≤ x → R3[x]? = R[x]? := fun x hx => by rw [e3, List.getElem?_set_ne (by omega)] <;> exact k2 x (by omega)
 have g4 := (br 1440 (by omega) s3).1
 have h4 : aa Tryz.prog 131 [.ptr 0 0 0 1, .ptr 2 0 (j + 3) 1, .int .u64 1440] [Cr 1 s3.cb, Rd s3.l s3.rb, Va sz R3] (.tup []) [Cr 1 (bx 1440 s3).2.cb, Rd (bx 1440 s3).2.l (bx 1440 s3).2.rb, Va sz (R3.set (j + 3) (.int .i64 (((bx 1440 s3).1 : Nat) : Int)))] := hM s3.l s3.rb s3.cb sz R3 (j + 3) 1440 (by omega) (by omega) (by omega) (by omega)
 generalize bx 1440 s3 = q4 at h4 g4 ⊢
 obtain ⟨v4, s4⟩ := q4
 dsimp only at h4 g4 ⊢
 obtain ⟨R4, e4⟩ : ∃ R4, R4 = R3.set (j + 3) (.int .i64 ((v4 : Nat) : Int)) := ⟨_, rfl⟩
 rw [← e4] at h4
 have z4 : R4.length = sz := by rw [e4, List.length_set]; exact z3
 have k4 : ∀ x, j + 4 ≤ x → R4[x]? = R[x]? := fun x hx => by rw [e4, List.getElem?_set_ne (by omega)] <;> exact k3 x (by omega)
 have g5 := eg t6 64 (by omega) s4
 have h5 : aa Tryz.prog 159 [.ptr 0 0 0 1, .ptr 2 0 (j + 4) 1, .int .i64 64, .fn 160 [.ptr 3 0 0 1]] [Cr 1 s4.cb, Rd s4.l s4.rb, Va sz R4, Bx 0] (.tup []) [Cr 1 (ap rF 64 s4).2.cb, Rd (ap rF 64 s4).2.l (ap rF 64 s4).2.rb, Va sz (R4.set (j + 4) (L (ar .u32 (ap rF 64 s4).1))), Bx 0] := zP s4 sz R4 (j + 4) 64 (by rw [k4 _ (by omega)]; exact hN4) (by omega) (by omega) (by omega)
 generalize ap rF 64 s4 = q5 at h5 g5 ⊢
 obtain ⟨v5, s5⟩ := q5
 dsimp only at h5 g5 ⊢
 obtain ⟨R5, e5⟩ : ∃ R5, R5 = R4.set (j + 4) (L (ar .u32 v5)) := ⟨_, rfl⟩
 rw [← e5] at h5
 have z5 : R5.length = sz := by rw [e5, List.length_set]; exact z4
 have k5 : ∀ x, j + 5 ≤ x → R5[x]? = R[x]? := fun x hx => by rw [e5, List.getElem?_set_ne (by omega)] <;> exact k4 x (by omega)
 have g6 := eg ug 16 (by omega) s5
 have h6 : aa Tryz.prog 161 [.ptr 0 0 0 1, .ptr 2 0 (j + 5) 1, .int .i64 16, .fn 162 [.ptr 3 0 0 1]] [Cr 1 s5.cb, Rd s5.l s5.rb, Va sz R5, Bx 0] (.tup []) [Cr 1 (ap rN 16 s5).2.cb, Rd (ap rN 16 s5).2.l (ap rN 16 s5).2.rb, Va sz (R5.set (j + 5) (L (bz .u32 .i64 (ap rN 16 s5).1))), Bx 0] := Am s5 sz R5 (j + 5) 16 (by rw [k5 _ (by omega)]; exact hN5) (by omega) (by omega) (by omega)
 generalize ap rN 16 s5 = q6 at h6 g6 ⊢
 obtain ⟨v6, s6⟩ := q6
 dsimp only at h6 g6 ⊢
 obtain ⟨R6, e6⟩ : ∃ R6, R6 = R5.set (j + 5) (L (bz .u32 .i64 v6)) := ⟨_, rfl⟩
 rw [← e6] at h6
 have z6 : R6.length = sz := by rw [e6, List.length_set]; exact z5
 have k6 : ∀ x, j + 6 ≤ x → R6[x]? = R[x]? := fun x hx => by rw [e6, List.getElem?_set_ne (by omega)] <;> exact k5 x (by omega)
 have g7 := (br 100 (by omega) s6).1
 have h7 : aa Tryz.prog 131 [.ptr 0 0 0 1, .ptr 2 0 (j + 6) 1, .int .u64 100] [Cr 1 s6.cb, Rd s6.l s6.rb, Va sz R6] (.tup []) [Cr 1 (bx 100 s6).2.cb, Rd (bx 100 s6).2.l (bx 100 s6).2.rb, Va sz (R6.set (j + 6) (.int .i64 (((bx 100 s6).1 : Nat) : Int)))] := hM s6.l s6.rb s6.cb sz R6 (j + 6) 100 (by omega) (by omega) (by omega) (by omega)
 generalize bx 100 s6 = q7 at h7 g7 ⊢
 obtain ⟨v7, s7⟩ := q7
 dsimp only at h7 g7 ⊢
 obtain ⟨R7, e7⟩ : ∃ R7, R7 = R6.set (j + 6) (.int .i64 ((v7 : Nat) : Int)) := ⟨_, rfl⟩
 rw [← e7] at h7
 have z7 : R7.length = sz := by rw [e7, List.length_set]; exact z6
 have k7 : ∀ x, j + 7 ≤ x → R7[x]? = R[x]? := fun x hx => by rw [e7, List.getElem?_set_ne (by omega)] <;> exact k6 x (by omega)
 have g8 := eg t8 32 (by omega) s7
 have h8 : aa Tryz.prog 163 [.ptr 0 0 0 1, .ptr 2 0 (j + 7) 1, .int .i64 32, .fn 164 [.ptr 3 0 0 1]] [Cr 1 s7.cb, Rd s7.l s7.rb, Va sz R7, Bx 0] (.tup []) [Cr 1 (ap rH 32 s7).2.cb, Rd (ap rH 32 s7).2.l (ap rH 32 s7).2.rb, Va sz (R7.set (j + 7) (L (bz .u32 .u32 (ap rH 32 s7).1))), Bx 0] := zT s7 sz R7 (j + 7) 32 (by rw [k7 _ (by omega)]; exact hN7) (by omega) (by omega) (by omega)
 generalize ap rH 32 s7 = q8 at h8 g8 ⊢
 obtain ⟨v8, s8⟩ := q8
 dsimp only at h8 g8 ⊢
 obtain ⟨R8, e8⟩ : ∃ R8, R8 = R7.set (j + 7) (L (bz .u32 .u32 v8)) := ⟨_, rfl⟩
 rw [← e8] at h8
 have z8 : R8.length = sz := by rw [e8, List.length_set]; exact z7
 have k8 : ∀ x, j + 8 ≤ x → R8[x]? = R[x]? := fun x hx => by rw [e8, List.getElem?_set_ne (by omega)] <;> exact k7 x (by omega)
 have g9 := rE 8 (by omega) s8
 have h9 : aa Tryz.prog 150 [.ptr 0 0 0 1, .ptr 2 0 (j + 8) 1, .int .i64 8] [Cr 1 s8.cb, Rd s8.l s8.rb, Va sz R8] (.tup []) [Cr 1 (py 8 s8).2.cb, Rd (py 8 s8).2.l (py 8 s8).2.rb, Va sz (hI R8 (j + 8) [L (ed (py 8 s8).1)])] := AE s8 sz R8 (j + 8) 8 (by rw [k8 _ (by omega)]; exact hN8) (by omega) (by omega) (by omega) (by omega)
 generalize py 8 s8 = q9 at h9 g9 ⊢
 obtain ⟨v9, s9⟩ := q9
 dsimp only at h9 g9 ⊢
 obtain ⟨R9, e9⟩ : ∃ R9, R9 = hI R8 (j + 8) [L (ed v9)] := ⟨_, rfl⟩
 rw [← e9] at h9
 have z9 : R9.length = sz := by rw [e9, iV]; exact z8
 have k9 : ∀ x, j + 9 ≤ x → R9[x]? = R[x]? := fun x hx => by rw [e9, iU _ _ _ _ (by simp only [List.length_cons, List.length_nil]; omega)] <;> exact k8 x (by omega)
 have eR : hI R j [.int .i64 (⟨v1, v2, v3, v4, v5, v6, v7, v8, v9⟩ : Qu).a, .int .i64 (⟨v1, v2, v3, v4, v5, v6, v7, v8, v9⟩ : Qu).b, .int .i64 (⟨v1, v2, v3, v4, v5, v6, v7, v8, v9⟩ : Qu).long, .int .i64 (⟨v1, v2, v3, v4, v5, v6, v7, v8, v9⟩ : Qu).grid, L (ar .u32 (⟨v1, v2, v3, v4, v5, v6, v7, v8, v9⟩ : Qu).must), L (bz .u32 .i64 (⟨v1, v2, v3, v4, v5, v6, v7, v8, v9⟩ : Qu).may), .int .i64 (⟨v1, v2, v3, v4, v5, v6, v7, v8, v9⟩ : Qu).seats, L (bz .u32 .u32 (⟨v1, v2, v3, v4, v5, v6, v7, v8, v9⟩ : Qu).apart), L (ed (⟨v1, v2, v3, v4, v5, v6, v7, v8, v9⟩ : Qu).prefer)] = R9 := by rw [e9, e8, e7, e6, e5, e4, e3, e2, e1] <;> rfl
 rw [eR]
 clear eR e1 e2 e3 e4 e5 e6 e7 e8 e9 k0 k1 k2 k3 k4 k5 k6 k7 k8 k9 z1 z2 z3 z4 z5 z6 z7 z8 z9
 refine wk [87, 131, 150] [(159, [], [0, 1, 2, 3]), (161, [], [0, 1, 2, 3]), (163, [], [0, 1, 2, 3])] j5 ?_
 exact fH [0, 1, 2] j5
def ku (s : Rs) : (Po) × Rs :=
 match bx 4294967295 s with
 | (v1, s1) =>
 match bx 4294967295 s1 with
 | (v2, s2) =>
 match ma s2 with
 | (v3, s3) =>
 match ap rK 40 s3 with
 | (v4, s4) =>
 match ap rM 4096 s4 with
 | (v5, s5) =>
 match gT s5 with
 | (v6, s6) =>
 match bx 4 s6 with
 | (v7, s7) =>
 match bx 40 s7 with
 | (v8, s8) =>
  (⟨v1, v2, v3, v4, v5, v6, v7, v8⟩, s8)
theorem xN (s : Rs) : (ku s).2.l.length ≤ s.l.length := by
 unfold ku
 have g1 := (br 4294967295 (by omega) s).1
 generalize bx 4294967295 s = q1 at g1 ⊢
 obtain ⟨v1, s1⟩ := q1
 dsimp only at g1 ⊢
 have g2 := (br 4294967295 (by omega) s1).1
 generalize bx 4294967295 s1 = q2 at g2 ⊢
 obtain ⟨v2, s2⟩ := q2
 dsimp only at g2 ⊢
 have g3 := xO s2
 generalize ma s2 = q3 at g3 ⊢
 obtain ⟨v3, s3⟩ := q3
 dsimp only at g3 ⊢
 have g4 := eg uc 40 (by omega) s3
 generalize ap rK 40 s3 = q4 at g4 ⊢
 obtain ⟨v4, s4⟩ := q4
 dsimp only at g4 ⊢
 have g5 := eg ue 4096 (by omega) s4
 generalize ap rM 4096 s4 = q5 at g5 ⊢
 obtain ⟨v5, s5⟩ := q5
 dsimp only at g5 ⊢
 have g6 := gQ s5
 generalize gT s5 = q6 at g6 ⊢
 obtain ⟨v6, s6⟩ := q6
 dsimp only at g6 ⊢
 have g7 := (br 4 (by omega) s6).1
 generalize bx 4 s6 = q7 at g7 ⊢
 obtain ⟨v7, s7⟩ := q7
 dsimp only at g7 ⊢
 have g8 := (br 40 (by omega) s7).1
 generalize bx 40 s7 = q8 at g8 ⊢
 obtain ⟨v8, s8⟩ := q8
 dsimp only at g8 ⊢
 omega
set_option maxHeartbeats 4000000 in
theorem cPo_r (s : Rs) (sz : Nat) (R : List D) (j : Nat) (hN6 : R[j + 6]? = some (.list (some true) true [])) (hN7 : R[j + 7]? = some (.list (some true) true [])) (hN9 : R[j + 9]? = some (.list (some true) true [])) (hN10 : R[j + 10]? = some (.list (some true) true [])) (hN11 : R[j + 11]? = some (.list (some true) true [])) (hN12 : R[j + 12]? = some (.list (some true) true [])) (hz : R.length = sz) (hj : j + 16 ≤ sz) (hl : s.l.length ≤ 1099511627776) :
  aa Tryz.prog 91 [.ptr 0 0 0 1, .ptr 2 0 j 1] [Cr 1 s.cb, Rd s.l s.rb, Va sz R] (.tup [])
   [Cr 1 (ku s).2.cb, Rd (ku s).2.l (ku s).2.rb, Va sz (hI R j [.int .u32 (ku s).1.id, .int .u32 (ku s).1.owner, .int .i64 (ku s).1.qu.a, .int .i64 (ku s).1.qu.b, .int .i64 (ku s).1.qu.long, .int .i64 (ku s).1.qu.grid, L (ar .u32 (ku s).1.qu.must), L (bz .u32 .i64 (ku s).1.qu.may), .int .i64 (ku s).1.qu.seats, L (bz .u32 .u32 (ku s).1.qu.apart), L (ed (ku s).1.qu.prefer), L (ar .i64 (ku s).1.slots), L (bz .u32 .i64 (ku s).1.votes), .int .i64 (ku s).1.til, .int .i64 (ku s).1.state, .int .i64 (ku s).1.winner])] := by
 refine aP Tryz.func91 low91 (by simp [c91]) ?_
 simp only [c91]
 unfold ku
 have z0 := hz
 have k0 : ∀ x, j + 0 ≤ x → R[x]? = R[x]? := fun _ _ => rfl
 have g1 := (br 4294967295 (by omega) s).1
 have h1 : aa Tryz.prog 94 [.ptr 0 0 0 1, .ptr 2 0 j 1] [Cr 1 s.cb, Rd s.l s.rb, Va sz R] (.tup []) [Cr 1 (bx 4294967295 s).2.cb, Rd (bx 4294967295 s).2.l (bx 4294967295 s).2.rb, Va sz (R.set j (.int .u32 (((bx 4294967295 s).1 : Nat) : Int)))] := kf s.l s.rb s.cb sz R j (by omega) (by omega) (by omega)
 generalize bx 4294967295 s = q1 at h1 g1 ⊢
 obtain ⟨v1, s1⟩ := q1
 dsimp only at h1 g1 ⊢
 obtain ⟨R1, e1⟩ : ∃ R1, R1 = R.set j (.int .u32 ((v1 : Nat) : Int)) := ⟨_, rfl⟩
 rw [← e1] at h1
 have z1 : R1.length = sz := by rw [e1, List.length_set]; exact z0
 have k1 : ∀ x, j + 1 ≤ x → R1[x]? = R[x]? := fun x hx => by rw [e1, List.getElem?_set_ne (by omega)] <;> exact k0 x (by omega)
 have g2 := (br 4294967295 (by omega) s1).1
 have h2 : aa Tryz.prog 94 [.ptr 0 0 0 1, .ptr 2 0 (j + 1) 1] [Cr 1 s1.cb, Rd s1.l s1.rb, Va sz R1] (.tup []) [Cr 1 (bx 4294967295 s1).2.cb, Rd (bx 4294967295 s1).2.l (bx 4294967295 s1).2.rb, Va sz (R1.set (j + 1) (.int .u32 (((bx 4294967295 s1).1 : Nat) : Int)))] := kf s1.l s1.rb s1.cb sz R1 (j + 1) (by omega) (by omega) (by omega)
 generalize bx 4294967295 s1 = q2 at h2 g2 ⊢
 obtain ⟨v2, s2⟩ := q2
 dsimp only at h2 g2 ⊢
 obtain ⟨R2, e2⟩ : ∃ R2, R2 = R1.set (j + 1) (.int .u32 ((v2 : Nat) : Int)) := ⟨_, rfl⟩
 rw [← e2] at h2
 have z2 : R2.length = sz := by rw [e2, List.length_set]; exact z1
 have k2 : ∀ x, j + 2 ≤ x → R2[x]? = R[x]? := fun x hx => by rw [e2, List.getElem?_set_ne (by omega)] <;> exact k1 x (by omega)
 have g3 := xO s2
 have h3 : aa Tryz.prog 126 [.ptr 0 0 0 1, .ptr 2 0 (j + 2) 1] [Cr 1 s2.cb, Rd s2.l s2.rb, Va sz R2] (.tup []) [Cr 1 (ma s2).2.cb, Rd (ma s2).2.l (ma s2).2.rb, Va sz (hI R2 (j + 2) [.int .i64 (ma s2).1.a, .int .i64 (ma s2).1.b, .int .i64 (ma s2).1.long, .int .i64 (ma s2).1.grid, L (ar .u32 (ma s2).1.must), L (bz .u32 .i64 (ma s2).1.may), .int .i64 (ma s2).1.seats, L (bz .u32 .u32 (ma s2).1.apart), L (ed (ma s2).1.prefer)])] := cQu_r s2 sz R2 (j + 2) (by rw [k2 _ (by omega)]; exact hN6) (by rw [k2 _ (by omega)]; exact hN7) (by rw [k2 _ (by omega)]; exact hN9) (by rw [k2 _ (by omega)]; exact hN10) (by omega) (by omega) (by omega)
 generalize ma s2 = q3 at h3 g3 ⊢
 obtain ⟨v3, s3⟩ := q3
 dsimp only at h3 g3 ⊢
 obtain ⟨R3, e3⟩ : ∃ R3, R3 = hI R2 (j + 2) [.int .i64 v3.a, .int .i64 v3.b, .int .i64 v3.long, .int .i64 v3.grid, L (ar .u32 v3.must), L (bz .u32 .i64 v3.may), .int .i64 v3.seats, L (bz .u32 .u32 v3.apart), L (ed v3.prefer)] := ⟨_, rfl⟩
 rw [← e3] at h3
 have z3 : R3.length = sz := by rw [e3, iV]; exact z2
 have k3 : ∀ x, j + 11 ≤ x → R3[x]? = R[x]? := fun x hx => by rw [e3, iU _ _ _ _ (by simp only [List.length_cons, List.length_nil]; omega)] <;> exact k2 x (by omega)
 have g4 := eg uc 40 (by omega) s3
 have h4 : aa Tryz.prog 127 [.ptr 0 0 0 1, .ptr 2 0 (j + 11) 1, .int .i64 40, .fn 128 [.ptr 3 0 0 1]] [Cr 1 s3.cb, Rd s3.l s3.rb, Va sz R3, Bx 0] (.tup []) [Cr 1 (ap rK 40 s3).2.cb, Rd (ap rK 40 s3).2.l (ap rK 40 s3).2.rb, Va sz (R3.set (j + 11) (L (ar .i64 (ap rK 40 s3).1))), Bx 0] := Ae s3 sz R3 (j + 11) 40 (by rw [k3 _ (by omega)]; exact hN11) (by omega) (by omega) (by omega)
 generalize ap rK 40 s3 = q4 at h4 g4 ⊢
 obtain ⟨v4, s4⟩ := q4
 dsimp only at h4 g4 ⊢
 obtain ⟨R4, e4⟩ : ∃ R4, R4 = R3.set (j + 11) (L (ar .i64 v4)) := ⟨_, rfl⟩
 rw [← e4] at h4
 have z4 : R4.length = sz := by rw [e4, List.length_set]; exact z3
 have k4 : ∀ x, j + 12 ≤ x → R4[x]? = R[x]? := fun x hx => by rw [e4, List.getElem?_set_ne (by omega)] <;> exact k3 x (by omega)
 have g5 := eg ue 4096 (by omega) s4
 have h5 : aa Tryz.prog 129 [.ptr 0 0 0 1, .ptr 2 0 (j + 12) 1, .int .i64 4096, .fn 130 [.ptr 3 0 0 1]] [Cr 1 s4.cb, Rd s4.l s4.rb, Va sz R4, Bx 0] (.tup []) [Cr 1 (ap rM 4096 s4).2.cb, Rd (ap rM 4096 s4).2.l (ap rM 4096 s4).2.rb, Va sz (R4.set (j + 12) (L (bz .u32 .i64 (ap rM 4096 s4).1))), Bx 0] := Ak s4 sz R4 (j + 12) 4096 (by rw [k4 _ (by omega)]; exact hN12) (by omega) (by omega) (by omega)
 generalize ap rM 4096 s4 = q5 at h5 g5 ⊢
 obtain ⟨v5, s5⟩ := q5
 dsimp only at h5 g5 ⊢
 obtain ⟨R5, e5⟩ : ∃ R5, R5 = R4.set (j + 12) (L (bz .u32 .i64 v5)) := ⟨_, rfl⟩
 rw [← e5] at h5
 have z5 : R5.length = sz := by rw [e5, List.length_set]; exact z4
 have k5 : ∀ x, j + 13 ≤ x → R5[x]? = R[x]? := fun x hx => by rw [e5, List.getElem?_set_ne (by omega)] <;> exact k4 x (by omega)
 have g6 := gQ s5
 have h6 : aa Tryz.prog 87 [.ptr 0 0 0 1, .ptr 2 0 (j + 13) 1] [Cr 1 s5.cb, Rd s5.l s5.rb, Va sz R5] (.tup []) [Cr 1 (gT s5).2.cb, Rd (gT s5).2.l (gT s5).2.rb, Va sz (R5.set (j + 13) (.int .i64 ((gT s5).1 : Int)))] := gU s5.l s5.rb s5.cb sz R5 (j + 13) (by omega) (by omega) (by omega)
 generalize gT s5 = q6 at h6 g6 ⊢
 obtain ⟨v6, s6⟩ := q6
 dsimp only at h6 g6 ⊢
 obtain ⟨R6, e6⟩ : ∃ R6, R6 = R5.set (j + 13) (.int .i64 (v6 : Int)) := ⟨_, rfl⟩
 rw [← e6] at h6
 have z6 : R6.length = sz := by rw [e6, List.length_set]; exact z5
 have k6 : ∀ x, j + 14 ≤ x → R6[x]? = R[x]? := fun x hx => by rw [e6, List.getElem?_set_ne (by omega)] <;> exact k5 x (by omega)
 have g7 := (br 4 (by omega) s6).1
 have h7 : aa Tryz.prog 131 [.ptr 0 0 0 1, .ptr 2 0 (j + 14) 1, .int .u64 4] [Cr 1 s6.cb, Rd s6.l s6.rb, Va sz R6] (.tup []) [Cr 1 (bx 4 s6).2.cb, Rd (bx 4 s6).2.l (bx 4 s6).2.rb, Va sz (R6.set (j + 14) (.int .i64 (((bx 4 s6).1 : Nat) : Int)))] := hM s6.l s6.rb s6.cb sz R6 (j + 14) 4 (by omega) (by omega) (by omega) (by omega)
 generalize bx 4 s6 = q7 at h7 g7 ⊢
 obtain ⟨v7, s7⟩ := q7
 dsimp only at h7 g7 ⊢
 obtain ⟨R7, e7⟩ : ∃ R7, R7 = R6.set (j + 14) (.int .i64 ((v7 : Nat) : Int)) := ⟨_, rfl⟩
 rw [← e7] at h7
 have z7 : R7.length = sz := by rw [e7, List.length_set]; exact z6
 have k7 : ∀ x, j + 15 ≤ x → R7[x]? = R[x]? := fun x hx => by rw [e7, List.getElem?_set_ne (by omega)] <;> exact k6 x (by omega)
 have g8 := (br 40 (by omega) s7).1
 have h8 : aa Tryz.prog 131 [.ptr 0 0 0 1, .ptr 2 0 (j + 15) 1, .int .u64 40] [Cr 1 s7.cb, Rd s7.l s7.rb, Va sz R7] (.tup []) [Cr 1 (bx 40 s7).2.cb, Rd (bx 40 s7).2.l (bx 40 s7).2.rb, Va sz (R7.set (j + 15) (.int .i64 (((bx 40 s7).1 : Nat) : Int)))] := hM s7.l s7.rb s7.cb sz R7 (j + 15) 40 (by omega) (by omega) (by omega) (by omega)
 generalize bx 40 s7 = q8 at h8 g8 ⊢
 obtain ⟨v8, s8⟩ := q8
 dsimp only at h8 g8 ⊢
 obtain ⟨R8, e8⟩ : ∃ R8, R8 = R7.set (j + 15) (.int .i64 ((v8 : Nat) : Int)) := ⟨_, rfl⟩
 rw [← e8] at h8
 have z8 : R8.length = sz := by rw [e8, List.length_set]; exact z7
 have k8 : ∀ x, j + 16 ≤ x → R8[x]? = R[x]? := fun x hx => by rw [e8, List.getElem?_set_ne (by omega)] <;> exact k7 x (by omega)
 have eR : hI R j [.int .u32 (⟨v1, v2, v3, v4, v5, v6, v7, v8⟩ : Po).id, .int .u32 (⟨v1, v2, v3, v4, v5, v6, v7, v8⟩ : Po).owner, .int .i64 (⟨v1, v2, v3, v4, v5, v6, v7, v8⟩ : Po).qu.a, .int .i64 (⟨v1, v2, v3, v4, v5, v6, v7, v8⟩ : Po).qu.b, .int .i64 (⟨v1, v2, v3, v4, v5, v6, v7, v8⟩ : Po).qu.long, .int .i64 (⟨v1, v2, v3, v4, v5, v6, v7, v8⟩ : Po).qu.grid, L (ar .u32 (⟨v1, v2, v3, v4, v5, v6, v7, v8⟩ : Po).qu.must), L (bz .u32 .i64 (⟨v1, v2, v3, v4, v5, v6, v7, v8⟩ : Po).qu.may), .int .i64 (⟨v1, v2, v3, v4, v5, v6, v7, v8⟩ : Po).qu.seats, L (bz .u32 .u32 (⟨v1, v2, v3, v4, v5, v6, v7, v8⟩ : Po).qu.apart), L (ed (⟨v1, v2, v3, v4, v5, v6, v7, v8⟩ : Po).qu.prefer), L (ar .i64 (⟨v1, v2, v3, v4, v5, v6, v7, v8⟩ : Po).slots), L (bz .u32 .i64 (⟨v1, v2, v3, v4, v5, v6, v7, v8⟩ : Po).votes), .int .i64 (⟨v1, v2, v3, v4, v5, v6, v7, v8⟩ : Po).til, .int .i64 (⟨v1, v2, v3, v4, v5, v6, v7, v8⟩ : Po).state, .int .i64 (⟨v1, v2, v3, v4, v5, v6, v7, v8⟩ : Po).winner] = R8 := by rw [e8, e7, e6, e5, e4, e3, e2, e1] <;> rfl
 rw [eR]
 clear eR e1 e2 e3 e4 e5 e6 e7 e8 k0 k1 k2 k3 k4 k5 k6 k7 k8 z1 z2 z3 z4 z5 z6 z7 z8
 refine wk [94, 126, 87, 131] [(127, [], [0, 1, 2, 3]), (129, [], [0, 1, 2, 3])] j5 ?_
 exact fH [0, 1, 2] j5
end Go.Proofs.YtapennlmboabeaaGreat

namespace Go.Proofs.YtapennlmboabeaaGreat
open Go Go.Vi
abbrev Ru0 : Ru := ⟨0, 0, 0, 0, [], [], [], [], 0⟩
def evR (R : List D) (j : Nat) (e : Ev) : List D := if e.again = true then hI (((R.set j (.int .i64 e.start)).set (j + 1) (.int .i64 e.long)).set (j + 3) (.bool true)) (j + 4) [.int .i64 e.rule.freq, .int .i64 e.rule.interval, .int .i64 e.rule.count, .int .i64 e.rule.til, L (ar .i64 e.rule.bm), L (ar .i64 e.rule.bmd), L (bz .i64 .i64 e.rule.bd), L (ar .i64 e.rule.bsp), .int .i64 e.rule.start, L (ar .i64 e.ex), L (ar .i64 e.plus), L (ed e.ch)] else (((R.set j (.int .i64 e.start)).set (j + 1) (.int .i64 e.long)).set (j + 3) (.bool false)).set (j + 2) (.bool e.world)
def xK (v1 : Int) (v2 : Nat) (s3 : Rs) : Ev × Rs :=
 match lT s3 with
 | (v4, s4) =>
 match ap qK 50 s4 with
 | (v5, s5) =>
 match ap qL 50 s5 with
 | (v6, s6) =>
 match ap qI 50 s6 with
 | (v7, s7) =>
  (⟨v1, v2, false, true, v4, v5, v6, v7⟩, s7)
def xJ (v1 : Int) (v2 : Nat) (s3 : Rs) : Ev × Rs :=
 match rQ s3 with
 | (v4, s4) =>
  (⟨v1, v2, v4, false, Ru0, [], [], []⟩, s4)
def oj (s : Rs) : Ev × Rs :=
 match gT s with
 | (v1, s1) =>
 match bx 10080 s1 with
 | (v2, s2) =>
 match rQ s2 with
 | (v3, s3) =>
 if v3 = true then xK v1 v2 s3 else xJ v1 v2 s3
theorem xM (s : Rs) : (oj s).2.l.length ≤ s.l.length := by
 unfold oj
 have g1 := gQ s
 generalize gT s = q1 at g1 ⊢
 obtain ⟨v1, s1⟩ := q1
 dsimp only at g1 ⊢
 have g2 := (br 10080 (by omega) s1).1
 generalize bx 10080 s1 = q2 at g2 ⊢
 obtain ⟨v2, s2⟩ := q2
 dsimp only at g2 ⊢
 have g3 := rR s2
 generalize rQ s2 = q3 at g3 ⊢
 obtain ⟨v3, s3⟩ := q3
 dsimp only at g3 ⊢
 split
 ·unfold xK
  have g4 := xP s3
  generalize lT s3 = q4 at g4 ⊢
  obtain ⟨v4, s4⟩ := q4
  dsimp only at g4 ⊢
  have g5 := eg t5 50 (by omega) s4
  generalize ap qK 50 s4 = q5 at g5 ⊢
  obtain ⟨v5, s5⟩ := q5
  dsimp only at g5 ⊢
  have g6 := eg t9 50 (by omega) s5
  generalize ap qL 50 s5 = q6 at g6 ⊢
  obtain ⟨v6, s6⟩ := q6
  dsimp only at g6 ⊢
  have g7 := eg t0 50 (by omega) s6
  generalize ap qI 50 s6 = q7 at g7 ⊢
  obtain ⟨v7, s7⟩ := q7
  dsimp only at g7 ⊢
  omega
 ·unfold xJ
  have g4 := rR s3
  generalize rQ s3 = q4 at g4 ⊢
  obtain ⟨v4, s4⟩ := q4
  dsimp only at g4 ⊢
  omega
set_option maxHeartbeats 8000000 in
theorem cEv_r (s : Rs) (sz : Nat) (R : List D) (j : Nat) (hN8 : R[j + 8]? = some (.list (some true) true [])) (hN9 : R[j + 9]? = some (.list (some true) true [])) (hN10 : R[j + 10]? = some (.list (some true) true [])) (hN11 : R[j + 11]? = some (.list (some true) true [])) (hN13 : R[j + 13]? = some (.list (some true) true [])) (hN14 : R[j + 14]? = some (.list (some true) true [])) (hN15 : R[j + 15]? = some (.list (some true) true [])) (hz : R.length = sz) (hj : j + 16 ≤ sz) (hl : s.l.length ≤ 1099511627776) :
  aa Tryz.prog 125 [.ptr 0 0 0 1, .ptr 2 0 j 1] [Cr 1 s.cb, Rd s.l s.rb, Va sz R] (.tup [])
   [Cr 1 (oj s).2.cb, Rd (oj s).2.l (oj s).2.rb, Va sz (evR R j (oj s).1)] := by
 refine aP Tryz.func125 low125 (by simp [c125]) ?_
 simp only [c125]
 unfold oj
 have z0 := hz
 have k0 : ∀ x, j + 0 ≤ x → R[x]? = R[x]? := fun _ _ => rfl
 have g1 := gQ s
 have h1 : aa Tryz.prog 87 [.ptr 0 0 0 1, .ptr 2 0 j 1] [Cr 1 s.cb, Rd s.l s.rb, Va sz R] (.tup []) [Cr 1 (gT s).2.cb, Rd (gT s).2.l (gT s).2.rb, Va sz (R.set j (.int .i64 ((gT s).1 : Int)))] := gU s.l s.rb s.cb sz R j (by omega) (by omega) (by omega)
 generalize gT s = q1 at h1 g1 ⊢
 obtain ⟨v1, s1⟩ := q1
 dsimp only at h1 g1 ⊢
 obtain ⟨R1, e1⟩ : ∃ R1, R1 = R.set j (.int .i64 (v1 : Int)) := ⟨_, rfl⟩
 rw [← e1] at h1
 have z1 : R1.length = sz := by rw [e1, List.length_set]; exact z0
 have k1 : ∀ x, j + 1 ≤ x → R1[x]? = R[x]? := fun x hx => by rw [e1, List.getElem?_set_ne (by omega)] <;> exact k0 x (by omega)
 have g2 := (br 10080 (by omega) s1).1
 have h2 : aa Tryz.prog 131 [.ptr 0 0 0 1, .ptr 2 0 (j + 1) 1, .int .u64 10080] [Cr 1 s1.cb, Rd s1.l s1.rb, Va sz R1] (.tup []) [Cr 1 (bx 10080 s1).2.cb, Rd (bx 10080 s1).2.l (bx 10080 s1).2.rb, Va sz (R1.set (j + 1) (.int .i64 (((bx 10080 s1).1 : Nat) : Int)))] := hM s1.l s1.rb s1.cb sz R1 (j + 1) 10080 (by omega) (by omega) (by omega) (by omega)
 generalize bx 10080 s1 = q2 at h2 g2 ⊢
 obtain ⟨v2, s2⟩ := q2
 dsimp only at h2 g2 ⊢
 obtain ⟨R2, e2⟩ : ∃ R2, R2 = R1.set (j + 1) (.int .i64 ((v2 : Nat) : Int)) := ⟨_, rfl⟩
 rw [← e2] at h2
 have z2 : R2.length = sz := by rw [e2, List.length_set]; exact z1
 have k2 : ∀ x, j + 2 ≤ x → R2[x]? = R[x]? := fun x hx => by rw [e2, List.getElem?_set_ne (by omega)] <;> exact k1 x (by omega)
 have g3 := rR s2
 have h3 : aa Tryz.prog 153 [.ptr 0 0 0 1, .ptr 2 0 (j + 3) 1] [Cr 1 s2.cb, Rd s2.l s2.rb, Va sz R2] (.tup []) [Cr 1 (rQ s2).2.cb, Rd (rQ s2).2.l (rQ s2).2.rb, Va sz (R2.set (j + 3) (.bool (rQ s2).1))] := xe s2.l s2.rb s2.cb sz R2 (j + 3) (by omega) (by omega) (by omega)
 generalize rQ s2 = q3 at h3 g3 ⊢
 obtain ⟨v3, s3⟩ := q3
 dsimp only at h3 g3 ⊢
 obtain ⟨R3, e3⟩ : ∃ R3, R3 = R2.set (j + 3) (.bool v3) := ⟨_, rfl⟩
 rw [← e3] at h3
 have z3 : R3.length = sz := by rw [e3, List.length_set]; exact z2
 have k3 : ∀ x, j + 4 ≤ x → R3[x]? = R[x]? := fun x hx => by rw [e3, List.getElem?_set_ne (by omega)] <;> exact k2 x (by omega)
 have hA : R3[j + 3]? = some (.bool v3) := by rw [e3, List.getElem?_set_self (by rw [z2]; omega)]
 cases v3
 ·simp only [Bool.false_eq_true, reduceIte]
  unfold xJ
  have g4 := rR s3
  have h4 : aa Tryz.prog 153 [.ptr 0 0 0 1, .ptr 2 0 (j + 2) 1] [Cr 1 s3.cb, Rd s3.l s3.rb, Va sz R3] (.tup []) [Cr 1 (rQ s3).2.cb, Rd (rQ s3).2.l (rQ s3).2.rb, Va sz (R3.set (j + 2) (.bool (rQ s3).1))] := xe s3.l s3.rb s3.cb sz R3 (j + 2) (by omega) (by omega) (by omega)
  generalize rQ s3 = q4 at h4 g4 ⊢
  obtain ⟨v4, s4⟩ := q4
  dsimp only at h4 g4 ⊢
  obtain ⟨R4, e4⟩ : ∃ R4, R4 = R3.set (j + 2) (.bool v4) := ⟨_, rfl⟩
  rw [← e4] at h4
  have z4 : R4.length = sz := by rw [e4, List.length_set]; exact z3
  have eR : evR R j ⟨v1, v2, v4, false, Ru0, [], [], []⟩ = R4 := by rw [e4, e3, e2, e1] <;> rfl
  rw [eR]
  clear eR e1 e2 e3 e4 k0 k1 k2 k3 z1 z2 z3 z4
  refine wk [87, 131, 153] [] hA ?_
  exact fH [0, 1, 2] trivial
 ·simp only [reduceIte]
  unfold xK
  have g4 := xP s3
  have h4 : aa Tryz.prog 154 [.ptr 0 0 0 1, .ptr 2 0 (j + 4) 1] [Cr 1 s3.cb, Rd s3.l s3.rb, Va sz R3] (.tup []) [Cr 1 (lT s3).2.cb, Rd (lT s3).2.l (lT s3).2.rb, Va sz (hI R3 (j + 4) [.int .i64 (lT s3).1.freq, .int .i64 (lT s3).1.interval, .int .i64 (lT s3).1.count, .int .i64 (lT s3).1.til, L (ar .i64 (lT s3).1.bm), L (ar .i64 (lT s3).1.bmd), L (bz .i64 .i64 (lT s3).1.bd), L (ar .i64 (lT s3).1.bsp), .int .i64 (lT s3).1.start])] := cRu_r s3 sz R3 (j + 4) (by rw [k3 _ (by omega)]; exact hN8) (by rw [k3 _ (by omega)]; exact hN9) (by rw [k3 _ (by omega)]; exact hN10) (by rw [k3 _ (by omega)]; exact hN11) (by omega) (by omega) (by omega)
  generalize lT s3 = q4 at h4 g4 ⊢
  obtain ⟨v4, s4⟩ := q4
  dsimp only at h4 g4 ⊢
  obtain ⟨R4, e4⟩ : ∃ R4, R4 = hI R3 (j + 4) [.int .i64 v4.freq, .int .i64 v4.interval, .int .i64 v4.count, .int .i64 v4.til, L (ar .i64 v4.bm), L (ar .i64 v4.bmd), L (bz .i64 .i64 v4.bd), L (ar .i64 v4.bsp), .int .i64 v4.start] := ⟨_, rfl⟩
  rw [← e4] at h4
  have z4 : R4.length = sz := by rw [e4, iV]; exact z3
  have k4 : ∀ x, j + 13 ≤ x → R4[x]? = R[x]? := fun x hx => by rw [e4, iU _ _ _ _ (by simp only [List.length_cons, List.length_nil]; omega)] <;> exact k3 x (by omega)
  have g5 := eg t5 50 (by omega) s4
  have h5 : aa Tryz.prog 127 [.ptr 0 0 0 1, .ptr 2 0 (j + 13) 1, .int .i64 50, .fn 155 [.ptr 3 0 0 1]] [Cr 1 s4.cb, Rd s4.l s4.rb, Va sz R4, Bx 0] (.tup []) [Cr 1 (ap qK 50 s4).2.cb, Rd (ap qK 50 s4).2.l (ap qK 50 s4).2.rb, Va sz (R4.set (j + 13) (L (ar .i64 (ap qK 50 s4).1))), Bx 0] := zM s4 sz R4 (j + 13) 50 (by rw [k4 _ (by omega)]; exact hN13) (by omega) (by omega) (by omega)
  generalize ap qK 50 s4 = q5 at h5 g5 ⊢
  obtain ⟨v5, s5⟩ := q5
  dsimp only at h5 g5 ⊢
  obtain ⟨R5, e5⟩ : ∃ R5, R5 = R4.set (j + 13) (L (ar .i64 v5)) := ⟨_, rfl⟩
  rw [← e5] at h5
  have z5 : R5.length = sz := by rw [e5, List.length_set]; exact z4
  have k5 : ∀ x, j + 14 ≤ x → R5[x]? = R[x]? := fun x hx => by rw [e5, List.getElem?_set_ne (by omega)] <;> exact k4 x (by omega)
  have g6 := eg t9 50 (by omega) s5
  have h6 : aa Tryz.prog 127 [.ptr 0 0 0 1, .ptr 2 0 (j + 14) 1, .int .i64 50, .fn 156 [.ptr 3 0 0 1]] [Cr 1 s5.cb, Rd s5.l s5.rb, Va sz R5, Bx 0] (.tup []) [Cr 1 (ap qL 50 s5).2.cb, Rd (ap qL 50 s5).2.l (ap qL 50 s5).2.rb, Va sz (R5.set (j + 14) (L (ar .i64 (ap qL 50 s5).1))), Bx 0] := zW s5 sz R5 (j + 14) 50 (by rw [k5 _ (by omega)]; exact hN14) (by omega) (by omega) (by omega)
  generalize ap qL 50 s5 = q6 at h6 g6 ⊢
  obtain ⟨v6, s6⟩ := q6
  dsimp only at h6 g6 ⊢
  obtain ⟨R6, e6⟩ : ∃ R6, R6 = R5.set (j + 14) (L (ar .i64 v6)) := ⟨_, rfl⟩
  rw [← e6] at h6
  have z6 : R6.length = sz := by rw [e6, List.length_set]; exact z5
  have k6 : ∀ x, j + 15 ≤ x → R6[x]? = R[x]? := fun x hx => by rw [e6, List.getElem?_set_ne (by omega)] <;> exact k5 x (by omega)
  have g7 := eg t0 50 (by omega) s6
  have h7 : aa Tryz.prog 157 [.ptr 0 0 0 1, .ptr 2 0 (j + 15) 1, .int .i64 50, .fn 158 [.ptr 3 0 0 1]] [Cr 1 s6.cb, Rd s6.l s6.rb, Va sz R6, Bx 0] (.tup []) [Cr 1 (ap qI 50 s6).2.cb, Rd (ap qI 50 s6).2.l (ap qI 50 s6).2.rb, Va sz (R6.set (j + 15) (L (ed (ap qI 50 s6).1))), Bx 0] := zD s6 sz R6 (j + 15) 50 (by rw [k6 _ (by omega)]; exact hN15) (by omega) (by omega) (by omega)
  generalize ap qI 50 s6 = q7 at h7 g7 ⊢
  obtain ⟨v7, s7⟩ := q7
  dsimp only at h7 g7 ⊢
  obtain ⟨R7, e7⟩ : ∃ R7, R7 = R6.set (j + 15) (L (ed v7)) := ⟨_, rfl⟩
  rw [← e7] at h7
  have z7 : R7.length = sz := by rw [e7, List.length_set]; exact z6
  have k7 : ∀ x, j + 16 ≤ x → R7[x]? = R[x]? := fun x hx => by rw [e7, List.getElem?_set_ne (by omega)] <;> exact k6 x (by omega)
  have eR : evR R j ⟨v1, v2, false, true, v4, v5, v6, v7⟩ = R7 := by rw [e7, e6, e5, e4, e3, e2, e1] <;> rfl
  rw [eR]
  clear eR e1 e2 e3 e4 e5 e6 e7 k0 k1 k2 k3 k4 k5 k6 k7 z1 z2 z3 z4 z5 z6 z7
  refine wk [87, 131, 153, 154] [(127, [], [0, 1, 2, 3]), (157, [], [0, 1, 2, 3])] hA ?_
  exact fH [0, 1, 2] trivial
end Go.Proofs.YtapennlmboabeaaGreat

namespace Go.Proofs.YtapennlmboabeaaGreat
open Go Go.Vi
structure As where
 kind : Int
 caller : Int
 number : Int
 user : Int
 id : Int
 se : Se
 ev : Ev
 qu : Qu
 cursor : ByteArray
 count : Int
 poll : Int
 slot : Int
 yes : Bool
 til : Int
def As.cells (a : As) : List D := [.int .i64 a.kind, .int .u32 a.caller, .int .u64 a.number, .int .u32 a.user, .int .u32 a.id, .int .i64 a.se.base, L (bz .i64 .i64 a.se.turns), L (ed a.se.shifts), L (ar .i64 a.se.off), .int .i64 a.se.before, .int .i64 a.se.after, .int .i64 a.ev.start, .int .i64 a.ev.long, .bool a.ev.world, .bool a.ev.again, .int .i64 a.ev.rule.freq, .int .i64 a.ev.rule.interval, .int .i64 a.ev.rule.count, .int .i64 a.ev.rule.til, L (ar .i64 a.ev.rule.bm), L (ar .i64 a.ev.rule.bmd), L (bz .i64 .i64 a.ev.rule.bd), L (ar .i64 a.ev.rule.bsp), .int .i64 a.ev.rule.start, L (ar .i64 a.ev.ex), L (ar .i64 a.ev.plus), L (ed a.ev.ch), .int .i64 a.qu.a, .int .i64 a.qu.b, .int .i64 a.qu.long, .int .i64 a.qu.grid, L (ar .u32 a.qu.must), L (bz .u32 .i64 a.qu.may), .int .i64 a.qu.seats, L (bz .u32 .u32 a.qu.apart), L (ed a.qu.prefer), .str a.cursor, .int .i64 a.count, .int .u32 a.poll, .int .i64 a.slot, .bool a.yes, .int .i64 a.til]
theorem cEv_w (l : List UInt8) (bad : Bool) (sz : Nat) (R : List D) (j : Nat) (e : Ev) (hR0 : R[j]? = some (.int .i64 e.start)) (hR1 : R[j + 1]? = some (.int .i64 e.long)) (hR2 : R[j + 2]? = some (.bool e.world)) (hR3 : R[j + 3]? = some (.bool e.again)) (hR4 : R[j + 4]? = some (.int .i64 e.rule.freq)) (hR5 : R[j + 5]? = some (.int .i64 e.rule.interval)) (hR6 : R[j + 6]? = some (.int .i64 e.rule.count)) (hR7 : R[j + 7]? = some (.int .i64 e.rule.til)) (hR8 : R[j + 8]? = some (L (ar .i64 e.rule.bm))) (hR9 : R[j + 9]? = some (L (ar .i64 e.rule.bmd))) (hR10 : R[j + 10]? = some (L (bz .i64 .i64 e.rule.bd))) (hR11 : R[j + 11]? = some (L (ar .i64 e.rule.bsp))) (hR12 : R[j + 12]? = some (.int .i64 e.rule.start)) (hR13 : R[j + 13]? = some (L (ar .i64 e.ex))) (hR14 : R[j + 14]? = some (L (ar .i64 e.plus))) (hR15 : R[j + 15]? = some (L (ed e.ch))) (hf : fEv e) (hl : (l ++ wT e).length ≤ 1099511627776) :
  aa Tryz.prog 125 [.ptr 0 0 0 1, .ptr 3 0 j 1] [Cw 1 bad, Ww 2 l.length, bw true 1 true (r8 l), Va sz R] (.tup [])
   [Cw 1 (bad || C9 e), Ww 2 (l ++ wT e).length, bw true 1 true (r8 (l ++ wT e)), Va sz R] := by
 unfold wT C9
 unfold wT at hl
 cases ha : e.again
 ·rw [if_neg (by rw [ha]; simp)] at hl
  rw [if_neg (by simp), if_neg (by simp)]
  exact cE0_w l bad sz R j e ha hR0 hR1 hR2 hR3 hf.1 hl
 ·rw [if_pos ha] at hl
  rw [if_pos rfl, if_pos rfl]
  exact cE1_w l bad sz R j e ha hR0 hR1 hR3 hR4 hR5 hR6 hR7 hR8 hR9 hR10 hR11 hR12 hR13 hR14 hR15 hf.2 hl
structure fAs (a : As) : Prop where
 kind : iY a.kind
 caller : 0 ≤ a.caller ∧ a.caller ≤ 4294967295
 number : 0 ≤ a.number ∧ a.number ≤ 18446744073709551615
 id : 0 ≤ a.id ∧ a.id ≤ 4294967295
 se : Cg a.se
 ev : fEv a.ev
 qu : AT a.qu
 cursor : a.cursor.size ≤ 1099511627776
 count : iY a.count
 poll : 0 ≤ a.poll ∧ a.poll ≤ 4294967295
 slot : iY a.slot
 til : iY a.til
end Go.Proofs.YtapennlmboabeaaGreat

namespace Go.Proofs.YtapennlmboabeaaGreat
open Go Go.Vi
theorem xL (s : Rs) : ((oj s).1.again = true ∧ (oj s).1.world = false) ∨ ((oj s).1.again = false ∧ (oj s).1.rule = Ru0 ∧ (oj s).1.ex = [] ∧ (oj s).1.plus = [] ∧ (oj s).1.ch = []) := by
 unfold oj
 generalize gT s = q1
 obtain ⟨v1, s1⟩ := q1
 dsimp only
 generalize bx 10080 s1 = q2
 obtain ⟨v2, s2⟩ := q2
 dsimp only
 generalize rQ s2 = q3
 obtain ⟨v3, s3⟩ := q3
 dsimp only
 split
 ·unfold xK
  generalize lT s3 = q4
  obtain ⟨v4, s4⟩ := q4
  dsimp only
  generalize ap qK 50 s4 = q5
  obtain ⟨v5, s5⟩ := q5
  dsimp only
  generalize ap qL 50 s5 = q6
  obtain ⟨v6, s6⟩ := q6
  dsimp only
  generalize ap qI 50 s6 = q7
  obtain ⟨v7, s7⟩ := q7
  dsimp only
  exact .inl ⟨rfl, rfl⟩
 ·unfold xJ
  generalize rQ s3 = q4
  obtain ⟨v4, s4⟩ := q4
  dsimp only
  exact .inr ⟨rfl, rfl, rfl, rfl, rfl⟩
end Go.Proofs.YtapennlmboabeaaGreat
