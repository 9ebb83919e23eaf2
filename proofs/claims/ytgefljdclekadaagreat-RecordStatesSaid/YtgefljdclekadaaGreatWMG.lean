import Derived.Test.YtgefljdclekadaaGreatWME
import Derived.Test.YtgefljdclekadaaGreatVi25
import Derived.Test.YtgefljdclekadaaGreatVi31
set_option linter.unusedVariables false
set_option linter.unusedSimpArgs false
namespace Go.Proofs.YtgefljdclekadaaGreat
open Go Go.Vi
def rQ (b : Int) (ts : List (Int × Int)) : List UInt8 := bl (zz b) ++ (aY mV ts)
def xZ (b : Int) (ts : List (Int × Int)) : Bool := decide (b < (-900) ∨ 900 < b) || (bn nL 700 ts)
def fZo (b : Int) (ts : List (Int × Int)) : Prop := dv b ∧ ((ts.length ≤ 140737488351232 ∧ ∀ x ∈ ts, vA x))
set_option maxHeartbeats 2000000 in
theorem cZo_w (l : List UInt8) (bad : Bool) (sz : Nat) (R : List D) (j : Nat) (b : Int) (ts : List (Int × Int))  (hR0 : R[j]? = some (.int .i64 b)) (hR1 : R[j + 1]? = some (L (aV .i64 .i64 ts))) (hf : fZo b ts) (hl : (l ++ rQ b ts).length ≤ 1099511627776) :
  az Tryz.prog 118 [.ptr 0 0 0 1, .ptr 3 0 j 1] [Cw 1 bad, Ww 2 l.length, ba true 1 true (r8 l), Va sz R] (.tup [])
   [Cw 1 (bad || xZ b ts), Ww 2 (l ++ rQ b ts).length, ba true 1 true (r8 (l ++ rQ b ts)), Va sz R] := by
 refine aS Tryz.func118 low118 (by simp [c118]) ?_
 simp only [c118]
 unfold fZo at hf
 obtain ⟨l1, e1⟩ : ∃ l1, l1 = l ++ bl (zz b) := ⟨_, rfl⟩
 obtain ⟨b1, d1⟩ : ∃ b1, b1 = (bad || decide (b < (-900) ∨ 900 < b)) := ⟨_, rfl⟩
 obtain ⟨l2, e2⟩ : ∃ l2, l2 = l1 ++ aY mV ts := ⟨_, rfl⟩
 obtain ⟨b2, d2⟩ : ∃ b2, b2 = (b1 || bn nL 700 ts) := ⟨_, rfl⟩
 have el : l ++ rQ b ts = l2 := by rw [e2, e1]; simp only [rQ, zJ]
 have eb : (bad || xZ b ts) = b2 := by rw [d2, d1]; simp only [xZ, zQ]
 rw [el] at hl
 rw [el, eb]
 have g1 : l1.length ≤ l2.length := by rw [e2, zB]; omega
 have g0 : l.length ≤ l1.length := by rw [e1, zB]; omega
 have h1 := nA l bad sz R j b (-900) 900 hR0 hf.1 (by omega)
 rw [← e1, ← d1] at h1
 have h2 := xc l1 b1 sz R (j + 1) 700 ts hR1 (by omega) hf.2.1 hf.2.2 (by rw [← e2]; omega)
 rw [← e2, ← d2] at h2
 clear e1 e2 d1 d2 el eb
 repeat' ((first | apply ah | apply ai | apply af | apply ak mixed | apply ap mixed | (with_reducible first | refine au ?_ | refine aA (f := .c (.fn 136 [])) ?_ | refine aT (f := .c (.fn 137 [])) (z := []) (q := [0, 1, 2, 3, 4]) ?_ | refine aO (f := .c (.fn 137 [])) (z := []) (q := [0, 1, 2, 3, 4]) ?_ | refine aw ?_ | refine am (h1) (by simp) ?_ | refine am (h2) (by simp) ?_) | (with_reducible refine ⟨?_, ?_⟩; (focus ((repeat' with_reducible refine ⟨?_, ?_⟩) <;> first | exact trivial | assumption | (simp; done) | (simp only [zA] at *; omega) | omega | (simp [fs]; done) | exact ax))) | (with_reducible intro x hx) | omega) <;> (try simp only [Nat.reduceBEq, reduceIte, Nat.reduceEqDiff, Nat.reduceAdd, Nat.reduceSub, Nat.reduceLT, reduceCtorEq, ne_eq, Int.reduceNeg, fw, fd]))
 refine ay [0, 1, 2, 3] (by rfl) (by simp) (by simp [fg])
def ke (ss : List (Int × Int × Int)) : List UInt8 := aY lR ss
def pc (most : Nat) (ss : List (Int × Int × Int)) : Bool := bn iX most ss
def vr (ss : List (Int × Int × Int)) : Prop := (ss.length ≤ 140737488351232 ∧ ∀ x ∈ ss, tx x)
set_option maxHeartbeats 2000000 in
theorem xw (l : List UInt8) (bad : Bool) (sz : Nat) (R : List D) (j : Nat) (most : Nat) (ss : List (Int × Int × Int))  (hR0 : R[j]? = some (L (bo ss))) (hm : most < 1000000) (hf : vr ss) (hl : (l ++ ke ss).length ≤ 1099511627776) :
  az Tryz.prog 119 [.ptr 0 0 0 1, .ptr 3 0 j 1, .int .i64 most] [Cw 1 bad, Ww 2 l.length, ba true 1 true (r8 l), Va sz R] (.tup [])
   [Cw 1 (bad || pc most ss), Ww 2 (l ++ ke ss).length, ba true 1 true (r8 (l ++ ke ss)), Va sz R] := by
 refine aS Tryz.func119 low119 (by simp [c119]) ?_
 simp only [c119]
 unfold vr at hf
 obtain ⟨l1, e1⟩ : ∃ l1, l1 = l ++ aY lR ss := ⟨_, rfl⟩
 obtain ⟨b1, d1⟩ : ∃ b1, b1 = (bad || bn iX most ss) := ⟨_, rfl⟩
 have el : l ++ ke ss = l1 := by rw [e1]; simp only [ke]
 have eb : (bad || pc most ss) = b1 := by rw [d1]; simp only [pc]
 rw [el] at hl
 rw [el, eb]
 have g0 : l.length ≤ l1.length := by rw [e1, zB]; omega
 have h1 := wX l bad sz R j most ss hR0 (by omega) hf.1 hf.2 (by rw [← e1]; omega)
 rw [← e1, ← d1] at h1
 clear e1 d1 el eb
 repeat' ((first | apply ah | apply ai | apply af | apply ak mixed | (with_reducible first | refine au ?_ | refine aT (f := .c (.fn 139 [])) (z := []) (q := [0, 1, 2, 3, 4]) ?_ | refine aO (f := .c (.fn 139 [])) (z := []) (q := [0, 1, 2, 3, 4]) ?_ | refine ar ?_ | refine am (h1) (by simp) ?_) | (with_reducible refine ⟨?_, ?_⟩; (focus ((repeat' with_reducible refine ⟨?_, ?_⟩) <;> first | exact trivial | assumption | (simp; done) | (simp only [zA] at *; omega) | omega | (simp [fs]; done) | exact ax))) | (with_reducible intro x hx) | omega) <;> (try simp only [Nat.reduceBEq, reduceIte, Nat.reduceAdd, Nat.reduceSub, Nat.reduceLT, reduceCtorEq, ne_eq, fw, fd]))
 refine ay [0, 1, 2, 3] (by rfl) (by simp) (by simp [fg])
def pk (s : Se) : List UInt8 := rQ s.base s.turns ++ (ke s.shifts ++ (aY nP s.off ++ (bl (uI s.before) ++ (bl (uI s.after)))))
def mI (s : Se) : Bool := xZ s.base s.turns || (pc 10 s.shifts || (bn nI 60 s.off || (decide (240 < uI s.before) || (decide (240 < uI s.after)))))
def wb (s : Se) : Prop := fZo s.base s.turns ∧ (vr s.shifts ∧ ((s.off.length ≤ 140737488351232 ∧ ∀ x ∈ s.off, vu x) ∧ (dv s.before ∧ (dv s.after))))
set_option maxHeartbeats 2000000 in
theorem cSe_w (l : List UInt8) (bad : Bool) (sz : Nat) (R : List D) (j : Nat) (s : Se)  (hR0 : R[j]? = some (.int .i64 s.base)) (hR1 : R[j + 1]? = some (L (aV .i64 .i64 s.turns))) (hR2 : R[j + 2]? = some (L (bo s.shifts))) (hR3 : R[j + 3]? = some (L (aJ .i64 s.off))) (hR4 : R[j + 4]? = some (.int .i64 s.before)) (hR5 : R[j + 5]? = some (.int .i64 s.after)) (hf : wb s) (hl : (l ++ pk s).length ≤ 1099511627776) :
  az Tryz.prog 93 [.ptr 0 0 0 1, .ptr 3 0 j 1] [Cw 1 bad, Ww 2 l.length, ba true 1 true (r8 l), Va sz R] (.tup [])
   [Cw 1 (bad || mI s), Ww 2 (l ++ pk s).length, ba true 1 true (r8 (l ++ pk s)), Va sz R] := by
 refine aS Tryz.func93 low93 (by simp [c93]) ?_
 simp only [c93]
 unfold wb at hf
 obtain ⟨l1, e1⟩ : ∃ l1, l1 = l ++ rQ s.base s.turns := ⟨_, rfl⟩
 obtain ⟨b1, d1⟩ : ∃ b1, b1 = (bad || xZ s.base s.turns) := ⟨_, rfl⟩
 obtain ⟨l2, e2⟩ : ∃ l2, l2 = l1 ++ ke s.shifts := ⟨_, rfl⟩
 obtain ⟨b2, d2⟩ : ∃ b2, b2 = (b1 || pc 10 s.shifts) := ⟨_, rfl⟩
 obtain ⟨l3, e3⟩ : ∃ l3, l3 = l2 ++ aY nP s.off := ⟨_, rfl⟩
 obtain ⟨b3, d3⟩ : ∃ b3, b3 = (b2 || bn nI 60 s.off) := ⟨_, rfl⟩
 obtain ⟨l4, e4⟩ : ∃ l4, l4 = l3 ++ bl (uI s.before) := ⟨_, rfl⟩
 obtain ⟨b4, d4⟩ : ∃ b4, b4 = (b3 || decide (240 < uI s.before)) := ⟨_, rfl⟩
 obtain ⟨l5, e5⟩ : ∃ l5, l5 = l4 ++ bl (uI s.after) := ⟨_, rfl⟩
 obtain ⟨b5, d5⟩ : ∃ b5, b5 = (b4 || decide (240 < uI s.after)) := ⟨_, rfl⟩
 have el : l ++ pk s = l5 := by rw [e5, e4, e3, e2, e1]; simp only [pk, zJ]
 have eb : (bad || mI s) = b5 := by rw [d5, d4, d3, d2, d1]; simp only [mI, zQ]
 rw [el] at hl
 rw [el, eb]
 have g4 : l4.length ≤ l5.length := by rw [e5, zB]; omega
 have g3 : l3.length ≤ l4.length := by rw [e4, zB]; omega
 have g2 : l2.length ≤ l3.length := by rw [e3, zB]; omega
 have g1 : l1.length ≤ l2.length := by rw [e2, zB]; omega
 have g0 : l.length ≤ l1.length := by rw [e1, zB]; omega
 have h1 := cZo_w l bad sz R j s.base s.turns hR0 hR1 hf.1 (by rw [← e1]; omega)
 rw [← e1, ← d1] at h1
 have h2 := xw l1 b1 sz R (j + 2) 10 s.shifts hR2 (by omega) hf.2.1 (by rw [← e2]; omega)
 rw [← e2, ← d2] at h2
 have h3 := wP l2 b2 sz R (j + 3) 60 s.off hR3 (by omega) hf.2.2.1.1 hf.2.2.1.2 (by rw [← e3]; omega)
 rw [← e3, ← d3] at h3
 have h4 := cA l3 b3 sz R (j + 4) 240 s.before hR4 hf.2.2.2.1 (by omega) (by omega)
 rw [← e4, ← d4] at h4
 have h5 := cA l4 b4 sz R (j + 5) 240 s.after hR5 hf.2.2.2.2 (by omega) (by omega)
 rw [← e5, ← d5] at h5
 clear e1 e2 e3 e4 e5 d1 d2 d3 d4 d5 el eb
 repeat' ((first | apply ah | apply ai | apply af | apply ak mixed | apply ap mixed | (with_reducible first | refine au ?_ | refine aA (f := .c (.fn 118 [])) ?_ | refine aA (f := .c (.fn 119 [])) ?_ | refine aT (f := .c (.fn 120 [])) (z := []) (q := [0, 1, 2, 3, 4]) ?_ | refine aO (f := .c (.fn 120 [])) (z := []) (q := [0, 1, 2, 3, 4]) ?_ | refine aA (f := .c (.fn 57 [])) ?_ | refine aw ?_ | refine am (h1) (by simp) ?_ | refine am (h2) (by simp) ?_ | refine am (h3) (by simp) ?_ | refine am (h4) (by simp) ?_ | refine am (h5) (by simp) ?_) | (with_reducible refine ⟨?_, ?_⟩; (focus ((repeat' with_reducible refine ⟨?_, ?_⟩) <;> first | exact trivial | assumption | (simp; done) | (simp only [zA] at *; omega) | omega | (simp [fs]; done) | exact ax))) | (with_reducible intro x hx) | omega) <;> (try simp only [Nat.reduceBEq, reduceIte, Nat.reduceEqDiff, Nat.reduceAdd, Nat.reduceSub, Nat.reduceLT, reduceCtorEq, ne_eq, fw, fd]))
 refine ay [0, 1, 2, 3] (by rfl) (by simp) (by simp [fg])
def mU (xs : List Int) : List UInt8 := aY nQ xs
def pd (xs : List Int) : Bool := bn nK 400 xs
def wc (xs : List Int) : Prop := (xs.length ≤ 140737488351232 ∧ ∀ x ∈ xs, vz x)
set_option maxHeartbeats 2000000 in
theorem tl (l : List UInt8) (bad : Bool) (sz : Nat) (R : List D) (j : Nat) (xs : List Int)  (hR0 : R[j]? = some (L (aJ .i64 xs))) (hf : wc xs) (hl : (l ++ mU xs).length ≤ 1099511627776) :
  az Tryz.prog 141 [.ptr 0 0 0 1, .ptr 3 0 j 1] [Cw 1 bad, Ww 2 l.length, ba true 1 true (r8 l), Va sz R] (.tup [])
   [Cw 1 (bad || pd xs), Ww 2 (l ++ mU xs).length, ba true 1 true (r8 (l ++ mU xs)), Va sz R] := by
 refine aS Tryz.func141 low141 (by simp [c141]) ?_
 simp only [c141]
 unfold wc at hf
 obtain ⟨l1, e1⟩ : ∃ l1, l1 = l ++ aY nQ xs := ⟨_, rfl⟩
 obtain ⟨b1, d1⟩ : ∃ b1, b1 = (bad || bn nK 400 xs) := ⟨_, rfl⟩
 have el : l ++ mU xs = l1 := by rw [e1]; simp only [mU]
 have eb : (bad || pd xs) = b1 := by rw [d1]; simp only [pd]
 rw [el] at hl
 rw [el, eb]
 have g0 : l.length ≤ l1.length := by rw [e1, zB]; omega
 have h1 := wZ l bad sz R j 400 xs hR0 (by omega) hf.1 hf.2 (by rw [← e1]; omega)
 rw [← e1, ← d1] at h1
 clear e1 d1 el eb
 repeat' ((first | apply ah | apply ai | apply af | apply ak mixed | (with_reducible first | refine au ?_ | refine aT (f := .c (.fn 120 [])) (z := []) (q := [0, 1, 2, 3, 4]) ?_ | refine aO (f := .c (.fn 120 [])) (z := []) (q := [0, 1, 2, 3, 4]) ?_ | refine ar ?_ | refine am (h1) (by simp) ?_) | (with_reducible refine ⟨?_, ?_⟩; (focus ((repeat' with_reducible refine ⟨?_, ?_⟩) <;> first | exact trivial | assumption | (simp; done) | (simp only [zA] at *; omega) | omega | (simp [fs]; done) | exact ax))) | (with_reducible intro x hx) | omega) <;> (try simp only [Nat.reduceBEq, reduceIte, Nat.reduceAdd, Nat.reduceSub, Nat.reduceLT, reduceCtorEq, ne_eq, fw, fd]))
 refine ay [0, 1, 2, 3] (by rfl) (by simp) (by simp [fg])
def qP (r : Ru) : List UInt8 := bl (uI r.freq) ++ (bl (uI r.interval) ++ (bl (uI r.count) ++ (bl (zz r.til) ++ (mU r.bm ++ (mU r.bmd ++ (aY mS r.bd ++ (mU r.bsp ++ (bl (uI r.start)))))))))
def xY (r : Ru) : Bool := decide (4 < uI r.freq) || (decide (999 < uI r.interval) || (decide (5000 < uI r.count) || (pd r.bm || (pd r.bmd || (bn nG 400 r.bd || (pd r.bsp || (decide (6 < uI r.start))))))))
def yS (r : Ru) : Prop := dv r.freq ∧ (dv r.interval ∧ (dv r.count ∧ (dv r.til ∧ (wc r.bm ∧ (wc r.bmd ∧ ((r.bd.length ≤ 140737488351232 ∧ ∀ x ∈ r.bd, vp x) ∧ (wc r.bsp ∧ (dv r.start))))))))
set_option maxHeartbeats 2000000 in
theorem cRu_w (l : List UInt8) (bad : Bool) (sz : Nat) (R : List D) (j : Nat) (r : Ru)  (hR0 : R[j]? = some (.int .i64 r.freq)) (hR1 : R[j + 1]? = some (.int .i64 r.interval)) (hR2 : R[j + 2]? = some (.int .i64 r.count)) (hR3 : R[j + 3]? = some (.int .i64 r.til)) (hR4 : R[j + 4]? = some (L (aJ .i64 r.bm))) (hR5 : R[j + 5]? = some (L (aJ .i64 r.bmd))) (hR6 : R[j + 6]? = some (L (aV .i64 .i64 r.bd))) (hR7 : R[j + 7]? = some (L (aJ .i64 r.bsp))) (hR8 : R[j + 8]? = some (.int .i64 r.start)) (hf : yS r) (hl : (l ++ qP r).length ≤ 1099511627776) :
  az Tryz.prog 122 [.ptr 0 0 0 1, .ptr 3 0 j 1] [Cw 1 bad, Ww 2 l.length, ba true 1 true (r8 l), Va sz R] (.tup [])
   [Cw 1 (bad || xY r), Ww 2 (l ++ qP r).length, ba true 1 true (r8 (l ++ qP r)), Va sz R] := by
 refine aS Tryz.func122 low122 (by simp [c122]) ?_
 simp only [c122]
 unfold yS at hf
 obtain ⟨l1, e1⟩ : ∃ l1, l1 = l ++ bl (uI r.freq) := ⟨_, rfl⟩
 obtain ⟨b1, d1⟩ : ∃ b1, b1 = (bad || decide (4 < uI r.freq)) := ⟨_, rfl⟩
 obtain ⟨l2, e2⟩ : ∃ l2, l2 = l1 ++ bl (uI r.interval) := ⟨_, rfl⟩
 obtain ⟨b2, d2⟩ : ∃ b2, b2 = (b1 || decide (999 < uI r.interval)) := ⟨_, rfl⟩
 obtain ⟨l3, e3⟩ : ∃ l3, l3 = l2 ++ bl (uI r.count) := ⟨_, rfl⟩
 obtain ⟨b3, d3⟩ : ∃ b3, b3 = (b2 || decide (5000 < uI r.count)) := ⟨_, rfl⟩
 obtain ⟨l4, e4⟩ : ∃ l4, l4 = l3 ++ bl (zz r.til) := ⟨_, rfl⟩
 obtain ⟨l5, e5⟩ : ∃ l5, l5 = l4 ++ mU r.bm := ⟨_, rfl⟩
 obtain ⟨b5, d5⟩ : ∃ b5, b5 = (b3 || pd r.bm) := ⟨_, rfl⟩
 obtain ⟨l6, e6⟩ : ∃ l6, l6 = l5 ++ mU r.bmd := ⟨_, rfl⟩
 obtain ⟨b6, d6⟩ : ∃ b6, b6 = (b5 || pd r.bmd) := ⟨_, rfl⟩
 obtain ⟨l7, e7⟩ : ∃ l7, l7 = l6 ++ aY mS r.bd := ⟨_, rfl⟩
 obtain ⟨b7, d7⟩ : ∃ b7, b7 = (b6 || bn nG 400 r.bd) := ⟨_, rfl⟩
 obtain ⟨l8, e8⟩ : ∃ l8, l8 = l7 ++ mU r.bsp := ⟨_, rfl⟩
 obtain ⟨b8, d8⟩ : ∃ b8, b8 = (b7 || pd r.bsp) := ⟨_, rfl⟩
 obtain ⟨l9, e9⟩ : ∃ l9, l9 = l8 ++ bl (uI r.start) := ⟨_, rfl⟩
 obtain ⟨b9, d9⟩ : ∃ b9, b9 = (b8 || decide (6 < uI r.start)) := ⟨_, rfl⟩
 have el : l ++ qP r = l9 := by rw [e9, e8, e7, e6, e5, e4, e3, e2, e1]; simp only [qP, zJ]
 have eb : (bad || xY r) = b9 := by rw [d9, d8, d7, d6, d5, d3, d2, d1]; simp only [xY, zQ]
 rw [el] at hl
 rw [el, eb]
 have g8 : l8.length ≤ l9.length := by rw [e9, zB]; omega
 have g7 : l7.length ≤ l8.length := by rw [e8, zB]; omega
 have g6 : l6.length ≤ l7.length := by rw [e7, zB]; omega
 have g5 : l5.length ≤ l6.length := by rw [e6, zB]; omega
 have g4 : l4.length ≤ l5.length := by rw [e5, zB]; omega
 have g3 : l3.length ≤ l4.length := by rw [e4, zB]; omega
 have g2 : l2.length ≤ l3.length := by rw [e3, zB]; omega
 have g1 : l1.length ≤ l2.length := by rw [e2, zB]; omega
 have g0 : l.length ≤ l1.length := by rw [e1, zB]; omega
 have h1 := cA l bad sz R j 4 r.freq hR0 hf.1 (by omega) (by omega)
 rw [← e1, ← d1] at h1
 have h2 := cA l1 b1 sz R (j + 1) 999 r.interval hR1 hf.2.1 (by omega) (by omega)
 rw [← e2, ← d2] at h2
 have h3 := cA l2 b2 sz R (j + 2) 5000 r.count hR2 hf.2.2.1 (by omega) (by omega)
 rw [← e3, ← d3] at h3
 have h4 := cr l3 b3 sz R (j + 3) r.til hR3 hf.2.2.2.1 (by omega)
 rw [← e4] at h4
 have h5 := tl l4 b3 sz R (j + 4) r.bm hR4 hf.2.2.2.2.1 (by rw [← e5]; omega)
 rw [← e5, ← d5] at h5
 have h6 := tl l5 b5 sz R (j + 5) r.bmd hR5 hf.2.2.2.2.2.1 (by rw [← e6]; omega)
 rw [← e6, ← d6] at h6
 have h7 := wE l6 b6 sz R (j + 6) 400 r.bd hR6 (by omega) hf.2.2.2.2.2.2.1.1 hf.2.2.2.2.2.2.1.2 (by rw [← e7]; omega)
 rw [← e7, ← d7] at h7
 have h8 := tl l7 b7 sz R (j + 7) r.bsp hR7 hf.2.2.2.2.2.2.2.1 (by rw [← e8]; omega)
 rw [← e8, ← d8] at h8
 have h9 := cA l8 b8 sz R (j + 8) 6 r.start hR8 hf.2.2.2.2.2.2.2.2 (by omega) (by omega)
 rw [← e9, ← d9] at h9
 clear e1 e2 e3 e4 e5 e6 e7 e8 e9 d1 d2 d3 d5 d6 d7 d8 d9 el eb
 repeat' ((first | apply ah | apply ai | apply af | apply ak mixed | apply ap mixed | (with_reducible first | refine au ?_ | refine aA (f := .c (.fn 57 [])) ?_ | refine aA (f := .c (.fn 56 [])) ?_ | refine aA (f := .c (.fn 141 [])) ?_ | refine aT (f := .c (.fn 142 [])) (z := []) (q := [0, 1, 2, 3, 4]) ?_ | refine aO (f := .c (.fn 142 [])) (z := []) (q := [0, 1, 2, 3, 4]) ?_ | refine aw ?_ | refine am (h1) (by simp) ?_ | refine am (h2) (by simp) ?_ | refine am (h3) (by simp) ?_ | refine am (h4) (by simp) ?_ | refine am (h5) (by simp) ?_ | refine am (h6) (by simp) ?_ | refine am (h7) (by simp) ?_ | refine am (h8) (by simp) ?_ | refine am (h9) (by simp) ?_) | (with_reducible refine ⟨?_, ?_⟩; (focus ((repeat' with_reducible refine ⟨?_, ?_⟩) <;> first | exact trivial | assumption | (simp; done) | (simp only [zA] at *; omega) | omega | (simp [fs]; done) | exact ax))) | (with_reducible intro x hx) | omega) <;> (try simp only [Nat.reduceBEq, reduceIte, Nat.reduceEqDiff, Nat.reduceAdd, Nat.reduceSub, Nat.reduceLT, reduceCtorEq, ne_eq, fw, fd]))
 refine ay [0, 1, 2, 3] (by rfl) (by simp) (by simp [fg])
def rO (e : Ev) : List UInt8 := bl (zz e.start) ++ (bl (uI e.long) ++ (mZ e.again ++ (mZ e.world)))
def xW (e : Ev) : Bool := decide (10080 < uI e.long)
def zu (e : Ev) : Prop := dv e.start ∧ (dv e.long ∧ (True ∧ (True)))
set_option maxHeartbeats 2000000 in
theorem cE0_w (l : List UInt8) (bad : Bool) (sz : Nat) (R : List D) (j : Nat) (e : Ev) (ha : e.again = false) (hR0 : R[j]? = some (.int .i64 e.start)) (hR1 : R[j + 1]? = some (.int .i64 e.long)) (hR2 : R[j + 2]? = some (.bool e.world)) (hR3 : R[j + 3]? = some (.bool e.again)) (hf : zu e) (hl : (l ++ rO e).length ≤ 1099511627776) :
  az Tryz.prog 94 [.ptr 0 0 0 1, .ptr 3 0 j 1] [Cw 1 bad, Ww 2 l.length, ba true 1 true (r8 l), Va sz R] (.tup [])
   [Cw 1 (bad || xW e), Ww 2 (l ++ rO e).length, ba true 1 true (r8 (l ++ rO e)), Va sz R] := by
 refine aS Tryz.func94 low94 (by simp [c94]) ?_
 simp only [c94]
 unfold zu at hf
 obtain ⟨l1, e1⟩ : ∃ l1, l1 = l ++ bl (zz e.start) := ⟨_, rfl⟩
 obtain ⟨l2, e2⟩ : ∃ l2, l2 = l1 ++ bl (uI e.long) := ⟨_, rfl⟩
 obtain ⟨b2, d2⟩ : ∃ b2, b2 = (bad || decide (10080 < uI e.long)) := ⟨_, rfl⟩
 obtain ⟨l3, e3⟩ : ∃ l3, l3 = l2 ++ mZ e.again := ⟨_, rfl⟩
 obtain ⟨l4, e4⟩ : ∃ l4, l4 = l3 ++ mZ e.world := ⟨_, rfl⟩
 have el : l ++ rO e = l4 := by rw [e4, e3, e2, e1]; simp only [rO, zJ]
 have eb : (bad || xW e) = b2 := by rw [d2]; simp only [xW]
 rw [el] at hl
 rw [el, eb]
 have g3 : l3.length ≤ l4.length := by rw [e4, zB]; omega
 have g2 : l2.length ≤ l3.length := by rw [e3, zB]; omega
 have g1 : l1.length ≤ l2.length := by rw [e2, zB]; omega
 have g0 : l.length ≤ l1.length := by rw [e1, zB]; omega
 have h1 := cr l bad sz R j e.start hR0 hf.1 (by omega)
 rw [← e1] at h1
 have h2 := cA l1 bad sz R (j + 1) 10080 e.long hR1 hf.2.1 (by omega) (by omega)
 rw [← e2, ← d2] at h2
 have h3 := pI l2 b2 sz R (j + 3) e.again hR3 (by omega)
 rw [← e3] at h3
 have h4 := pI l3 b2 sz R (j + 2) e.world hR2 (by omega)
 rw [← e4] at h4
 clear e1 e2 e3 e4 d2 el eb
 rw [ha] at hR3
 repeat' ((first | apply ah | apply al | apply ai | apply af | apply ab | apply ak mixed | apply ap mixed | (with_reducible first | refine au ?_ | refine aA (f := .c (.fn 56 [])) ?_ | refine aA (f := .c (.fn 57 [])) ?_ | refine aA (f := .c (.fn 59 [])) ?_ | refine aw ?_ | refine am (h1) (by simp) ?_ | refine am (h2) (by simp) ?_ | refine am (h3) (by simp) ?_ | refine am (h4) (by simp) ?_) | (refine aa ?_ ?_ <;> intro hc <;> (try simp only [hc]) <;> try simp at hc) | (with_reducible refine ⟨?_, ?_⟩; (focus ((repeat' with_reducible refine ⟨?_, ?_⟩) <;> first | exact trivial | assumption | (simp; done) | (simp only [zA] at *; omega) | omega | (simp [fs]; done) | exact ax))) | (with_reducible intro x hx) | omega) <;> (try simp only [hR3, Nat.reduceBEq, reduceIte, Nat.reduceEqDiff, Nat.reduceAdd, Nat.reduceSub, Nat.reduceLT, reduceCtorEq, ne_eq, fw, fd]))
 refine ay [0, 1, 2, 3] (by rfl) (by simp) (by simp [fg])
def rP (e : Ev) : List UInt8 := bl (zz e.start) ++ (bl (uI e.long) ++ (mZ e.again ++ (qP e.rule ++ (aY pg e.ex ++ (aY ph e.plus ++ (aY mR e.ch))))))
def xX (e : Ev) : Bool := decide (10080 < uI e.long) || (xY e.rule || (bn vF 50 e.ex || (bn vG 50 e.plus || (bn nF 50 e.ch))))
def zv (e : Ev) : Prop := dv e.start ∧ (dv e.long ∧ (True ∧ (yS e.rule ∧ ((e.ex.length ≤ 140737488351232 ∧ ∀ x ∈ e.ex, xE x) ∧ ((e.plus.length ≤ 140737488351232 ∧ ∀ x ∈ e.plus, xF x) ∧ ((e.ch.length ≤ 140737488351232 ∧ ∀ x ∈ e.ch, vo x)))))))
set_option maxHeartbeats 2000000 in
theorem cE1_w (l : List UInt8) (bad : Bool) (sz : Nat) (R : List D) (j : Nat) (e : Ev) (ha : e.again = true) (hR0 : R[j]? = some (.int .i64 e.start)) (hR1 : R[j + 1]? = some (.int .i64 e.long)) (hR3 : R[j + 3]? = some (.bool e.again)) (hR4 : R[j + 4]? = some (.int .i64 e.rule.freq)) (hR5 : R[j + 5]? = some (.int .i64 e.rule.interval)) (hR6 : R[j + 6]? = some (.int .i64 e.rule.count)) (hR7 : R[j + 7]? = some (.int .i64 e.rule.til)) (hR8 : R[j + 8]? = some (L (aJ .i64 e.rule.bm))) (hR9 : R[j + 9]? = some (L (aJ .i64 e.rule.bmd))) (hR10 : R[j + 10]? = some (L (aV .i64 .i64 e.rule.bd))) (hR11 : R[j + 11]? = some (L (aJ .i64 e.rule.bsp))) (hR12 : R[j + 12]? = some (.int .i64 e.rule.start)) (hR13 : R[j + 13]? = some (L (aJ .i64 e.ex))) (hR14 : R[j + 14]? = some (L (aJ .i64 e.plus))) (hR15 : R[j + 15]? = some (L (bo e.ch))) (hf : zv e) (hl : (l ++ rP e).length ≤ 1099511627776) :
  az Tryz.prog 94 [.ptr 0 0 0 1, .ptr 3 0 j 1] [Cw 1 bad, Ww 2 l.length, ba true 1 true (r8 l), Va sz R] (.tup [])
   [Cw 1 (bad || xX e), Ww 2 (l ++ rP e).length, ba true 1 true (r8 (l ++ rP e)), Va sz R] := by
 refine aS Tryz.func94 low94 (by simp [c94]) ?_
 simp only [c94]
 unfold zv at hf
 obtain ⟨l1, e1⟩ : ∃ l1, l1 = l ++ bl (zz e.start) := ⟨_, rfl⟩
 obtain ⟨l2, e2⟩ : ∃ l2, l2 = l1 ++ bl (uI e.long) := ⟨_, rfl⟩
 obtain ⟨b2, d2⟩ : ∃ b2, b2 = (bad || decide (10080 < uI e.long)) := ⟨_, rfl⟩
 obtain ⟨l3, e3⟩ : ∃ l3, l3 = l2 ++ mZ e.again := ⟨_, rfl⟩
 obtain ⟨l4, e4⟩ : ∃ l4, l4 = l3 ++ qP e.rule := ⟨_, rfl⟩
 obtain ⟨b4, d4⟩ : ∃ b4, b4 = (b2 || xY e.rule) := ⟨_, rfl⟩
 obtain ⟨l5, e5⟩ : ∃ l5, l5 = l4 ++ aY pg e.ex := ⟨_, rfl⟩
 obtain ⟨b5, d5⟩ : ∃ b5, b5 = (b4 || bn vF 50 e.ex) := ⟨_, rfl⟩
 obtain ⟨l6, e6⟩ : ∃ l6, l6 = l5 ++ aY ph e.plus := ⟨_, rfl⟩
 obtain ⟨b6, d6⟩ : ∃ b6, b6 = (b5 || bn vG 50 e.plus) := ⟨_, rfl⟩
 obtain ⟨l7, e7⟩ : ∃ l7, l7 = l6 ++ aY mR e.ch := ⟨_, rfl⟩
 obtain ⟨b7, d7⟩ : ∃ b7, b7 = (b6 || bn nF 50 e.ch) := ⟨_, rfl⟩
 have el : l ++ rP e = l7 := by rw [e7, e6, e5, e4, e3, e2, e1]; simp only [rP, zJ]
 have eb : (bad || xX e) = b7 := by rw [d7, d6, d5, d4, d2]; simp only [xX, zQ]
 rw [el] at hl
 rw [el, eb]
 have g6 : l6.length ≤ l7.length := by rw [e7, zB]; omega
 have g5 : l5.length ≤ l6.length := by rw [e6, zB]; omega
 have g4 : l4.length ≤ l5.length := by rw [e5, zB]; omega
 have g3 : l3.length ≤ l4.length := by rw [e4, zB]; omega
 have g2 : l2.length ≤ l3.length := by rw [e3, zB]; omega
 have g1 : l1.length ≤ l2.length := by rw [e2, zB]; omega
 have g0 : l.length ≤ l1.length := by rw [e1, zB]; omega
 have h1 := cr l bad sz R j e.start hR0 hf.1 (by omega)
 rw [← e1] at h1
 have h2 := cA l1 bad sz R (j + 1) 10080 e.long hR1 hf.2.1 (by omega) (by omega)
 rw [← e2, ← d2] at h2
 have h3 := pI l2 b2 sz R (j + 3) e.again hR3 (by omega)
 rw [← e3] at h3
 have h4 := cRu_w l3 b2 sz R (j + 4) e.rule hR4 hR5 hR6 hR7 hR8 hR9 hR10 hR11 hR12 hf.2.2.2.1 (by rw [← e4]; omega)
 rw [← e4, ← d4] at h4
 have h5 := wK l4 b4 sz R (j + 13) 50 e.ex hR13 (by omega) hf.2.2.2.2.1.1 hf.2.2.2.2.1.2 (by rw [← e5]; omega)
 rw [← e5, ← d5] at h5
 have h6 := wT l5 b5 sz R (j + 14) 50 e.plus hR14 (by omega) hf.2.2.2.2.2.1.1 hf.2.2.2.2.2.1.2 (by rw [← e6]; omega)
 rw [← e6, ← d6] at h6
 have h7 := wC l6 b6 sz R (j + 15) 50 e.ch hR15 (by omega) hf.2.2.2.2.2.2.1 hf.2.2.2.2.2.2.2 (by rw [← e7]; omega)
 rw [← e7, ← d7] at h7
 clear e1 e2 e3 e4 e5 e6 e7 d2 d4 d5 d6 d7 el eb
 rw [ha] at hR3
 repeat' ((first | apply ah | apply al | apply ai | apply af | apply ab | apply ak mixed | apply ap mixed | (with_reducible first | refine au ?_ | refine aA (f := .c (.fn 56 [])) ?_ | refine aA (f := .c (.fn 57 [])) ?_ | refine aA (f := .c (.fn 59 [])) ?_ | refine aA (f := .c (.fn 122 [])) ?_ | refine aT (f := .c (.fn 104 [])) (z := []) (q := [0, 1, 2, 3, 4]) ?_ | refine aO (f := .c (.fn 104 [])) (z := []) (q := [0, 1, 2, 3, 4]) ?_ | refine aT (f := .c (.fn 125 [])) (z := []) (q := [0, 1, 2, 3, 4]) ?_ | refine aO (f := .c (.fn 125 [])) (z := []) (q := [0, 1, 2, 3, 4]) ?_ | refine aw ?_ | refine am (h1) (by simp) ?_ | refine am (h2) (by simp) ?_ | refine am (h3) (by simp) ?_ | refine am (h4) (by simp) ?_ | refine am (h5) (by simp) ?_ | refine am (h6) (by simp) ?_ | refine am (h7) (by simp) ?_) | (refine aa ?_ ?_ <;> intro hc <;> (try simp only [hc]) <;> try simp at hc) | (with_reducible refine ⟨?_, ?_⟩; (focus ((repeat' with_reducible refine ⟨?_, ?_⟩) <;> first | exact trivial | assumption | (simp; done) | (simp only [zA] at *; omega) | omega | (simp [fs]; done) | exact ax))) | (with_reducible intro x hx) | omega) <;> (try simp only [hR3, Nat.reduceBEq, reduceIte, Nat.reduceEqDiff, Nat.reduceAdd, Nat.reduceSub, Nat.reduceLT, reduceCtorEq, ne_eq, fw, fd]))
 refine ay [0, 1, 2, 3] (by rfl) (by simp) (by simp [fg])
def pE (e : Ev) : List UInt8 := if e.again = true then rP e else rO e
def vE (e : Ev) : Bool := if e.again = true then xX e else xW e
def zw (e : Ev) : Prop := zu e ∧ zv e
def pj (q : Qu) : List UInt8 := bl (zz q.a) ++ (bl (zz q.b) ++ (bl (uI q.long) ++ (bl (uI q.grid) ++ (aY nO q.must ++ (aY mX q.may ++ (bl (uI q.seats) ++ (aY mT q.apart ++ (ke q.prefer))))))))
def vn (q : Qu) : Bool := decide (10080 < uI q.long) || (decide (1440 < uI q.grid) || (bn nH 64 q.must || (bn nN 16 q.may || (decide (100 < uI q.seats) || (bn nJ 32 q.apart || (pc 8 q.prefer))))))
def vw (q : Qu) : Prop := dv q.a ∧ (dv q.b ∧ (dv q.long ∧ (dv q.grid ∧ ((q.must.length ≤ 140737488351232 ∧ ∀ x ∈ q.must, vt x) ∧ ((q.may.length ≤ 140737488351232 ∧ ∀ x ∈ q.may, vC x) ∧ (dv q.seats ∧ ((q.apart.length ≤ 140737488351232 ∧ ∀ x ∈ q.apart, vv x) ∧ (vr q.prefer))))))))
set_option maxHeartbeats 2000000 in
theorem cQu_w (l : List UInt8) (bad : Bool) (sz : Nat) (R : List D) (j : Nat) (q : Qu)  (hR0 : R[j]? = some (.int .i64 q.a)) (hR1 : R[j + 1]? = some (.int .i64 q.b)) (hR2 : R[j + 2]? = some (.int .i64 q.long)) (hR3 : R[j + 3]? = some (.int .i64 q.grid)) (hR4 : R[j + 4]? = some (L (aJ .u32 q.must))) (hR5 : R[j + 5]? = some (L (aV .u32 .i64 q.may))) (hR6 : R[j + 6]? = some (.int .i64 q.seats)) (hR7 : R[j + 7]? = some (L (aV .u32 .u32 q.apart))) (hR8 : R[j + 8]? = some (L (bo q.prefer))) (hf : vw q) (hl : (l ++ pj q).length ≤ 1099511627776) :
  az Tryz.prog 95 [.ptr 0 0 0 1, .ptr 3 0 j 1] [Cw 1 bad, Ww 2 l.length, ba true 1 true (r8 l), Va sz R] (.tup [])
   [Cw 1 (bad || vn q), Ww 2 (l ++ pj q).length, ba true 1 true (r8 (l ++ pj q)), Va sz R] := by
 refine aS Tryz.func95 low95 (by simp [c95]) ?_
 simp only [c95]
 unfold vw at hf
 obtain ⟨l1, e1⟩ : ∃ l1, l1 = l ++ bl (zz q.a) := ⟨_, rfl⟩
 obtain ⟨l2, e2⟩ : ∃ l2, l2 = l1 ++ bl (zz q.b) := ⟨_, rfl⟩
 obtain ⟨l3, e3⟩ : ∃ l3, l3 = l2 ++ bl (uI q.long) := ⟨_, rfl⟩
 obtain ⟨b3, d3⟩ : ∃ b3, b3 = (bad || decide (10080 < uI q.long)) := ⟨_, rfl⟩
 obtain ⟨l4, e4⟩ : ∃ l4, l4 = l3 ++ bl (uI q.grid) := ⟨_, rfl⟩
 obtain ⟨b4, d4⟩ : ∃ b4, b4 = (b3 || decide (1440 < uI q.grid)) := ⟨_, rfl⟩
 obtain ⟨l5, e5⟩ : ∃ l5, l5 = l4 ++ aY nO q.must := ⟨_, rfl⟩
 obtain ⟨b5, d5⟩ : ∃ b5, b5 = (b4 || bn nH 64 q.must) := ⟨_, rfl⟩
 obtain ⟨l6, e6⟩ : ∃ l6, l6 = l5 ++ aY mX q.may := ⟨_, rfl⟩
 obtain ⟨b6, d6⟩ : ∃ b6, b6 = (b5 || bn nN 16 q.may) := ⟨_, rfl⟩
 obtain ⟨l7, e7⟩ : ∃ l7, l7 = l6 ++ bl (uI q.seats) := ⟨_, rfl⟩
 obtain ⟨b7, d7⟩ : ∃ b7, b7 = (b6 || decide (100 < uI q.seats)) := ⟨_, rfl⟩
 obtain ⟨l8, e8⟩ : ∃ l8, l8 = l7 ++ aY mT q.apart := ⟨_, rfl⟩
 obtain ⟨b8, d8⟩ : ∃ b8, b8 = (b7 || bn nJ 32 q.apart) := ⟨_, rfl⟩
 obtain ⟨l9, e9⟩ : ∃ l9, l9 = l8 ++ ke q.prefer := ⟨_, rfl⟩
 obtain ⟨b9, d9⟩ : ∃ b9, b9 = (b8 || pc 8 q.prefer) := ⟨_, rfl⟩
 have el : l ++ pj q = l9 := by rw [e9, e8, e7, e6, e5, e4, e3, e2, e1]; simp only [pj, zJ]
 have eb : (bad || vn q) = b9 := by rw [d9, d8, d7, d6, d5, d4, d3]; simp only [vn, zQ]
 rw [el] at hl
 rw [el, eb]
 have g8 : l8.length ≤ l9.length := by rw [e9, zB]; omega
 have g7 : l7.length ≤ l8.length := by rw [e8, zB]; omega
 have g6 : l6.length ≤ l7.length := by rw [e7, zB]; omega
 have g5 : l5.length ≤ l6.length := by rw [e6, zB]; omega
 have g4 : l4.length ≤ l5.length := by rw [e5, zB]; omega
 have g3 : l3.length ≤ l4.length := by rw [e4, zB]; omega
 have g2 : l2.length ≤ l3.length := by rw [e3, zB]; omega
 have g1 : l1.length ≤ l2.length := by rw [e2, zB]; omega
 have g0 : l.length ≤ l1.length := by rw [e1, zB]; omega
 have h1 := cr l bad sz R j q.a hR0 hf.1 (by omega)
 rw [← e1] at h1
 have h2 := cr l1 bad sz R (j + 1) q.b hR1 hf.2.1 (by omega)
 rw [← e2] at h2
 have h3 := cA l2 bad sz R (j + 2) 10080 q.long hR2 hf.2.2.1 (by omega) (by omega)
 rw [← e3, ← d3] at h3
 have h4 := cA l3 b3 sz R (j + 3) 1440 q.grid hR3 hf.2.2.2.1 (by omega) (by omega)
 rw [← e4, ← d4] at h4
 have h5 := wN l4 b4 sz R (j + 4) 64 q.must hR4 (by omega) hf.2.2.2.2.1.1 hf.2.2.2.2.1.2 (by rw [← e5]; omega)
 rw [← e5, ← d5] at h5
 have h6 := xi l5 b5 sz R (j + 5) 16 q.may hR5 (by omega) hf.2.2.2.2.2.1.1 hf.2.2.2.2.2.1.2 (by rw [← e6]; omega)
 rw [← e6, ← d6] at h6
 have h7 := cA l6 b6 sz R (j + 6) 100 q.seats hR6 hf.2.2.2.2.2.2.1 (by omega) (by omega)
 rw [← e7, ← d7] at h7
 have h8 := wR l7 b7 sz R (j + 7) 32 q.apart hR7 (by omega) hf.2.2.2.2.2.2.2.1.1 hf.2.2.2.2.2.2.2.1.2 (by rw [← e8]; omega)
 rw [← e8, ← d8] at h8
 have h9 := xw l8 b8 sz R (j + 8) 8 q.prefer hR8 (by omega) hf.2.2.2.2.2.2.2.2 (by rw [← e9]; omega)
 rw [← e9, ← d9] at h9
 clear e1 e2 e3 e4 e5 e6 e7 e8 e9 d3 d4 d5 d6 d7 d8 d9 el eb
 repeat' ((first | apply ah | apply ai | apply af | apply ak mixed | apply ap mixed | (with_reducible first | refine au ?_ | refine aA (f := .c (.fn 56 [])) ?_ | refine aA (f := .c (.fn 57 [])) ?_ | refine aT (f := .c (.fn 127 [])) (z := []) (q := [0, 1, 2, 3, 4]) ?_ | refine aO (f := .c (.fn 127 [])) (z := []) (q := [0, 1, 2, 3, 4]) ?_ | refine aT (f := .c (.fn 129 [])) (z := []) (q := [0, 1, 2, 3, 4]) ?_ | refine aO (f := .c (.fn 129 [])) (z := []) (q := [0, 1, 2, 3, 4]) ?_ | refine aT (f := .c (.fn 131 [])) (z := []) (q := [0, 1, 2, 3, 4]) ?_ | refine aO (f := .c (.fn 131 [])) (z := []) (q := [0, 1, 2, 3, 4]) ?_ | refine aA (f := .c (.fn 119 [])) ?_ | refine aw ?_ | refine am (h1) (by simp) ?_ | refine am (h2) (by simp) ?_ | refine am (h3) (by simp) ?_ | refine am (h4) (by simp) ?_ | refine am (h5) (by simp) ?_ | refine am (h6) (by simp) ?_ | refine am (h7) (by simp) ?_ | refine am (h8) (by simp) ?_ | refine am (h9) (by simp) ?_) | (with_reducible refine ⟨?_, ?_⟩; (focus ((repeat' with_reducible refine ⟨?_, ?_⟩) <;> first | exact trivial | assumption | (simp; done) | (simp only [zA] at *; omega) | omega | (simp [fs]; done) | exact ax))) | (with_reducible intro x hx) | omega) <;> (try simp only [Nat.reduceBEq, reduceIte, Nat.reduceEqDiff, Nat.reduceAdd, Nat.reduceSub, Nat.reduceLT, reduceCtorEq, ne_eq, fw, fd]))
 refine ay [0, 1, 2, 3] (by rfl) (by simp) (by simp [fg])
def gz (p : Po) : List UInt8 := bl (uI p.id) ++ (bl (uI p.owner) ++ (pj p.qu ++ (aY pm p.slots ++ (aY mW p.votes ++ (bl (zz p.til) ++ (bl (uI p.state) ++ (bl (uI p.winner))))))))
def im (p : Po) : Bool := vn p.qu || (bn pe 40 p.slots || (bn nM 4096 p.votes || (decide (4 < uI p.state) || (decide (40 < uI p.winner)))))
def tw (p : Po) : Prop := (0 ≤ p.id ∧ p.id ≤ 4294967295) ∧ ((0 ≤ p.owner ∧ p.owner ≤ 4294967295) ∧ (vw p.qu ∧ ((p.slots.length ≤ 140737488351232 ∧ ∀ x ∈ p.slots, xG x) ∧ ((p.votes.length ≤ 140737488351232 ∧ ∀ x ∈ p.votes, vB x) ∧ (dv p.til ∧ (dv p.state ∧ (dv p.winner)))))))
set_option maxHeartbeats 2000000 in
theorem cPo_w (l : List UInt8) (bad : Bool) (sz : Nat) (R : List D) (j : Nat) (p : Po)  (hR0 : R[j]? = some (.int .u32 p.id)) (hR1 : R[j + 1]? = some (.int .u32 p.owner)) (hR2 : R[j + 2]? = some (.int .i64 p.qu.a)) (hR3 : R[j + 3]? = some (.int .i64 p.qu.b)) (hR4 : R[j + 4]? = some (.int .i64 p.qu.long)) (hR5 : R[j + 5]? = some (.int .i64 p.qu.grid)) (hR6 : R[j + 6]? = some (L (aJ .u32 p.qu.must))) (hR7 : R[j + 7]? = some (L (aV .u32 .i64 p.qu.may))) (hR8 : R[j + 8]? = some (.int .i64 p.qu.seats)) (hR9 : R[j + 9]? = some (L (aV .u32 .u32 p.qu.apart))) (hR10 : R[j + 10]? = some (L (bo p.qu.prefer))) (hR11 : R[j + 11]? = some (L (aJ .i64 p.slots))) (hR12 : R[j + 12]? = some (L (aV .u32 .i64 p.votes))) (hR13 : R[j + 13]? = some (.int .i64 p.til)) (hR14 : R[j + 14]? = some (.int .i64 p.state)) (hR15 : R[j + 15]? = some (.int .i64 p.winner)) (hf : tw p) (hl : (l ++ gz p).length ≤ 1099511627776) :
  az Tryz.prog 60 [.ptr 0 0 0 1, .ptr 3 0 j 1] [Cw 1 bad, Ww 2 l.length, ba true 1 true (r8 l), Va sz R] (.tup [])
   [Cw 1 (bad || im p), Ww 2 (l ++ gz p).length, ba true 1 true (r8 (l ++ gz p)), Va sz R] := by
 refine aS Tryz.func60 low60 (by simp [c60]) ?_
 simp only [c60]
 unfold tw at hf
 obtain ⟨l1, e1⟩ : ∃ l1, l1 = l ++ bl (uI p.id) := ⟨_, rfl⟩
 obtain ⟨l2, e2⟩ : ∃ l2, l2 = l1 ++ bl (uI p.owner) := ⟨_, rfl⟩
 obtain ⟨l3, e3⟩ : ∃ l3, l3 = l2 ++ pj p.qu := ⟨_, rfl⟩
 obtain ⟨b3, d3⟩ : ∃ b3, b3 = (bad || vn p.qu) := ⟨_, rfl⟩
 obtain ⟨l4, e4⟩ : ∃ l4, l4 = l3 ++ aY pm p.slots := ⟨_, rfl⟩
 obtain ⟨b4, d4⟩ : ∃ b4, b4 = (b3 || bn pe 40 p.slots) := ⟨_, rfl⟩
 obtain ⟨l5, e5⟩ : ∃ l5, l5 = l4 ++ aY mW p.votes := ⟨_, rfl⟩
 obtain ⟨b5, d5⟩ : ∃ b5, b5 = (b4 || bn nM 4096 p.votes) := ⟨_, rfl⟩
 obtain ⟨l6, e6⟩ : ∃ l6, l6 = l5 ++ bl (zz p.til) := ⟨_, rfl⟩
 obtain ⟨l7, e7⟩ : ∃ l7, l7 = l6 ++ bl (uI p.state) := ⟨_, rfl⟩
 obtain ⟨b7, d7⟩ : ∃ b7, b7 = (b5 || decide (4 < uI p.state)) := ⟨_, rfl⟩
 obtain ⟨l8, e8⟩ : ∃ l8, l8 = l7 ++ bl (uI p.winner) := ⟨_, rfl⟩
 obtain ⟨b8, d8⟩ : ∃ b8, b8 = (b7 || decide (40 < uI p.winner)) := ⟨_, rfl⟩
 have el : l ++ gz p = l8 := by rw [e8, e7, e6, e5, e4, e3, e2, e1]; simp only [gz, zJ]
 have eb : (bad || im p) = b8 := by rw [d8, d7, d5, d4, d3]; simp only [im, zQ]
 rw [el] at hl
 rw [el, eb]
 have g7 : l7.length ≤ l8.length := by rw [e8, zB]; omega
 have g6 : l6.length ≤ l7.length := by rw [e7, zB]; omega
 have g5 : l5.length ≤ l6.length := by rw [e6, zB]; omega
 have g4 : l4.length ≤ l5.length := by rw [e5, zB]; omega
 have g3 : l3.length ≤ l4.length := by rw [e4, zB]; omega
 have g2 : l2.length ≤ l3.length := by rw [e3, zB]; omega
 have g1 : l1.length ≤ l2.length := by rw [e2, zB]; omega
 have g0 : l.length ≤ l1.length := by rw [e1, zB]; omega
 have h1 := fh l bad sz R j p.id hR0 hf.1 (by omega)
 rw [← e1] at h1
 have h2 := fh l1 bad sz R (j + 1) p.owner hR1 hf.2.1 (by omega)
 rw [← e2] at h2
 have h3 := cQu_w l2 bad sz R (j + 2) p.qu hR2 hR3 hR4 hR5 hR6 hR7 hR8 hR9 hR10 hf.2.2.1 (by rw [← e3]; omega)
 rw [← e3, ← d3] at h3
 have h4 := xa l3 b3 sz R (j + 11) 40 p.slots hR11 (by omega) hf.2.2.2.1.1 hf.2.2.2.1.2 (by rw [← e4]; omega)
 rw [← e4, ← d4] at h4
 have h5 := xg l4 b4 sz R (j + 12) 4096 p.votes hR12 (by omega) hf.2.2.2.2.1.1 hf.2.2.2.2.1.2 (by rw [← e5]; omega)
 rw [← e5, ← d5] at h5
 have h6 := cr l5 b5 sz R (j + 13) p.til hR13 hf.2.2.2.2.2.1 (by omega)
 rw [← e6] at h6
 have h7 := cA l6 b5 sz R (j + 14) 4 p.state hR14 hf.2.2.2.2.2.2.1 (by omega) (by omega)
 rw [← e7, ← d7] at h7
 have h8 := cA l7 b7 sz R (j + 15) 40 p.winner hR15 hf.2.2.2.2.2.2.2 (by omega) (by omega)
 rw [← e8, ← d8] at h8
 clear e1 e2 e3 e4 e5 e6 e7 e8 d3 d4 d5 d7 d8 el eb
 repeat' ((first | apply ah | apply ai | apply af | apply ak mixed | apply ap mixed | (with_reducible first | refine au ?_ | refine aA (f := .c (.fn 78 [])) ?_ | refine aA (f := .c (.fn 95 [])) ?_ | refine aT (f := .c (.fn 104 [])) (z := []) (q := [0, 1, 2, 3, 4]) ?_ | refine aO (f := .c (.fn 104 [])) (z := []) (q := [0, 1, 2, 3, 4]) ?_ | refine aT (f := .c (.fn 106 [])) (z := []) (q := [0, 1, 2, 3, 4]) ?_ | refine aO (f := .c (.fn 106 [])) (z := []) (q := [0, 1, 2, 3, 4]) ?_ | refine aA (f := .c (.fn 56 [])) ?_ | refine aA (f := .c (.fn 57 [])) ?_ | refine aw ?_ | refine am (h1) (by simp) ?_ | refine am (h2) (by simp) ?_ | refine am (h3) (by simp) ?_ | refine am (h4) (by simp) ?_ | refine am (h5) (by simp) ?_ | refine am (h6) (by simp) ?_ | refine am (h7) (by simp) ?_ | refine am (h8) (by simp) ?_) | (with_reducible refine ⟨?_, ?_⟩; (focus ((repeat' with_reducible refine ⟨?_, ?_⟩) <;> first | exact trivial | assumption | (simp; done) | (simp only [zA] at *; omega) | omega | (simp [fs]; done) | exact ax))) | (with_reducible intro x hx) | omega) <;> (try simp only [Nat.reduceBEq, reduceIte, Nat.reduceEqDiff, Nat.reduceAdd, Nat.reduceSub, Nat.reduceLT, reduceCtorEq, ne_eq, fw, fd]))
 refine ay [0, 1, 2, 3] (by rfl) (by simp) (by simp [fg])
end Go.Proofs.YtgefljdclekadaaGreat

namespace Go.Proofs.YtgefljdclekadaaGreat
open Go Go.Vi
theorem oS {α : Type} {re : Rs → α × Rs} (h : ∀ s, (re s).2.l.length ≤ s.l.length) : ∀ (k : Nat) (s : Rs) (a : List α), (dz re k s a).2.l.length ≤ s.l.length
 | 0, s, a => Nat.le_refl _
 | k + 1, s, a => by
  unfold dz
  have h1 := h s
  split
  ·exact h1
  ·exact Nat.le_trans (oS h k _ _) h1
theorem br {α : Type} {re : Rs → α × Rs} (h : ∀ s, (re s).2.l.length ≤ s.l.length) (most : Nat) (hm : most < 18446744073709551616) (s : Rs) : (aG re most s).2.l.length ≤ s.l.length :=
 Nat.le_trans (oS h _ _ _) (aQ most hm s).1
def cJ (R : List D) (j : Nat) : List D → List D
 | [] => R
 | d :: ds => cJ (R.set j d) (j + 1) ds
theorem dG : ∀ (ds : List D) (R : List D) (j : Nat), (cJ R j ds).length = R.length
 | [], _, _ => rfl
 | d :: ds, R, j => by rw [cJ, dG ds, zF]
theorem dF : ∀ (ds : List D) (R : List D) (j x : Nat), j + ds.length ≤ x → (cJ R j ds)[x]? = R[x]?
 | [], _, _, _, _ => rfl
 | d :: ds, R, j, x, h => by
  simp only [zK] at h
  rw [cJ, dF ds _ _ x (by omega), zC (by omega)]
def nT (s : Rs) : (Int × List (Int × Int)) × Rs :=
 match ik (-900) 900 s with
 | (v1, s1) =>
 match aG nk 700 s1 with
 | (v2, s2) =>
  ((v1, v2), s2)
theorem uz (s : Rs) : (nT s).2.l.length ≤ s.l.length := by
 unfold nT
 have g1 := gK (-900) 900 s
 generalize ik (-900) 900 s = q1 at g1 ⊢
 obtain ⟨v1, s1⟩ := q1
 dsimp only at g1 ⊢
 have g2 := br qg 700 (by omega) s1
 generalize aG nk 700 s1 = q2 at g2 ⊢
 obtain ⟨v2, s2⟩ := q2
 dsimp only at g2 ⊢
 omega
set_option maxHeartbeats 4000000 in
theorem cZo_r (s : Rs) (sz : Nat) (R : List D) (j : Nat) (hN1 : R[j + 1]? = some (.list (some true) true [])) (hz : R.length = sz) (hj : j + 2 ≤ sz) (hl : s.l.length ≤ 1099511627776) :
  az Tryz.prog 118 [.ptr 0 0 0 1, .ptr 2 0 j 1] [Cr 1 s.cb, Rd s.l s.rb, Va sz R] (.tup [])
   [Cr 1 (nT s).2.cb, Rd (nT s).2.l (nT s).2.rb, Va sz (cJ R j [.int .i64 (nT s).1.1, L (aV .i64 .i64 (nT s).1.2)])] := by
 refine aS Tryz.func118 low118 (by simp [c118]) ?_
 simp only [c118]
 unfold nT
 have z0 := hz
 have k0 : ∀ x, j + 0 ≤ x → R[x]? = R[x]? := fun _ _ => rfl
 have g1 := gK (-900) 900 s
 have h1 : az Tryz.prog 136 [.ptr 0 0 0 1, .ptr 2 0 j 1, .int .i64 (-900), .int .i64 900] [Cr 1 s.cb, Rd s.l s.rb, Va sz R] (.tup []) [Cr 1 (ik (-900) 900 s).2.cb, Rd (ik (-900) 900 s).2.l (ik (-900) 900 s).2.rb, Va sz (R.set j (.int .i64 ((ik (-900) 900 s).1 : Int)))] := nz s.l s.rb s.cb sz R j (-900) 900 (by omega) (by omega) (by omega)
 generalize ik (-900) 900 s = q1 at h1 g1 ⊢
 obtain ⟨v1, s1⟩ := q1
 dsimp only at h1 g1 ⊢
 obtain ⟨R1, e1⟩ : ∃ R1, R1 = R.set j (.int .i64 (v1 : Int)) := ⟨_, rfl⟩
 rw [← e1] at h1
 have z1 : R1.length = sz := by rw [e1, zF]; exact z0
 have k1 : ∀ x, j + 1 ≤ x → R1[x]? = R[x]? := fun x hx => by rw [e1, zC (by omega)] <;> exact k0 x (by omega)
 have g2 := br qg 700 (by omega) s1
 have h2 : az Tryz.prog 137 [.ptr 0 0 0 1, .ptr 2 0 (j + 1) 1, .int .i64 700, .fn 138 [.ptr 3 0 0 1]] [Cr 1 s1.cb, Rd s1.l s1.rb, Va sz R1, Bx 0] (.tup []) [Cr 1 (aG nk 700 s1).2.cb, Rd (aG nk 700 s1).2.l (aG nk 700 s1).2.rb, Va sz (R1.set (j + 1) (L (aV .i64 .i64 (aG nk 700 s1).1))), Bx 0] := xb s1 sz R1 (j + 1) 700 (by rw [k1 _ (by omega)]; exact hN1) (by omega) (by omega) (by omega)
 generalize aG nk 700 s1 = q2 at h2 g2 ⊢
 obtain ⟨v2, s2⟩ := q2
 dsimp only at h2 g2 ⊢
 obtain ⟨R2, e2⟩ : ∃ R2, R2 = R1.set (j + 1) (L (aV .i64 .i64 v2)) := ⟨_, rfl⟩
 rw [← e2] at h2
 have z2 : R2.length = sz := by rw [e2, zF]; exact z1
 have k2 : ∀ x, j + 2 ≤ x → R2[x]? = R[x]? := fun x hx => by rw [e2, zC (by omega)] <;> exact k1 x (by omega)
 have eR : cJ R j [.int .i64 (v1, v2).1, L (aV .i64 .i64 (v1, v2).2)] = R2 := by rw [e2, e1] <;> rfl
 rw [eR]
 clear eR e1 e2 k0 k1 k2 z1 z2
 repeat' ((first | apply ah | apply ai | apply af | apply ak mixed | apply ap mixed | (with_reducible first | refine au ?_ | refine aA (f := .c (.fn 136 [])) ?_ | refine aT (f := .c (.fn 137 [])) (z := []) (q := [0, 1, 2, 3]) ?_ | refine aO (f := .c (.fn 137 [])) (z := []) (q := [0, 1, 2, 3]) ?_ | refine aw ?_ | refine am (h1) (by simp) ?_ | refine am (h2) (by simp) ?_) | (with_reducible refine ⟨?_, ?_⟩; (focus ((repeat' with_reducible refine ⟨?_, ?_⟩) <;> first | exact trivial | assumption | (simp; done) | (simp only [zA] at *; omega) | omega | (simp [fs]; done) | exact ax))) | (with_reducible intro x hx) | omega) <;> (try simp only [Nat.reduceBEq, reduceIte, Nat.reduceEqDiff, Nat.reduceAdd, Nat.reduceSub, Nat.reduceLT, reduceCtorEq, ne_eq, Int.reduceNeg, fw, fd]))
 refine ay [0, 1, 2] (by rfl) (by simp) (by simp [fg])
def kM (most : Nat) (s : Rs) : (List (Int × Int × Int)) × Rs :=
 match aG nh most s with
 | (v1, s1) =>
  (v1, s1)
theorem nc (most : Nat) (hm : most < 1000000) (s : Rs) : (kM most s).2.l.length ≤ s.l.length := by
 unfold kM
 have g1 := br qd most (by omega) s
 generalize aG nh most s = q1 at g1 ⊢
 obtain ⟨v1, s1⟩ := q1
 dsimp only at g1 ⊢
 omega
set_option maxHeartbeats 4000000 in
theorem xu (s : Rs) (sz : Nat) (R : List D) (j : Nat) (most : Nat) (hN0 : R[j]? = some (.list (some true) true [])) (hz : R.length = sz) (hj : j + 1 ≤ sz) (hm : most < 1000000) (hl : s.l.length ≤ 1099511627776) :
  az Tryz.prog 119 [.ptr 0 0 0 1, .ptr 2 0 j 1, .int .i64 most] [Cr 1 s.cb, Rd s.l s.rb, Va sz R] (.tup [])
   [Cr 1 (kM most s).2.cb, Rd (kM most s).2.l (kM most s).2.rb, Va sz (cJ R j [L (bo (kM most s).1)])] := by
 refine aS Tryz.func119 low119 (by simp [c119]) ?_
 simp only [c119]
 unfold kM
 have z0 := hz
 have k0 : ∀ x, j + 0 ≤ x → R[x]? = R[x]? := fun _ _ => rfl
 have g1 := br qd most (by omega) s
 have h1 : az Tryz.prog 139 [.ptr 0 0 0 1, .ptr 2 0 j 1, .int .i64 most, .fn 140 [.ptr 3 0 0 1]] [Cr 1 s.cb, Rd s.l s.rb, Va sz R, Bx 0] (.tup []) [Cr 1 (aG nh most s).2.cb, Rd (aG nh most s).2.l (aG nh most s).2.rb, Va sz (R.set j (L (bo (aG nh most s).1))), Bx 0] := wW s sz R j most (by rw [k0 _ (by omega)]; exact hN0) (by omega) (by omega) (by omega)
 generalize aG nh most s = q1 at h1 g1 ⊢
 obtain ⟨v1, s1⟩ := q1
 dsimp only at h1 g1 ⊢
 obtain ⟨R1, e1⟩ : ∃ R1, R1 = R.set j (L (bo v1)) := ⟨_, rfl⟩
 rw [← e1] at h1
 have z1 : R1.length = sz := by rw [e1, zF]; exact z0
 have k1 : ∀ x, j + 1 ≤ x → R1[x]? = R[x]? := fun x hx => by rw [e1, zC (by omega)] <;> exact k0 x (by omega)
 have eR : cJ R j [L (bo v1)] = R1 := by rw [e1] <;> rfl
 rw [eR]
 clear eR e1 k0 k1 z1
 repeat' ((first | apply ah | apply ai | apply af | apply ak mixed | (with_reducible first | refine au ?_ | refine aT (f := .c (.fn 139 [])) (z := []) (q := [0, 1, 2, 3]) ?_ | refine aO (f := .c (.fn 139 [])) (z := []) (q := [0, 1, 2, 3]) ?_ | refine ar ?_ | refine am (h1) (by simp) ?_) | (with_reducible refine ⟨?_, ?_⟩; (focus ((repeat' with_reducible refine ⟨?_, ?_⟩) <;> first | exact trivial | assumption | (simp; done) | (simp only [zA] at *; omega) | omega | (simp [fs]; done) | exact ax))) | (with_reducible intro x hx) | omega) <;> (try simp only [Nat.reduceBEq, reduceIte, Nat.reduceAdd, Nat.reduceSub, Nat.reduceLT, reduceCtorEq, ne_eq, fw, fd]))
 refine ay [0, 1, 2] (by rfl) (by simp) (by simp [fg])
def jE (s : Rs) : (Se) × Rs :=
 match nT s with
 | (v1, s1) =>
 match kM 10 s1 with
 | (v2, s2) =>
 match aG nf 60 s2 with
 | (v3, s3) =>
 match aN 240 s3 with
 | (v4, s4) =>
 match aN 240 s4 with
 | (v5, s5) =>
  (⟨v1.1, v1.2, v2, v3, v4, v5⟩, s5)
theorem ux (s : Rs) : (jE s).2.l.length ≤ s.l.length := by
 unfold jE
 have g1 := uz s
 generalize nT s = q1 at g1 ⊢
 obtain ⟨v1, s1⟩ := q1
 dsimp only at g1 ⊢
 have g2 := nc 10 (by omega) s1
 generalize kM 10 s1 = q2 at g2 ⊢
 obtain ⟨v2, s2⟩ := q2
 dsimp only at g2 ⊢
 have g3 := br qa 60 (by omega) s2
 generalize aG nf 60 s2 = q3 at g3 ⊢
 obtain ⟨v3, s3⟩ := q3
 dsimp only at g3 ⊢
 have g4 := (aQ 240 (by omega) s3).1
 generalize aN 240 s3 = q4 at g4 ⊢
 obtain ⟨v4, s4⟩ := q4
 dsimp only at g4 ⊢
 have g5 := (aQ 240 (by omega) s4).1
 generalize aN 240 s4 = q5 at g5 ⊢
 obtain ⟨v5, s5⟩ := q5
 dsimp only at g5 ⊢
 omega
set_option maxHeartbeats 4000000 in
theorem cSe_r (s : Rs) (sz : Nat) (R : List D) (j : Nat) (hN1 : R[j + 1]? = some (.list (some true) true [])) (hN2 : R[j + 2]? = some (.list (some true) true [])) (hN3 : R[j + 3]? = some (.list (some true) true [])) (hz : R.length = sz) (hj : j + 6 ≤ sz) (hl : s.l.length ≤ 1099511627776) :
  az Tryz.prog 93 [.ptr 0 0 0 1, .ptr 2 0 j 1] [Cr 1 s.cb, Rd s.l s.rb, Va sz R] (.tup [])
   [Cr 1 (jE s).2.cb, Rd (jE s).2.l (jE s).2.rb, Va sz (cJ R j [.int .i64 (jE s).1.base, L (aV .i64 .i64 (jE s).1.turns), L (bo (jE s).1.shifts), L (aJ .i64 (jE s).1.off), .int .i64 (jE s).1.before, .int .i64 (jE s).1.after])] := by
 refine aS Tryz.func93 low93 (by simp [c93]) ?_
 simp only [c93]
 unfold jE
 have z0 := hz
 have k0 : ∀ x, j + 0 ≤ x → R[x]? = R[x]? := fun _ _ => rfl
 have g1 := uz s
 have h1 : az Tryz.prog 118 [.ptr 0 0 0 1, .ptr 2 0 j 1] [Cr 1 s.cb, Rd s.l s.rb, Va sz R] (.tup []) [Cr 1 (nT s).2.cb, Rd (nT s).2.l (nT s).2.rb, Va sz (cJ R j [.int .i64 (nT s).1.1, L (aV .i64 .i64 (nT s).1.2)])] := cZo_r s sz R j (by rw [k0 _ (by omega)]; exact hN1) (by omega) (by omega) (by omega)
 generalize nT s = q1 at h1 g1 ⊢
 obtain ⟨v1, s1⟩ := q1
 dsimp only at h1 g1 ⊢
 obtain ⟨R1, e1⟩ : ∃ R1, R1 = cJ R j [.int .i64 v1.1, L (aV .i64 .i64 v1.2)] := ⟨_, rfl⟩
 rw [← e1] at h1
 have z1 : R1.length = sz := by rw [e1, dG]; exact z0
 have k1 : ∀ x, j + 2 ≤ x → R1[x]? = R[x]? := fun x hx => by rw [e1, dF _ _ _ _ (by simp only [zK, zL]; omega)] <;> exact k0 x (by omega)
 have g2 := nc 10 (by omega) s1
 have h2 : az Tryz.prog 119 [.ptr 0 0 0 1, .ptr 2 0 (j + 2) 1, .int .i64 10] [Cr 1 s1.cb, Rd s1.l s1.rb, Va sz R1] (.tup []) [Cr 1 (kM 10 s1).2.cb, Rd (kM 10 s1).2.l (kM 10 s1).2.rb, Va sz (cJ R1 (j + 2) [L (bo (kM 10 s1).1)])] := xu s1 sz R1 (j + 2) 10 (by rw [k1 _ (by omega)]; exact hN2) (by omega) (by omega) (by omega) (by omega)
 generalize kM 10 s1 = q2 at h2 g2 ⊢
 obtain ⟨v2, s2⟩ := q2
 dsimp only at h2 g2 ⊢
 obtain ⟨R2, e2⟩ : ∃ R2, R2 = cJ R1 (j + 2) [L (bo v2)] := ⟨_, rfl⟩
 rw [← e2] at h2
 have z2 : R2.length = sz := by rw [e2, dG]; exact z1
 have k2 : ∀ x, j + 3 ≤ x → R2[x]? = R[x]? := fun x hx => by rw [e2, dF _ _ _ _ (by simp only [zK, zL]; omega)] <;> exact k1 x (by omega)
 have g3 := br qa 60 (by omega) s2
 have h3 : az Tryz.prog 120 [.ptr 0 0 0 1, .ptr 2 0 (j + 3) 1, .int .i64 60, .fn 121 [.ptr 3 0 0 1]] [Cr 1 s2.cb, Rd s2.l s2.rb, Va sz R2, Bx 0] (.tup []) [Cr 1 (aG nf 60 s2).2.cb, Rd (aG nf 60 s2).2.l (aG nf 60 s2).2.rb, Va sz (R2.set (j + 3) (L (aJ .i64 (aG nf 60 s2).1))), Bx 0] := wO s2 sz R2 (j + 3) 60 (by rw [k2 _ (by omega)]; exact hN3) (by omega) (by omega) (by omega)
 generalize aG nf 60 s2 = q3 at h3 g3 ⊢
 obtain ⟨v3, s3⟩ := q3
 dsimp only at h3 g3 ⊢
 obtain ⟨R3, e3⟩ : ∃ R3, R3 = R2.set (j + 3) (L (aJ .i64 v3)) := ⟨_, rfl⟩
 rw [← e3] at h3
 have z3 : R3.length = sz := by rw [e3, zF]; exact z2
 have k3 : ∀ x, j + 4 ≤ x → R3[x]? = R[x]? := fun x hx => by rw [e3, zC (by omega)] <;> exact k2 x (by omega)
 have g4 := (aQ 240 (by omega) s3).1
 have h4 : az Tryz.prog 57 [.ptr 0 0 0 1, .ptr 2 0 (j + 4) 1, .int .u64 240] [Cr 1 s3.cb, Rd s3.l s3.rb, Va sz R3] (.tup []) [Cr 1 (aN 240 s3).2.cb, Rd (aN 240 s3).2.l (aN 240 s3).2.rb, Va sz (R3.set (j + 4) (.int .i64 (((aN 240 s3).1 : Nat) : Int)))] := cI s3.l s3.rb s3.cb sz R3 (j + 4) 240 (by omega) (by omega) (by omega) (by omega)
 generalize aN 240 s3 = q4 at h4 g4 ⊢
 obtain ⟨v4, s4⟩ := q4
 dsimp only at h4 g4 ⊢
 obtain ⟨R4, e4⟩ : ∃ R4, R4 = R3.set (j + 4) (.int .i64 ((v4 : Nat) : Int)) := ⟨_, rfl⟩
 rw [← e4] at h4
 have z4 : R4.length = sz := by rw [e4, zF]; exact z3
 have k4 : ∀ x, j + 5 ≤ x → R4[x]? = R[x]? := fun x hx => by rw [e4, zC (by omega)] <;> exact k3 x (by omega)
 have g5 := (aQ 240 (by omega) s4).1
 have h5 : az Tryz.prog 57 [.ptr 0 0 0 1, .ptr 2 0 (j + 5) 1, .int .u64 240] [Cr 1 s4.cb, Rd s4.l s4.rb, Va sz R4] (.tup []) [Cr 1 (aN 240 s4).2.cb, Rd (aN 240 s4).2.l (aN 240 s4).2.rb, Va sz (R4.set (j + 5) (.int .i64 (((aN 240 s4).1 : Nat) : Int)))] := cI s4.l s4.rb s4.cb sz R4 (j + 5) 240 (by omega) (by omega) (by omega) (by omega)
 generalize aN 240 s4 = q5 at h5 g5 ⊢
 obtain ⟨v5, s5⟩ := q5
 dsimp only at h5 g5 ⊢
 obtain ⟨R5, e5⟩ : ∃ R5, R5 = R4.set (j + 5) (.int .i64 ((v5 : Nat) : Int)) := ⟨_, rfl⟩
 rw [← e5] at h5
 have z5 : R5.length = sz := by rw [e5, zF]; exact z4
 have k5 : ∀ x, j + 6 ≤ x → R5[x]? = R[x]? := fun x hx => by rw [e5, zC (by omega)] <;> exact k4 x (by omega)
 have eR : cJ R j [.int .i64 (⟨v1.1, v1.2, v2, v3, v4, v5⟩ : Se).base, L (aV .i64 .i64 (⟨v1.1, v1.2, v2, v3, v4, v5⟩ : Se).turns), L (bo (⟨v1.1, v1.2, v2, v3, v4, v5⟩ : Se).shifts), L (aJ .i64 (⟨v1.1, v1.2, v2, v3, v4, v5⟩ : Se).off), .int .i64 (⟨v1.1, v1.2, v2, v3, v4, v5⟩ : Se).before, .int .i64 (⟨v1.1, v1.2, v2, v3, v4, v5⟩ : Se).after] = R5 := by rw [e5, e4, e3, e2, e1] <;> rfl
 rw [eR]
 clear eR e1 e2 e3 e4 e5 k0 k1 k2 k3 k4 k5 z1 z2 z3 z4 z5
 repeat' ((first | apply ah | apply ai | apply af | apply ak mixed | apply ap mixed | (with_reducible first | refine au ?_ | refine aA (f := .c (.fn 118 [])) ?_ | refine aA (f := .c (.fn 119 [])) ?_ | refine aT (f := .c (.fn 120 [])) (z := []) (q := [0, 1, 2, 3]) ?_ | refine aO (f := .c (.fn 120 [])) (z := []) (q := [0, 1, 2, 3]) ?_ | refine aA (f := .c (.fn 57 [])) ?_ | refine aw ?_ | refine am (h1) (by simp) ?_ | refine am (h2) (by simp) ?_ | refine am (h3) (by simp) ?_ | refine am (h4) (by simp) ?_ | refine am (h5) (by simp) ?_) | (with_reducible refine ⟨?_, ?_⟩; (focus ((repeat' with_reducible refine ⟨?_, ?_⟩) <;> first | exact trivial | assumption | (simp; done) | (simp only [zA] at *; omega) | omega | (simp [fs]; done) | exact ax))) | (with_reducible intro x hx) | omega) <;> (try simp only [Nat.reduceBEq, reduceIte, Nat.reduceEqDiff, Nat.reduceAdd, Nat.reduceSub, Nat.reduceLT, reduceCtorEq, ne_eq, fw, fd]))
 refine ay [0, 1, 2] (by rfl) (by simp) (by simp [fg])
def ix (s : Rs) : (List Int) × Rs :=
 match aG ni 400 s with
 | (v1, s1) =>
  (v1, s1)
theorem jb (s : Rs) : (ix s).2.l.length ≤ s.l.length := by
 unfold ix
 have g1 := br qe 400 (by omega) s
 generalize aG ni 400 s = q1 at g1 ⊢
 obtain ⟨v1, s1⟩ := q1
 dsimp only at g1 ⊢
 omega
set_option maxHeartbeats 4000000 in
theorem tk (s : Rs) (sz : Nat) (R : List D) (j : Nat) (hN0 : R[j]? = some (.list (some true) true [])) (hz : R.length = sz) (hj : j + 1 ≤ sz) (hl : s.l.length ≤ 1099511627776) :
  az Tryz.prog 141 [.ptr 0 0 0 1, .ptr 2 0 j 1] [Cr 1 s.cb, Rd s.l s.rb, Va sz R] (.tup [])
   [Cr 1 (ix s).2.cb, Rd (ix s).2.l (ix s).2.rb, Va sz (cJ R j [L (aJ .i64 (ix s).1)])] := by
 refine aS Tryz.func141 low141 (by simp [c141]) ?_
 simp only [c141]
 unfold ix
 have z0 := hz
 have k0 : ∀ x, j + 0 ≤ x → R[x]? = R[x]? := fun _ _ => rfl
 have g1 := br qe 400 (by omega) s
 have h1 : az Tryz.prog 120 [.ptr 0 0 0 1, .ptr 2 0 j 1, .int .i64 400, .fn 144 [.ptr 3 0 0 1]] [Cr 1 s.cb, Rd s.l s.rb, Va sz R, Bx 0] (.tup []) [Cr 1 (aG ni 400 s).2.cb, Rd (aG ni 400 s).2.l (aG ni 400 s).2.rb, Va sz (R.set j (L (aJ .i64 (aG ni 400 s).1))), Bx 0] := wY s sz R j 400 (by rw [k0 _ (by omega)]; exact hN0) (by omega) (by omega) (by omega)
 generalize aG ni 400 s = q1 at h1 g1 ⊢
 obtain ⟨v1, s1⟩ := q1
 dsimp only at h1 g1 ⊢
 obtain ⟨R1, e1⟩ : ∃ R1, R1 = R.set j (L (aJ .i64 v1)) := ⟨_, rfl⟩
 rw [← e1] at h1
 have z1 : R1.length = sz := by rw [e1, zF]; exact z0
 have k1 : ∀ x, j + 1 ≤ x → R1[x]? = R[x]? := fun x hx => by rw [e1, zC (by omega)] <;> exact k0 x (by omega)
 have eR : cJ R j [L (aJ .i64 v1)] = R1 := by rw [e1] <;> rfl
 rw [eR]
 clear eR e1 k0 k1 z1
 repeat' ((first | apply ah | apply ai | apply af | apply ak mixed | (with_reducible first | refine au ?_ | refine aT (f := .c (.fn 120 [])) (z := []) (q := [0, 1, 2, 3]) ?_ | refine aO (f := .c (.fn 120 [])) (z := []) (q := [0, 1, 2, 3]) ?_ | refine ar ?_ | refine am (h1) (by simp) ?_) | (with_reducible refine ⟨?_, ?_⟩; (focus ((repeat' with_reducible refine ⟨?_, ?_⟩) <;> first | exact trivial | assumption | (simp; done) | (simp only [zA] at *; omega) | omega | (simp [fs]; done) | exact ax))) | (with_reducible intro x hx) | omega) <;> (try simp only [Nat.reduceBEq, reduceIte, Nat.reduceAdd, Nat.reduceSub, Nat.reduceLT, reduceCtorEq, ne_eq, fw, fd]))
 refine ay [0, 1, 2] (by rfl) (by simp) (by simp [fg])
def ib (s : Rs) : (Ru) × Rs :=
 match aN 4 s with
 | (v1, s1) =>
 match aN 999 s1 with
 | (v2, s2) =>
 match aN 5000 s2 with
 | (v3, s3) =>
 match cB s3 with
 | (v4, s4) =>
 match ix s4 with
 | (v5, s5) =>
 match ix s5 with
 | (v6, s6) =>
 match aG m9 400 s6 with
 | (v7, s7) =>
 match ix s7 with
 | (v8, s8) =>
 match aN 6 s8 with
 | (v9, s9) =>
  (⟨v1, v2, v3, v4, v5, v6, v7, v8, v9⟩, s9)
theorem uw (s : Rs) : (ib s).2.l.length ≤ s.l.length := by
 unfold ib
 have g1 := (aQ 4 (by omega) s).1
 generalize aN 4 s = q1 at g1 ⊢
 obtain ⟨v1, s1⟩ := q1
 dsimp only at g1 ⊢
 have g2 := (aQ 999 (by omega) s1).1
 generalize aN 999 s1 = q2 at g2 ⊢
 obtain ⟨v2, s2⟩ := q2
 dsimp only at g2 ⊢
 have g3 := (aQ 5000 (by omega) s2).1
 generalize aN 5000 s2 = q3 at g3 ⊢
 obtain ⟨v3, s3⟩ := q3
 dsimp only at g3 ⊢
 have g4 := cv s3
 generalize cB s3 = q4 at g4 ⊢
 obtain ⟨v4, s4⟩ := q4
 dsimp only at g4 ⊢
 have g5 := jb s4
 generalize ix s4 = q5 at g5 ⊢
 obtain ⟨v5, s5⟩ := q5
 dsimp only at g5 ⊢
 have g6 := jb s5
 generalize ix s5 = q6 at g6 ⊢
 obtain ⟨v6, s6⟩ := q6
 dsimp only at g6 ⊢
 have g7 := br pX 400 (by omega) s6
 generalize aG m9 400 s6 = q7 at g7 ⊢
 obtain ⟨v7, s7⟩ := q7
 dsimp only at g7 ⊢
 have g8 := jb s7
 generalize ix s7 = q8 at g8 ⊢
 obtain ⟨v8, s8⟩ := q8
 dsimp only at g8 ⊢
 have g9 := (aQ 6 (by omega) s8).1
 generalize aN 6 s8 = q9 at g9 ⊢
 obtain ⟨v9, s9⟩ := q9
 dsimp only at g9 ⊢
 omega
set_option maxHeartbeats 4000000 in
theorem cRu_r (s : Rs) (sz : Nat) (R : List D) (j : Nat) (hN4 : R[j + 4]? = some (.list (some true) true [])) (hN5 : R[j + 5]? = some (.list (some true) true [])) (hN6 : R[j + 6]? = some (.list (some true) true [])) (hN7 : R[j + 7]? = some (.list (some true) true [])) (hz : R.length = sz) (hj : j + 9 ≤ sz) (hl : s.l.length ≤ 1099511627776) :
  az Tryz.prog 122 [.ptr 0 0 0 1, .ptr 2 0 j 1] [Cr 1 s.cb, Rd s.l s.rb, Va sz R] (.tup [])
   [Cr 1 (ib s).2.cb, Rd (ib s).2.l (ib s).2.rb, Va sz (cJ R j [.int .i64 (ib s).1.freq, .int .i64 (ib s).1.interval, .int .i64 (ib s).1.count, .int .i64 (ib s).1.til, L (aJ .i64 (ib s).1.bm), L (aJ .i64 (ib s).1.bmd), L (aV .i64 .i64 (ib s).1.bd), L (aJ .i64 (ib s).1.bsp), .int .i64 (ib s).1.start])] := by
 refine aS Tryz.func122 low122 (by simp [c122]) ?_
 simp only [c122]
 unfold ib
 have z0 := hz
 have k0 : ∀ x, j + 0 ≤ x → R[x]? = R[x]? := fun _ _ => rfl
 have g1 := (aQ 4 (by omega) s).1
 have h1 : az Tryz.prog 57 [.ptr 0 0 0 1, .ptr 2 0 j 1, .int .u64 4] [Cr 1 s.cb, Rd s.l s.rb, Va sz R] (.tup []) [Cr 1 (aN 4 s).2.cb, Rd (aN 4 s).2.l (aN 4 s).2.rb, Va sz (R.set j (.int .i64 (((aN 4 s).1 : Nat) : Int)))] := cI s.l s.rb s.cb sz R j 4 (by omega) (by omega) (by omega) (by omega)
 generalize aN 4 s = q1 at h1 g1 ⊢
 obtain ⟨v1, s1⟩ := q1
 dsimp only at h1 g1 ⊢
 obtain ⟨R1, e1⟩ : ∃ R1, R1 = R.set j (.int .i64 ((v1 : Nat) : Int)) := ⟨_, rfl⟩
 rw [← e1] at h1
 have z1 : R1.length = sz := by rw [e1, zF]; exact z0
 have k1 : ∀ x, j + 1 ≤ x → R1[x]? = R[x]? := fun x hx => by rw [e1, zC (by omega)] <;> exact k0 x (by omega)
 have g2 := (aQ 999 (by omega) s1).1
 have h2 : az Tryz.prog 57 [.ptr 0 0 0 1, .ptr 2 0 (j + 1) 1, .int .u64 999] [Cr 1 s1.cb, Rd s1.l s1.rb, Va sz R1] (.tup []) [Cr 1 (aN 999 s1).2.cb, Rd (aN 999 s1).2.l (aN 999 s1).2.rb, Va sz (R1.set (j + 1) (.int .i64 (((aN 999 s1).1 : Nat) : Int)))] := cI s1.l s1.rb s1.cb sz R1 (j + 1) 999 (by omega) (by omega) (by omega) (by omega)
 generalize aN 999 s1 = q2 at h2 g2 ⊢
 obtain ⟨v2, s2⟩ := q2
 dsimp only at h2 g2 ⊢
 obtain ⟨R2, e2⟩ : ∃ R2, R2 = R1.set (j + 1) (.int .i64 ((v2 : Nat) : Int)) := ⟨_, rfl⟩
 rw [← e2] at h2
 have z2 : R2.length = sz := by rw [e2, zF]; exact z1
 have k2 : ∀ x, j + 2 ≤ x → R2[x]? = R[x]? := fun x hx => by rw [e2, zC (by omega)] <;> exact k1 x (by omega)
 have g3 := (aQ 5000 (by omega) s2).1
 have h3 : az Tryz.prog 57 [.ptr 0 0 0 1, .ptr 2 0 (j + 2) 1, .int .u64 5000] [Cr 1 s2.cb, Rd s2.l s2.rb, Va sz R2] (.tup []) [Cr 1 (aN 5000 s2).2.cb, Rd (aN 5000 s2).2.l (aN 5000 s2).2.rb, Va sz (R2.set (j + 2) (.int .i64 (((aN 5000 s2).1 : Nat) : Int)))] := cI s2.l s2.rb s2.cb sz R2 (j + 2) 5000 (by omega) (by omega) (by omega) (by omega)
 generalize aN 5000 s2 = q3 at h3 g3 ⊢
 obtain ⟨v3, s3⟩ := q3
 dsimp only at h3 g3 ⊢
 obtain ⟨R3, e3⟩ : ∃ R3, R3 = R2.set (j + 2) (.int .i64 ((v3 : Nat) : Int)) := ⟨_, rfl⟩
 rw [← e3] at h3
 have z3 : R3.length = sz := by rw [e3, zF]; exact z2
 have k3 : ∀ x, j + 3 ≤ x → R3[x]? = R[x]? := fun x hx => by rw [e3, zC (by omega)] <;> exact k2 x (by omega)
 have g4 := cv s3
 have h4 : az Tryz.prog 56 [.ptr 0 0 0 1, .ptr 2 0 (j + 3) 1] [Cr 1 s3.cb, Rd s3.l s3.rb, Va sz R3] (.tup []) [Cr 1 (cB s3).2.cb, Rd (cB s3).2.l (cB s3).2.rb, Va sz (R3.set (j + 3) (.int .i64 ((cB s3).1 : Int)))] := cC s3.l s3.rb s3.cb sz R3 (j + 3) (by omega) (by omega) (by omega)
 generalize cB s3 = q4 at h4 g4 ⊢
 obtain ⟨v4, s4⟩ := q4
 dsimp only at h4 g4 ⊢
 obtain ⟨R4, e4⟩ : ∃ R4, R4 = R3.set (j + 3) (.int .i64 (v4 : Int)) := ⟨_, rfl⟩
 rw [← e4] at h4
 have z4 : R4.length = sz := by rw [e4, zF]; exact z3
 have k4 : ∀ x, j + 4 ≤ x → R4[x]? = R[x]? := fun x hx => by rw [e4, zC (by omega)] <;> exact k3 x (by omega)
 have g5 := jb s4
 have h5 : az Tryz.prog 141 [.ptr 0 0 0 1, .ptr 2 0 (j + 4) 1] [Cr 1 s4.cb, Rd s4.l s4.rb, Va sz R4] (.tup []) [Cr 1 (ix s4).2.cb, Rd (ix s4).2.l (ix s4).2.rb, Va sz (cJ R4 (j + 4) [L (aJ .i64 (ix s4).1)])] := tk s4 sz R4 (j + 4) (by rw [k4 _ (by omega)]; exact hN4) (by omega) (by omega) (by omega)
 generalize ix s4 = q5 at h5 g5 ⊢
 obtain ⟨v5, s5⟩ := q5
 dsimp only at h5 g5 ⊢
 obtain ⟨R5, e5⟩ : ∃ R5, R5 = cJ R4 (j + 4) [L (aJ .i64 v5)] := ⟨_, rfl⟩
 rw [← e5] at h5
 have z5 : R5.length = sz := by rw [e5, dG]; exact z4
 have k5 : ∀ x, j + 5 ≤ x → R5[x]? = R[x]? := fun x hx => by rw [e5, dF _ _ _ _ (by simp only [zK, zL]; omega)] <;> exact k4 x (by omega)
 have g6 := jb s5
 have h6 : az Tryz.prog 141 [.ptr 0 0 0 1, .ptr 2 0 (j + 5) 1] [Cr 1 s5.cb, Rd s5.l s5.rb, Va sz R5] (.tup []) [Cr 1 (ix s5).2.cb, Rd (ix s5).2.l (ix s5).2.rb, Va sz (cJ R5 (j + 5) [L (aJ .i64 (ix s5).1)])] := tk s5 sz R5 (j + 5) (by rw [k5 _ (by omega)]; exact hN5) (by omega) (by omega) (by omega)
 generalize ix s5 = q6 at h6 g6 ⊢
 obtain ⟨v6, s6⟩ := q6
 dsimp only at h6 g6 ⊢
 obtain ⟨R6, e6⟩ : ∃ R6, R6 = cJ R5 (j + 5) [L (aJ .i64 v6)] := ⟨_, rfl⟩
 rw [← e6] at h6
 have z6 : R6.length = sz := by rw [e6, dG]; exact z5
 have k6 : ∀ x, j + 6 ≤ x → R6[x]? = R[x]? := fun x hx => by rw [e6, dF _ _ _ _ (by simp only [zK, zL]; omega)] <;> exact k5 x (by omega)
 have g7 := br pX 400 (by omega) s6
 have h7 : az Tryz.prog 142 [.ptr 0 0 0 1, .ptr 2 0 (j + 6) 1, .int .i64 400, .fn 143 [.ptr 3 0 0 1]] [Cr 1 s6.cb, Rd s6.l s6.rb, Va sz R6, Bx 0] (.tup []) [Cr 1 (aG m9 400 s6).2.cb, Rd (aG m9 400 s6).2.l (aG m9 400 s6).2.rb, Va sz (R6.set (j + 6) (L (aV .i64 .i64 (aG m9 400 s6).1))), Bx 0] := wD s6 sz R6 (j + 6) 400 (by rw [k6 _ (by omega)]; exact hN6) (by omega) (by omega) (by omega)
 generalize aG m9 400 s6 = q7 at h7 g7 ⊢
 obtain ⟨v7, s7⟩ := q7
 dsimp only at h7 g7 ⊢
 obtain ⟨R7, e7⟩ : ∃ R7, R7 = R6.set (j + 6) (L (aV .i64 .i64 v7)) := ⟨_, rfl⟩
 rw [← e7] at h7
 have z7 : R7.length = sz := by rw [e7, zF]; exact z6
 have k7 : ∀ x, j + 7 ≤ x → R7[x]? = R[x]? := fun x hx => by rw [e7, zC (by omega)] <;> exact k6 x (by omega)
 have g8 := jb s7
 have h8 : az Tryz.prog 141 [.ptr 0 0 0 1, .ptr 2 0 (j + 7) 1] [Cr 1 s7.cb, Rd s7.l s7.rb, Va sz R7] (.tup []) [Cr 1 (ix s7).2.cb, Rd (ix s7).2.l (ix s7).2.rb, Va sz (cJ R7 (j + 7) [L (aJ .i64 (ix s7).1)])] := tk s7 sz R7 (j + 7) (by rw [k7 _ (by omega)]; exact hN7) (by omega) (by omega) (by omega)
 generalize ix s7 = q8 at h8 g8 ⊢
 obtain ⟨v8, s8⟩ := q8
 dsimp only at h8 g8 ⊢
 obtain ⟨R8, e8⟩ : ∃ R8, R8 = cJ R7 (j + 7) [L (aJ .i64 v8)] := ⟨_, rfl⟩
 rw [← e8] at h8
 have z8 : R8.length = sz := by rw [e8, dG]; exact z7
 have k8 : ∀ x, j + 8 ≤ x → R8[x]? = R[x]? := fun x hx => by rw [e8, dF _ _ _ _ (by simp only [zK, zL]; omega)] <;> exact k7 x (by omega)
 have g9 := (aQ 6 (by omega) s8).1
 have h9 : az Tryz.prog 57 [.ptr 0 0 0 1, .ptr 2 0 (j + 8) 1, .int .u64 6] [Cr 1 s8.cb, Rd s8.l s8.rb, Va sz R8] (.tup []) [Cr 1 (aN 6 s8).2.cb, Rd (aN 6 s8).2.l (aN 6 s8).2.rb, Va sz (R8.set (j + 8) (.int .i64 (((aN 6 s8).1 : Nat) : Int)))] := cI s8.l s8.rb s8.cb sz R8 (j + 8) 6 (by omega) (by omega) (by omega) (by omega)
 generalize aN 6 s8 = q9 at h9 g9 ⊢
 obtain ⟨v9, s9⟩ := q9
 dsimp only at h9 g9 ⊢
 obtain ⟨R9, e9⟩ : ∃ R9, R9 = R8.set (j + 8) (.int .i64 ((v9 : Nat) : Int)) := ⟨_, rfl⟩
 rw [← e9] at h9
 have z9 : R9.length = sz := by rw [e9, zF]; exact z8
 have k9 : ∀ x, j + 9 ≤ x → R9[x]? = R[x]? := fun x hx => by rw [e9, zC (by omega)] <;> exact k8 x (by omega)
 have eR : cJ R j [.int .i64 (⟨v1, v2, v3, v4, v5, v6, v7, v8, v9⟩ : Ru).freq, .int .i64 (⟨v1, v2, v3, v4, v5, v6, v7, v8, v9⟩ : Ru).interval, .int .i64 (⟨v1, v2, v3, v4, v5, v6, v7, v8, v9⟩ : Ru).count, .int .i64 (⟨v1, v2, v3, v4, v5, v6, v7, v8, v9⟩ : Ru).til, L (aJ .i64 (⟨v1, v2, v3, v4, v5, v6, v7, v8, v9⟩ : Ru).bm), L (aJ .i64 (⟨v1, v2, v3, v4, v5, v6, v7, v8, v9⟩ : Ru).bmd), L (aV .i64 .i64 (⟨v1, v2, v3, v4, v5, v6, v7, v8, v9⟩ : Ru).bd), L (aJ .i64 (⟨v1, v2, v3, v4, v5, v6, v7, v8, v9⟩ : Ru).bsp), .int .i64 (⟨v1, v2, v3, v4, v5, v6, v7, v8, v9⟩ : Ru).start] = R9 := by rw [e9, e8, e7, e6, e5, e4, e3, e2, e1] <;> rfl
 rw [eR]
 clear eR e1 e2 e3 e4 e5 e6 e7 e8 e9 k0 k1 k2 k3 k4 k5 k6 k7 k8 k9 z1 z2 z3 z4 z5 z6 z7 z8 z9
 repeat' ((first | apply ah | apply ai | apply af | apply ak mixed | apply ap mixed | (with_reducible first | refine au ?_ | refine aA (f := .c (.fn 57 [])) ?_ | refine aA (f := .c (.fn 56 [])) ?_ | refine aA (f := .c (.fn 141 [])) ?_ | refine aT (f := .c (.fn 142 [])) (z := []) (q := [0, 1, 2, 3]) ?_ | refine aO (f := .c (.fn 142 [])) (z := []) (q := [0, 1, 2, 3]) ?_ | refine aw ?_ | refine am (h1) (by simp) ?_ | refine am (h2) (by simp) ?_ | refine am (h3) (by simp) ?_ | refine am (h4) (by simp) ?_ | refine am (h5) (by simp) ?_ | refine am (h6) (by simp) ?_ | refine am (h7) (by simp) ?_ | refine am (h8) (by simp) ?_ | refine am (h9) (by simp) ?_) | (with_reducible refine ⟨?_, ?_⟩; (focus ((repeat' with_reducible refine ⟨?_, ?_⟩) <;> first | exact trivial | assumption | (simp; done) | (simp only [zA] at *; omega) | omega | (simp [fs]; done) | exact ax))) | (with_reducible intro x hx) | omega) <;> (try simp only [Nat.reduceBEq, reduceIte, Nat.reduceEqDiff, Nat.reduceAdd, Nat.reduceSub, Nat.reduceLT, reduceCtorEq, ne_eq, fw, fd]))
 refine ay [0, 1, 2] (by rfl) (by simp) (by simp [fg])
def ij (s : Rs) : (Qu) × Rs :=
 match cB s with
 | (v1, s1) =>
 match cB s1 with
 | (v2, s2) =>
 match aN 10080 s2 with
 | (v3, s3) =>
 match aN 1440 s3 with
 | (v4, s4) =>
 match aG ne 64 s4 with
 | (v5, s5) =>
 match aG nq 16 s5 with
 | (v6, s6) =>
 match aN 100 s6 with
 | (v7, s7) =>
 match aG ng 32 s7 with
 | (v8, s8) =>
 match kM 8 s8 with
 | (v9, s9) =>
  (⟨v1, v2, v3, v4, v5, v6, v7, v8, v9⟩, s9)
theorem uv (s : Rs) : (ij s).2.l.length ≤ s.l.length := by
 unfold ij
 have g1 := cv s
 generalize cB s = q1 at g1 ⊢
 obtain ⟨v1, s1⟩ := q1
 dsimp only at g1 ⊢
 have g2 := cv s1
 generalize cB s1 = q2 at g2 ⊢
 obtain ⟨v2, s2⟩ := q2
 dsimp only at g2 ⊢
 have g3 := (aQ 10080 (by omega) s2).1
 generalize aN 10080 s2 = q3 at g3 ⊢
 obtain ⟨v3, s3⟩ := q3
 dsimp only at g3 ⊢
 have g4 := (aQ 1440 (by omega) s3).1
 generalize aN 1440 s3 = q4 at g4 ⊢
 obtain ⟨v4, s4⟩ := q4
 dsimp only at g4 ⊢
 have g5 := br p9 64 (by omega) s4
 generalize aG ne 64 s4 = q5 at g5 ⊢
 obtain ⟨v5, s5⟩ := q5
 dsimp only at g5 ⊢
 have g6 := br qi 16 (by omega) s5
 generalize aG nq 16 s5 = q6 at g6 ⊢
 obtain ⟨v6, s6⟩ := q6
 dsimp only at g6 ⊢
 have g7 := (aQ 100 (by omega) s6).1
 generalize aN 100 s6 = q7 at g7 ⊢
 obtain ⟨v7, s7⟩ := q7
 dsimp only at g7 ⊢
 have g8 := br qb 32 (by omega) s7
 generalize aG ng 32 s7 = q8 at g8 ⊢
 obtain ⟨v8, s8⟩ := q8
 dsimp only at g8 ⊢
 have g9 := nc 8 (by omega) s8
 generalize kM 8 s8 = q9 at g9 ⊢
 obtain ⟨v9, s9⟩ := q9
 dsimp only at g9 ⊢
 omega
set_option maxHeartbeats 4000000 in
theorem cQu_r (s : Rs) (sz : Nat) (R : List D) (j : Nat) (hN4 : R[j + 4]? = some (.list (some true) true [])) (hN5 : R[j + 5]? = some (.list (some true) true [])) (hN7 : R[j + 7]? = some (.list (some true) true [])) (hN8 : R[j + 8]? = some (.list (some true) true [])) (hz : R.length = sz) (hj : j + 9 ≤ sz) (hl : s.l.length ≤ 1099511627776) :
  az Tryz.prog 95 [.ptr 0 0 0 1, .ptr 2 0 j 1] [Cr 1 s.cb, Rd s.l s.rb, Va sz R] (.tup [])
   [Cr 1 (ij s).2.cb, Rd (ij s).2.l (ij s).2.rb, Va sz (cJ R j [.int .i64 (ij s).1.a, .int .i64 (ij s).1.b, .int .i64 (ij s).1.long, .int .i64 (ij s).1.grid, L (aJ .u32 (ij s).1.must), L (aV .u32 .i64 (ij s).1.may), .int .i64 (ij s).1.seats, L (aV .u32 .u32 (ij s).1.apart), L (bo (ij s).1.prefer)])] := by
 refine aS Tryz.func95 low95 (by simp [c95]) ?_
 simp only [c95]
 unfold ij
 have z0 := hz
 have k0 : ∀ x, j + 0 ≤ x → R[x]? = R[x]? := fun _ _ => rfl
 have g1 := cv s
 have h1 : az Tryz.prog 56 [.ptr 0 0 0 1, .ptr 2 0 j 1] [Cr 1 s.cb, Rd s.l s.rb, Va sz R] (.tup []) [Cr 1 (cB s).2.cb, Rd (cB s).2.l (cB s).2.rb, Va sz (R.set j (.int .i64 ((cB s).1 : Int)))] := cC s.l s.rb s.cb sz R j (by omega) (by omega) (by omega)
 generalize cB s = q1 at h1 g1 ⊢
 obtain ⟨v1, s1⟩ := q1
 dsimp only at h1 g1 ⊢
 obtain ⟨R1, e1⟩ : ∃ R1, R1 = R.set j (.int .i64 (v1 : Int)) := ⟨_, rfl⟩
 rw [← e1] at h1
 have z1 : R1.length = sz := by rw [e1, zF]; exact z0
 have k1 : ∀ x, j + 1 ≤ x → R1[x]? = R[x]? := fun x hx => by rw [e1, zC (by omega)] <;> exact k0 x (by omega)
 have g2 := cv s1
 have h2 : az Tryz.prog 56 [.ptr 0 0 0 1, .ptr 2 0 (j + 1) 1] [Cr 1 s1.cb, Rd s1.l s1.rb, Va sz R1] (.tup []) [Cr 1 (cB s1).2.cb, Rd (cB s1).2.l (cB s1).2.rb, Va sz (R1.set (j + 1) (.int .i64 ((cB s1).1 : Int)))] := cC s1.l s1.rb s1.cb sz R1 (j + 1) (by omega) (by omega) (by omega)
 generalize cB s1 = q2 at h2 g2 ⊢
 obtain ⟨v2, s2⟩ := q2
 dsimp only at h2 g2 ⊢
 obtain ⟨R2, e2⟩ : ∃ R2, R2 = R1.set (j + 1) (.int .i64 (v2 : Int)) := ⟨_, rfl⟩
 rw [← e2] at h2
 have z2 : R2.length = sz := by rw [e2, zF]; exact z1
 have k2 : ∀ x, j + 2 ≤ x → R2[x]? = R[x]? := fun x hx => by rw [e2, zC (by omega)] <;> exact k1 x (by omega)
 have g3 := (aQ 10080 (by omega) s2).1
 have h3 : az Tryz.prog 57 [.ptr 0 0 0 1, .ptr 2 0 (j + 2) 1, .int .u64 10080] [Cr 1 s2.cb, Rd s2.l s2.rb, Va sz R2] (.tup []) [Cr 1 (aN 10080 s2).2.cb, Rd (aN 10080 s2).2.l (aN 10080 s2).2.rb, Va sz (R2.set (j + 2) (.int .i64 (((aN 10080 s2).1 : Nat) : Int)))] := cI s2.l s2.rb s2.cb sz R2 (j + 2) 10080 (by omega) (by omega) (by omega) (by omega)
 generalize aN 10080 s2 = q3 at h3 g3 ⊢
 obtain ⟨v3, s3⟩ := q3
 dsimp only at h3 g3 ⊢
 obtain ⟨R3, e3⟩ : ∃ R3, R3 = R2.set (j + 2) (.int .i64 ((v3 : Nat) : Int)) := ⟨_, rfl⟩
 rw [← e3] at h3
 have z3 : R3.length = sz := by rw [e3, zF]; exact z2
 have k3 : ∀ x, j + 3 ≤ x → R3[x]? = R[x]? := fun x hx => by rw [e3, zC (by omega)] <;> exact k2 x (by omega)
 have g4 := (aQ 1440 (by omega) s3).1
 have h4 : az Tryz.prog 57 [.ptr 0 0 0 1, .ptr 2 0 (j + 3) 1, .int .u64 1440] [Cr 1 s3.cb, Rd s3.l s3.rb, Va sz R3] (.tup []) [Cr 1 (aN 1440 s3).2.cb, Rd (aN 1440 s3).2.l (aN 1440 s3).2.rb, Va sz (R3.set (j + 3) (.int .i64 (((aN 1440 s3).1 : Nat) : Int)))] := cI s3.l s3.rb s3.cb sz R3 (j + 3) 1440 (by omega) (by omega) (by omega) (by omega)
 generalize aN 1440 s3 = q4 at h4 g4 ⊢
 obtain ⟨v4, s4⟩ := q4
 dsimp only at h4 g4 ⊢
 obtain ⟨R4, e4⟩ : ∃ R4, R4 = R3.set (j + 3) (.int .i64 ((v4 : Nat) : Int)) := ⟨_, rfl⟩
 rw [← e4] at h4
 have z4 : R4.length = sz := by rw [e4, zF]; exact z3
 have k4 : ∀ x, j + 4 ≤ x → R4[x]? = R[x]? := fun x hx => by rw [e4, zC (by omega)] <;> exact k3 x (by omega)
 have g5 := br p9 64 (by omega) s4
 have h5 : az Tryz.prog 127 [.ptr 0 0 0 1, .ptr 2 0 (j + 4) 1, .int .i64 64, .fn 128 [.ptr 3 0 0 1]] [Cr 1 s4.cb, Rd s4.l s4.rb, Va sz R4, Bx 0] (.tup []) [Cr 1 (aG ne 64 s4).2.cb, Rd (aG ne 64 s4).2.l (aG ne 64 s4).2.rb, Va sz (R4.set (j + 4) (L (aJ .u32 (aG ne 64 s4).1))), Bx 0] := wM s4 sz R4 (j + 4) 64 (by rw [k4 _ (by omega)]; exact hN4) (by omega) (by omega) (by omega)
 generalize aG ne 64 s4 = q5 at h5 g5 ⊢
 obtain ⟨v5, s5⟩ := q5
 dsimp only at h5 g5 ⊢
 obtain ⟨R5, e5⟩ : ∃ R5, R5 = R4.set (j + 4) (L (aJ .u32 v5)) := ⟨_, rfl⟩
 rw [← e5] at h5
 have z5 : R5.length = sz := by rw [e5, zF]; exact z4
 have k5 : ∀ x, j + 5 ≤ x → R5[x]? = R[x]? := fun x hx => by rw [e5, zC (by omega)] <;> exact k4 x (by omega)
 have g6 := br qi 16 (by omega) s5
 have h6 : az Tryz.prog 129 [.ptr 0 0 0 1, .ptr 2 0 (j + 5) 1, .int .i64 16, .fn 130 [.ptr 3 0 0 1]] [Cr 1 s5.cb, Rd s5.l s5.rb, Va sz R5, Bx 0] (.tup []) [Cr 1 (aG nq 16 s5).2.cb, Rd (aG nq 16 s5).2.l (aG nq 16 s5).2.rb, Va sz (R5.set (j + 5) (L (aV .u32 .i64 (aG nq 16 s5).1))), Bx 0] := xh s5 sz R5 (j + 5) 16 (by rw [k5 _ (by omega)]; exact hN5) (by omega) (by omega) (by omega)
 generalize aG nq 16 s5 = q6 at h6 g6 ⊢
 obtain ⟨v6, s6⟩ := q6
 dsimp only at h6 g6 ⊢
 obtain ⟨R6, e6⟩ : ∃ R6, R6 = R5.set (j + 5) (L (aV .u32 .i64 v6)) := ⟨_, rfl⟩
 rw [← e6] at h6
 have z6 : R6.length = sz := by rw [e6, zF]; exact z5
 have k6 : ∀ x, j + 6 ≤ x → R6[x]? = R[x]? := fun x hx => by rw [e6, zC (by omega)] <;> exact k5 x (by omega)
 have g7 := (aQ 100 (by omega) s6).1
 have h7 : az Tryz.prog 57 [.ptr 0 0 0 1, .ptr 2 0 (j + 6) 1, .int .u64 100] [Cr 1 s6.cb, Rd s6.l s6.rb, Va sz R6] (.tup []) [Cr 1 (aN 100 s6).2.cb, Rd (aN 100 s6).2.l (aN 100 s6).2.rb, Va sz (R6.set (j + 6) (.int .i64 (((aN 100 s6).1 : Nat) : Int)))] := cI s6.l s6.rb s6.cb sz R6 (j + 6) 100 (by omega) (by omega) (by omega) (by omega)
 generalize aN 100 s6 = q7 at h7 g7 ⊢
 obtain ⟨v7, s7⟩ := q7
 dsimp only at h7 g7 ⊢
 obtain ⟨R7, e7⟩ : ∃ R7, R7 = R6.set (j + 6) (.int .i64 ((v7 : Nat) : Int)) := ⟨_, rfl⟩
 rw [← e7] at h7
 have z7 : R7.length = sz := by rw [e7, zF]; exact z6
 have k7 : ∀ x, j + 7 ≤ x → R7[x]? = R[x]? := fun x hx => by rw [e7, zC (by omega)] <;> exact k6 x (by omega)
 have g8 := br qb 32 (by omega) s7
 have h8 : az Tryz.prog 131 [.ptr 0 0 0 1, .ptr 2 0 (j + 7) 1, .int .i64 32, .fn 132 [.ptr 3 0 0 1]] [Cr 1 s7.cb, Rd s7.l s7.rb, Va sz R7, Bx 0] (.tup []) [Cr 1 (aG ng 32 s7).2.cb, Rd (aG ng 32 s7).2.l (aG ng 32 s7).2.rb, Va sz (R7.set (j + 7) (L (aV .u32 .u32 (aG ng 32 s7).1))), Bx 0] := wQ s7 sz R7 (j + 7) 32 (by rw [k7 _ (by omega)]; exact hN7) (by omega) (by omega) (by omega)
 generalize aG ng 32 s7 = q8 at h8 g8 ⊢
 obtain ⟨v8, s8⟩ := q8
 dsimp only at h8 g8 ⊢
 obtain ⟨R8, e8⟩ : ∃ R8, R8 = R7.set (j + 7) (L (aV .u32 .u32 v8)) := ⟨_, rfl⟩
 rw [← e8] at h8
 have z8 : R8.length = sz := by rw [e8, zF]; exact z7
 have k8 : ∀ x, j + 8 ≤ x → R8[x]? = R[x]? := fun x hx => by rw [e8, zC (by omega)] <;> exact k7 x (by omega)
 have g9 := nc 8 (by omega) s8
 have h9 : az Tryz.prog 119 [.ptr 0 0 0 1, .ptr 2 0 (j + 8) 1, .int .i64 8] [Cr 1 s8.cb, Rd s8.l s8.rb, Va sz R8] (.tup []) [Cr 1 (kM 8 s8).2.cb, Rd (kM 8 s8).2.l (kM 8 s8).2.rb, Va sz (cJ R8 (j + 8) [L (bo (kM 8 s8).1)])] := xu s8 sz R8 (j + 8) 8 (by rw [k8 _ (by omega)]; exact hN8) (by omega) (by omega) (by omega) (by omega)
 generalize kM 8 s8 = q9 at h9 g9 ⊢
 obtain ⟨v9, s9⟩ := q9
 dsimp only at h9 g9 ⊢
 obtain ⟨R9, e9⟩ : ∃ R9, R9 = cJ R8 (j + 8) [L (bo v9)] := ⟨_, rfl⟩
 rw [← e9] at h9
 have z9 : R9.length = sz := by rw [e9, dG]; exact z8
 have k9 : ∀ x, j + 9 ≤ x → R9[x]? = R[x]? := fun x hx => by rw [e9, dF _ _ _ _ (by simp only [zK, zL]; omega)] <;> exact k8 x (by omega)
 have eR : cJ R j [.int .i64 (⟨v1, v2, v3, v4, v5, v6, v7, v8, v9⟩ : Qu).a, .int .i64 (⟨v1, v2, v3, v4, v5, v6, v7, v8, v9⟩ : Qu).b, .int .i64 (⟨v1, v2, v3, v4, v5, v6, v7, v8, v9⟩ : Qu).long, .int .i64 (⟨v1, v2, v3, v4, v5, v6, v7, v8, v9⟩ : Qu).grid, L (aJ .u32 (⟨v1, v2, v3, v4, v5, v6, v7, v8, v9⟩ : Qu).must), L (aV .u32 .i64 (⟨v1, v2, v3, v4, v5, v6, v7, v8, v9⟩ : Qu).may), .int .i64 (⟨v1, v2, v3, v4, v5, v6, v7, v8, v9⟩ : Qu).seats, L (aV .u32 .u32 (⟨v1, v2, v3, v4, v5, v6, v7, v8, v9⟩ : Qu).apart), L (bo (⟨v1, v2, v3, v4, v5, v6, v7, v8, v9⟩ : Qu).prefer)] = R9 := by rw [e9, e8, e7, e6, e5, e4, e3, e2, e1] <;> rfl
 rw [eR]
 clear eR e1 e2 e3 e4 e5 e6 e7 e8 e9 k0 k1 k2 k3 k4 k5 k6 k7 k8 k9 z1 z2 z3 z4 z5 z6 z7 z8 z9
 repeat' ((first | apply ah | apply ai | apply af | apply ak mixed | apply ap mixed | (with_reducible first | refine au ?_ | refine aA (f := .c (.fn 56 [])) ?_ | refine aA (f := .c (.fn 57 [])) ?_ | refine aT (f := .c (.fn 127 [])) (z := []) (q := [0, 1, 2, 3]) ?_ | refine aO (f := .c (.fn 127 [])) (z := []) (q := [0, 1, 2, 3]) ?_ | refine aT (f := .c (.fn 129 [])) (z := []) (q := [0, 1, 2, 3]) ?_ | refine aO (f := .c (.fn 129 [])) (z := []) (q := [0, 1, 2, 3]) ?_ | refine aT (f := .c (.fn 131 [])) (z := []) (q := [0, 1, 2, 3]) ?_ | refine aO (f := .c (.fn 131 [])) (z := []) (q := [0, 1, 2, 3]) ?_ | refine aA (f := .c (.fn 119 [])) ?_ | refine aw ?_ | refine am (h1) (by simp) ?_ | refine am (h2) (by simp) ?_ | refine am (h3) (by simp) ?_ | refine am (h4) (by simp) ?_ | refine am (h5) (by simp) ?_ | refine am (h6) (by simp) ?_ | refine am (h7) (by simp) ?_ | refine am (h8) (by simp) ?_ | refine am (h9) (by simp) ?_) | (with_reducible refine ⟨?_, ?_⟩; (focus ((repeat' with_reducible refine ⟨?_, ?_⟩) <;> first | exact trivial | assumption | (simp; done) | (simp only [zA] at *; omega) | omega | (simp [fs]; done) | exact ax))) | (with_reducible intro x hx) | omega) <;> (try simp only [Nat.reduceBEq, reduceIte, Nat.reduceEqDiff, Nat.reduceAdd, Nat.reduceSub, Nat.reduceLT, reduceCtorEq, ne_eq, fw, fd]))
 refine ay [0, 1, 2] (by rfl) (by simp) (by simp [fg])
def fO (s : Rs) : (Po) × Rs :=
 match aN 4294967295 s with
 | (v1, s1) =>
 match aN 4294967295 s1 with
 | (v2, s2) =>
 match ij s2 with
 | (v3, s3) =>
 match aG nj 40 s3 with
 | (v4, s4) =>
 match aG np 4096 s4 with
 | (v5, s5) =>
 match cB s5 with
 | (v6, s6) =>
 match aN 4 s6 with
 | (v7, s7) =>
 match aN 40 s7 with
 | (v8, s8) =>
  (⟨v1, v2, v3, v4, v5, v6, v7, v8⟩, s8)
theorem uu (s : Rs) : (fO s).2.l.length ≤ s.l.length := by
 unfold fO
 have g1 := (aQ 4294967295 (by omega) s).1
 generalize aN 4294967295 s = q1 at g1 ⊢
 obtain ⟨v1, s1⟩ := q1
 dsimp only at g1 ⊢
 have g2 := (aQ 4294967295 (by omega) s1).1
 generalize aN 4294967295 s1 = q2 at g2 ⊢
 obtain ⟨v2, s2⟩ := q2
 dsimp only at g2 ⊢
 have g3 := uv s2
 generalize ij s2 = q3 at g3 ⊢
 obtain ⟨v3, s3⟩ := q3
 dsimp only at g3 ⊢
 have g4 := br qf 40 (by omega) s3
 generalize aG nj 40 s3 = q4 at g4 ⊢
 obtain ⟨v4, s4⟩ := q4
 dsimp only at g4 ⊢
 have g5 := br qh 4096 (by omega) s4
 generalize aG np 4096 s4 = q5 at g5 ⊢
 obtain ⟨v5, s5⟩ := q5
 dsimp only at g5 ⊢
 have g6 := cv s5
 generalize cB s5 = q6 at g6 ⊢
 obtain ⟨v6, s6⟩ := q6
 dsimp only at g6 ⊢
 have g7 := (aQ 4 (by omega) s6).1
 generalize aN 4 s6 = q7 at g7 ⊢
 obtain ⟨v7, s7⟩ := q7
 dsimp only at g7 ⊢
 have g8 := (aQ 40 (by omega) s7).1
 generalize aN 40 s7 = q8 at g8 ⊢
 obtain ⟨v8, s8⟩ := q8
 dsimp only at g8 ⊢
 omega
set_option maxHeartbeats 4000000 in
theorem cPo_r (s : Rs) (sz : Nat) (R : List D) (j : Nat) (hN6 : R[j + 6]? = some (.list (some true) true [])) (hN7 : R[j + 7]? = some (.list (some true) true [])) (hN9 : R[j + 9]? = some (.list (some true) true [])) (hN10 : R[j + 10]? = some (.list (some true) true [])) (hN11 : R[j + 11]? = some (.list (some true) true [])) (hN12 : R[j + 12]? = some (.list (some true) true [])) (hz : R.length = sz) (hj : j + 16 ≤ sz) (hl : s.l.length ≤ 1099511627776) :
  az Tryz.prog 60 [.ptr 0 0 0 1, .ptr 2 0 j 1] [Cr 1 s.cb, Rd s.l s.rb, Va sz R] (.tup [])
   [Cr 1 (fO s).2.cb, Rd (fO s).2.l (fO s).2.rb, Va sz (cJ R j [.int .u32 (fO s).1.id, .int .u32 (fO s).1.owner, .int .i64 (fO s).1.qu.a, .int .i64 (fO s).1.qu.b, .int .i64 (fO s).1.qu.long, .int .i64 (fO s).1.qu.grid, L (aJ .u32 (fO s).1.qu.must), L (aV .u32 .i64 (fO s).1.qu.may), .int .i64 (fO s).1.qu.seats, L (aV .u32 .u32 (fO s).1.qu.apart), L (bo (fO s).1.qu.prefer), L (aJ .i64 (fO s).1.slots), L (aV .u32 .i64 (fO s).1.votes), .int .i64 (fO s).1.til, .int .i64 (fO s).1.state, .int .i64 (fO s).1.winner])] := by
 refine aS Tryz.func60 low60 (by simp [c60]) ?_
 simp only [c60]
 unfold fO
 have z0 := hz
 have k0 : ∀ x, j + 0 ≤ x → R[x]? = R[x]? := fun _ _ => rfl
 have g1 := (aQ 4294967295 (by omega) s).1
 have h1 : az Tryz.prog 78 [.ptr 0 0 0 1, .ptr 2 0 j 1] [Cr 1 s.cb, Rd s.l s.rb, Va sz R] (.tup []) [Cr 1 (aN 4294967295 s).2.cb, Rd (aN 4294967295 s).2.l (aN 4294967295 s).2.rb, Va sz (R.set j (.int .u32 (((aN 4294967295 s).1 : Nat) : Int)))] := ff s.l s.rb s.cb sz R j (by omega) (by omega) (by omega)
 generalize aN 4294967295 s = q1 at h1 g1 ⊢
 obtain ⟨v1, s1⟩ := q1
 dsimp only at h1 g1 ⊢
 obtain ⟨R1, e1⟩ : ∃ R1, R1 = R.set j (.int .u32 ((v1 : Nat) : Int)) := ⟨_, rfl⟩
 rw [← e1] at h1
 have z1 : R1.length = sz := by rw [e1, zF]; exact z0
 have k1 : ∀ x, j + 1 ≤ x → R1[x]? = R[x]? := fun x hx => by rw [e1, zC (by omega)] <;> exact k0 x (by omega)
 have g2 := (aQ 4294967295 (by omega) s1).1
 have h2 : az Tryz.prog 78 [.ptr 0 0 0 1, .ptr 2 0 (j + 1) 1] [Cr 1 s1.cb, Rd s1.l s1.rb, Va sz R1] (.tup []) [Cr 1 (aN 4294967295 s1).2.cb, Rd (aN 4294967295 s1).2.l (aN 4294967295 s1).2.rb, Va sz (R1.set (j + 1) (.int .u32 (((aN 4294967295 s1).1 : Nat) : Int)))] := ff s1.l s1.rb s1.cb sz R1 (j + 1) (by omega) (by omega) (by omega)
 generalize aN 4294967295 s1 = q2 at h2 g2 ⊢
 obtain ⟨v2, s2⟩ := q2
 dsimp only at h2 g2 ⊢
 obtain ⟨R2, e2⟩ : ∃ R2, R2 = R1.set (j + 1) (.int .u32 ((v2 : Nat) : Int)) := ⟨_, rfl⟩
 rw [← e2] at h2
 have z2 : R2.length = sz := by rw [e2, zF]; exact z1
 have k2 : ∀ x, j + 2 ≤ x → R2[x]? = R[x]? := fun x hx => by rw [e2, zC (by omega)] <;> exact k1 x (by omega)
 have g3 := uv s2
 have h3 : az Tryz.prog 95 [.ptr 0 0 0 1, .ptr 2 0 (j + 2) 1] [Cr 1 s2.cb, Rd s2.l s2.rb, Va sz R2] (.tup []) [Cr 1 (ij s2).2.cb, Rd (ij s2).2.l (ij s2).2.rb, Va sz (cJ R2 (j + 2) [.int .i64 (ij s2).1.a, .int .i64 (ij s2).1.b, .int .i64 (ij s2).1.long, .int .i64 (ij s2).1.grid, L (aJ .u32 (ij s2).1.must), L (aV .u32 .i64 (ij s2).1.may), .int .i64 (ij s2).1.seats, L (aV .u32 .u32 (ij s2).1.apart), L (bo (ij s2).1.prefer)])] := cQu_r s2 sz R2 (j + 2) (by rw [k2 _ (by omega)]; exact hN6) (by rw [k2 _ (by omega)]; exact hN7) (by rw [k2 _ (by omega)]; exact hN9) (by rw [k2 _ (by omega)]; exact hN10) (by omega) (by omega) (by omega)
 generalize ij s2 = q3 at h3 g3 ⊢
 obtain ⟨v3, s3⟩ := q3
 dsimp only at h3 g3 ⊢
 obtain ⟨R3, e3⟩ : ∃ R3, R3 = cJ R2 (j + 2) [.int .i64 v3.a, .int .i64 v3.b, .int .i64 v3.long, .int .i64 v3.grid, L (aJ .u32 v3.must), L (aV .u32 .i64 v3.may), .int .i64 v3.seats, L (aV .u32 .u32 v3.apart), L (bo v3.prefer)] := ⟨_, rfl⟩
 rw [← e3] at h3
 have z3 : R3.length = sz := by rw [e3, dG]; exact z2
 have k3 : ∀ x, j + 11 ≤ x → R3[x]? = R[x]? := fun x hx => by rw [e3, dF _ _ _ _ (by simp only [zK, zL]; omega)] <;> exact k2 x (by omega)
 have g4 := br qf 40 (by omega) s3
 have h4 : az Tryz.prog 104 [.ptr 0 0 0 1, .ptr 2 0 (j + 11) 1, .int .i64 40, .fn 105 [.ptr 3 0 0 1]] [Cr 1 s3.cb, Rd s3.l s3.rb, Va sz R3, Bx 0] (.tup []) [Cr 1 (aG nj 40 s3).2.cb, Rd (aG nj 40 s3).2.l (aG nj 40 s3).2.rb, Va sz (R3.set (j + 11) (L (aJ .i64 (aG nj 40 s3).1))), Bx 0] := w9 s3 sz R3 (j + 11) 40 (by rw [k3 _ (by omega)]; exact hN11) (by omega) (by omega) (by omega)
 generalize aG nj 40 s3 = q4 at h4 g4 ⊢
 obtain ⟨v4, s4⟩ := q4
 dsimp only at h4 g4 ⊢
 obtain ⟨R4, e4⟩ : ∃ R4, R4 = R3.set (j + 11) (L (aJ .i64 v4)) := ⟨_, rfl⟩
 rw [← e4] at h4
 have z4 : R4.length = sz := by rw [e4, zF]; exact z3
 have k4 : ∀ x, j + 12 ≤ x → R4[x]? = R[x]? := fun x hx => by rw [e4, zC (by omega)] <;> exact k3 x (by omega)
 have g5 := br qh 4096 (by omega) s4
 have h5 : az Tryz.prog 106 [.ptr 0 0 0 1, .ptr 2 0 (j + 12) 1, .int .i64 4096, .fn 107 [.ptr 3 0 0 1]] [Cr 1 s4.cb, Rd s4.l s4.rb, Va sz R4, Bx 0] (.tup []) [Cr 1 (aG np 4096 s4).2.cb, Rd (aG np 4096 s4).2.l (aG np 4096 s4).2.rb, Va sz (R4.set (j + 12) (L (aV .u32 .i64 (aG np 4096 s4).1))), Bx 0] := xf s4 sz R4 (j + 12) 4096 (by rw [k4 _ (by omega)]; exact hN12) (by omega) (by omega) (by omega)
 generalize aG np 4096 s4 = q5 at h5 g5 ⊢
 obtain ⟨v5, s5⟩ := q5
 dsimp only at h5 g5 ⊢
 obtain ⟨R5, e5⟩ : ∃ R5, R5 = R4.set (j + 12) (L (aV .u32 .i64 v5)) := ⟨_, rfl⟩
 rw [← e5] at h5
 have z5 : R5.length = sz := by rw [e5, zF]; exact z4
 have k5 : ∀ x, j + 13 ≤ x → R5[x]? = R[x]? := fun x hx => by rw [e5, zC (by omega)] <;> exact k4 x (by omega)
 have g6 := cv s5
 have h6 : az Tryz.prog 56 [.ptr 0 0 0 1, .ptr 2 0 (j + 13) 1] [Cr 1 s5.cb, Rd s5.l s5.rb, Va sz R5] (.tup []) [Cr 1 (cB s5).2.cb, Rd (cB s5).2.l (cB s5).2.rb, Va sz (R5.set (j + 13) (.int .i64 ((cB s5).1 : Int)))] := cC s5.l s5.rb s5.cb sz R5 (j + 13) (by omega) (by omega) (by omega)
 generalize cB s5 = q6 at h6 g6 ⊢
 obtain ⟨v6, s6⟩ := q6
 dsimp only at h6 g6 ⊢
 obtain ⟨R6, e6⟩ : ∃ R6, R6 = R5.set (j + 13) (.int .i64 (v6 : Int)) := ⟨_, rfl⟩
 rw [← e6] at h6
 have z6 : R6.length = sz := by rw [e6, zF]; exact z5
 have k6 : ∀ x, j + 14 ≤ x → R6[x]? = R[x]? := fun x hx => by rw [e6, zC (by omega)] <;> exact k5 x (by omega)
 have g7 := (aQ 4 (by omega) s6).1
 have h7 : az Tryz.prog 57 [.ptr 0 0 0 1, .ptr 2 0 (j + 14) 1, .int .u64 4] [Cr 1 s6.cb, Rd s6.l s6.rb, Va sz R6] (.tup []) [Cr 1 (aN 4 s6).2.cb, Rd (aN 4 s6).2.l (aN 4 s6).2.rb, Va sz (R6.set (j + 14) (.int .i64 (((aN 4 s6).1 : Nat) : Int)))] := cI s6.l s6.rb s6.cb sz R6 (j + 14) 4 (by omega) (by omega) (by omega) (by omega)
 generalize aN 4 s6 = q7 at h7 g7 ⊢
 obtain ⟨v7, s7⟩ := q7
 dsimp only at h7 g7 ⊢
 obtain ⟨R7, e7⟩ : ∃ R7, R7 = R6.set (j + 14) (.int .i64 ((v7 : Nat) : Int)) := ⟨_, rfl⟩
 rw [← e7] at h7
 have z7 : R7.length = sz := by rw [e7, zF]; exact z6
 have k7 : ∀ x, j + 15 ≤ x → R7[x]? = R[x]? := fun x hx => by rw [e7, zC (by omega)] <;> exact k6 x (by omega)
 have g8 := (aQ 40 (by omega) s7).1
 have h8 : az Tryz.prog 57 [.ptr 0 0 0 1, .ptr 2 0 (j + 15) 1, .int .u64 40] [Cr 1 s7.cb, Rd s7.l s7.rb, Va sz R7] (.tup []) [Cr 1 (aN 40 s7).2.cb, Rd (aN 40 s7).2.l (aN 40 s7).2.rb, Va sz (R7.set (j + 15) (.int .i64 (((aN 40 s7).1 : Nat) : Int)))] := cI s7.l s7.rb s7.cb sz R7 (j + 15) 40 (by omega) (by omega) (by omega) (by omega)
 generalize aN 40 s7 = q8 at h8 g8 ⊢
 obtain ⟨v8, s8⟩ := q8
 dsimp only at h8 g8 ⊢
 obtain ⟨R8, e8⟩ : ∃ R8, R8 = R7.set (j + 15) (.int .i64 ((v8 : Nat) : Int)) := ⟨_, rfl⟩
 rw [← e8] at h8
 have z8 : R8.length = sz := by rw [e8, zF]; exact z7
 have k8 : ∀ x, j + 16 ≤ x → R8[x]? = R[x]? := fun x hx => by rw [e8, zC (by omega)] <;> exact k7 x (by omega)
 have eR : cJ R j [.int .u32 (⟨v1, v2, v3, v4, v5, v6, v7, v8⟩ : Po).id, .int .u32 (⟨v1, v2, v3, v4, v5, v6, v7, v8⟩ : Po).owner, .int .i64 (⟨v1, v2, v3, v4, v5, v6, v7, v8⟩ : Po).qu.a, .int .i64 (⟨v1, v2, v3, v4, v5, v6, v7, v8⟩ : Po).qu.b, .int .i64 (⟨v1, v2, v3, v4, v5, v6, v7, v8⟩ : Po).qu.long, .int .i64 (⟨v1, v2, v3, v4, v5, v6, v7, v8⟩ : Po).qu.grid, L (aJ .u32 (⟨v1, v2, v3, v4, v5, v6, v7, v8⟩ : Po).qu.must), L (aV .u32 .i64 (⟨v1, v2, v3, v4, v5, v6, v7, v8⟩ : Po).qu.may), .int .i64 (⟨v1, v2, v3, v4, v5, v6, v7, v8⟩ : Po).qu.seats, L (aV .u32 .u32 (⟨v1, v2, v3, v4, v5, v6, v7, v8⟩ : Po).qu.apart), L (bo (⟨v1, v2, v3, v4, v5, v6, v7, v8⟩ : Po).qu.prefer), L (aJ .i64 (⟨v1, v2, v3, v4, v5, v6, v7, v8⟩ : Po).slots), L (aV .u32 .i64 (⟨v1, v2, v3, v4, v5, v6, v7, v8⟩ : Po).votes), .int .i64 (⟨v1, v2, v3, v4, v5, v6, v7, v8⟩ : Po).til, .int .i64 (⟨v1, v2, v3, v4, v5, v6, v7, v8⟩ : Po).state, .int .i64 (⟨v1, v2, v3, v4, v5, v6, v7, v8⟩ : Po).winner] = R8 := by rw [e8, e7, e6, e5, e4, e3, e2, e1] <;> rfl
 rw [eR]
 clear eR e1 e2 e3 e4 e5 e6 e7 e8 k0 k1 k2 k3 k4 k5 k6 k7 k8 z1 z2 z3 z4 z5 z6 z7 z8
 repeat' ((first | apply ah | apply ai | apply af | apply ak mixed | apply ap mixed | (with_reducible first | refine au ?_ | refine aA (f := .c (.fn 78 [])) ?_ | refine aA (f := .c (.fn 95 [])) ?_ | refine aT (f := .c (.fn 104 [])) (z := []) (q := [0, 1, 2, 3]) ?_ | refine aO (f := .c (.fn 104 [])) (z := []) (q := [0, 1, 2, 3]) ?_ | refine aT (f := .c (.fn 106 [])) (z := []) (q := [0, 1, 2, 3]) ?_ | refine aO (f := .c (.fn 106 [])) (z := []) (q := [0, 1, 2, 3]) ?_ | refine aA (f := .c (.fn 56 [])) ?_ | refine aA (f := .c (.fn 57 [])) ?_ | refine aw ?_ | refine am (h1) (by simp) ?_ | refine am (h2) (by simp) ?_ | refine am (h3) (by simp) ?_ | refine am (h4) (by simp) ?_ | refine am (h5) (by simp) ?_ | refine am (h6) (by simp) ?_ | refine am (h7) (by simp) ?_ | refine am (h8) (by simp) ?_) | (with_reducible refine ⟨?_, ?_⟩; (focus ((repeat' with_reducible refine ⟨?_, ?_⟩) <;> first | exact trivial | assumption | (simp; done) | (simp only [zA] at *; omega) | omega | (simp [fs]; done) | exact ax))) | (with_reducible intro x hx) | omega) <;> (try simp only [Nat.reduceBEq, reduceIte, Nat.reduceEqDiff, Nat.reduceAdd, Nat.reduceSub, Nat.reduceLT, reduceCtorEq, ne_eq, fw, fd]))
 refine ay [0, 1, 2] (by rfl) (by simp) (by simp [fg])
end Go.Proofs.YtgefljdclekadaaGreat

namespace Go.Proofs.YtgefljdclekadaaGreat
open Go Go.Vi
abbrev vL : Ru := ⟨0, 0, 0, 0, [], [], [], [], 0⟩
def evR (R : List D) (j : Nat) (e : Ev) : List D := if e.again = true then cJ (((R.set j (.int .i64 e.start)).set (j + 1) (.int .i64 e.long)).set (j + 3) (.bool true)) (j + 4) [.int .i64 e.rule.freq, .int .i64 e.rule.interval, .int .i64 e.rule.count, .int .i64 e.rule.til, L (aJ .i64 e.rule.bm), L (aJ .i64 e.rule.bmd), L (aV .i64 .i64 e.rule.bd), L (aJ .i64 e.rule.bsp), .int .i64 e.rule.start, L (aJ .i64 e.ex), L (aJ .i64 e.plus), L (bo e.ch)] else (((R.set j (.int .i64 e.start)).set (j + 1) (.int .i64 e.long)).set (j + 3) (.bool false)).set (j + 2) (.bool e.world)
def uq (v1 : Int) (v2 : Nat) (s3 : Rs) : Ev × Rs :=
 match ib s3 with
 | (v4, s4) =>
 match aG my 50 s4 with
 | (v5, s5) =>
 match aG mz 50 s5 with
 | (v6, s6) =>
 match aG mv 50 s6 with
 | (v7, s7) =>
  (⟨v1, v2, false, true, v4, v5, v6, v7⟩, s7)
def up (v1 : Int) (v2 : Nat) (s3 : Rs) : Ev × Rs :=
 match nv s3 with
 | (v4, s4) =>
  (⟨v1, v2, v4, false, vL, [], [], []⟩, s4)
def jJ (s : Rs) : Ev × Rs :=
 match cB s with
 | (v1, s1) =>
 match aN 10080 s1 with
 | (v2, s2) =>
 match nv s2 with
 | (v3, s3) =>
 if v3 = true then uq v1 v2 s3 else up v1 v2 s3
theorem ut (s : Rs) : (jJ s).2.l.length ≤ s.l.length := by
 unfold jJ
 have g1 := cv s
 generalize cB s = q1 at g1 ⊢
 obtain ⟨v1, s1⟩ := q1
 dsimp only at g1 ⊢
 have g2 := (aQ 10080 (by omega) s1).1
 generalize aN 10080 s1 = q2 at g2 ⊢
 obtain ⟨v2, s2⟩ := q2
 dsimp only at g2 ⊢
 have g3 := nw s2
 generalize nv s2 = q3 at g3 ⊢
 obtain ⟨v3, s3⟩ := q3
 dsimp only at g3 ⊢
 split
 ·unfold uq
  have g4 := uw s3
  generalize ib s3 = q4 at g4 ⊢
  obtain ⟨v4, s4⟩ := q4
  dsimp only at g4 ⊢
  have g5 := br pZ 50 (by omega) s4
  generalize aG my 50 s4 = q5 at g5 ⊢
  obtain ⟨v5, s5⟩ := q5
  dsimp only at g5 ⊢
  have g6 := br qc 50 (by omega) s5
  generalize aG mz 50 s5 = q6 at g6 ⊢
  obtain ⟨v6, s6⟩ := q6
  dsimp only at g6 ⊢
  have g7 := br pW 50 (by omega) s6
  generalize aG mv 50 s6 = q7 at g7 ⊢
  obtain ⟨v7, s7⟩ := q7
  dsimp only at g7 ⊢
  omega
 ·unfold up
  have g4 := nw s3
  generalize nv s3 = q4 at g4 ⊢
  obtain ⟨v4, s4⟩ := q4
  dsimp only at g4 ⊢
  omega
set_option maxHeartbeats 8000000 in
theorem cEv_r (s : Rs) (sz : Nat) (R : List D) (j : Nat) (hN8 : R[j + 8]? = some (.list (some true) true [])) (hN9 : R[j + 9]? = some (.list (some true) true [])) (hN10 : R[j + 10]? = some (.list (some true) true [])) (hN11 : R[j + 11]? = some (.list (some true) true [])) (hN13 : R[j + 13]? = some (.list (some true) true [])) (hN14 : R[j + 14]? = some (.list (some true) true [])) (hN15 : R[j + 15]? = some (.list (some true) true [])) (hz : R.length = sz) (hj : j + 16 ≤ sz) (hl : s.l.length ≤ 1099511627776) :
  az Tryz.prog 94 [.ptr 0 0 0 1, .ptr 2 0 j 1] [Cr 1 s.cb, Rd s.l s.rb, Va sz R] (.tup [])
   [Cr 1 (jJ s).2.cb, Rd (jJ s).2.l (jJ s).2.rb, Va sz (evR R j (jJ s).1)] := by
 refine aS Tryz.func94 low94 (by simp [c94]) ?_
 simp only [c94]
 unfold jJ
 have z0 := hz
 have k0 : ∀ x, j + 0 ≤ x → R[x]? = R[x]? := fun _ _ => rfl
 have g1 := cv s
 have h1 : az Tryz.prog 56 [.ptr 0 0 0 1, .ptr 2 0 j 1] [Cr 1 s.cb, Rd s.l s.rb, Va sz R] (.tup []) [Cr 1 (cB s).2.cb, Rd (cB s).2.l (cB s).2.rb, Va sz (R.set j (.int .i64 ((cB s).1 : Int)))] := cC s.l s.rb s.cb sz R j (by omega) (by omega) (by omega)
 generalize cB s = q1 at h1 g1 ⊢
 obtain ⟨v1, s1⟩ := q1
 dsimp only at h1 g1 ⊢
 obtain ⟨R1, e1⟩ : ∃ R1, R1 = R.set j (.int .i64 (v1 : Int)) := ⟨_, rfl⟩
 rw [← e1] at h1
 have z1 : R1.length = sz := by rw [e1, zF]; exact z0
 have k1 : ∀ x, j + 1 ≤ x → R1[x]? = R[x]? := fun x hx => by rw [e1, zC (by omega)] <;> exact k0 x (by omega)
 have g2 := (aQ 10080 (by omega) s1).1
 have h2 : az Tryz.prog 57 [.ptr 0 0 0 1, .ptr 2 0 (j + 1) 1, .int .u64 10080] [Cr 1 s1.cb, Rd s1.l s1.rb, Va sz R1] (.tup []) [Cr 1 (aN 10080 s1).2.cb, Rd (aN 10080 s1).2.l (aN 10080 s1).2.rb, Va sz (R1.set (j + 1) (.int .i64 (((aN 10080 s1).1 : Nat) : Int)))] := cI s1.l s1.rb s1.cb sz R1 (j + 1) 10080 (by omega) (by omega) (by omega) (by omega)
 generalize aN 10080 s1 = q2 at h2 g2 ⊢
 obtain ⟨v2, s2⟩ := q2
 dsimp only at h2 g2 ⊢
 obtain ⟨R2, e2⟩ : ∃ R2, R2 = R1.set (j + 1) (.int .i64 ((v2 : Nat) : Int)) := ⟨_, rfl⟩
 rw [← e2] at h2
 have z2 : R2.length = sz := by rw [e2, zF]; exact z1
 have k2 : ∀ x, j + 2 ≤ x → R2[x]? = R[x]? := fun x hx => by rw [e2, zC (by omega)] <;> exact k1 x (by omega)
 have g3 := nw s2
 have h3 : az Tryz.prog 59 [.ptr 0 0 0 1, .ptr 2 0 (j + 3) 1] [Cr 1 s2.cb, Rd s2.l s2.rb, Va sz R2] (.tup []) [Cr 1 (nv s2).2.cb, Rd (nv s2).2.l (nv s2).2.rb, Va sz (R2.set (j + 3) (.bool (nv s2).1))] := tD s2.l s2.rb s2.cb sz R2 (j + 3) (by omega) (by omega) (by omega)
 generalize nv s2 = q3 at h3 g3 ⊢
 obtain ⟨v3, s3⟩ := q3
 dsimp only at h3 g3 ⊢
 obtain ⟨R3, e3⟩ : ∃ R3, R3 = R2.set (j + 3) (.bool v3) := ⟨_, rfl⟩
 rw [← e3] at h3
 have z3 : R3.length = sz := by rw [e3, zF]; exact z2
 have k3 : ∀ x, j + 4 ≤ x → R3[x]? = R[x]? := fun x hx => by rw [e3, zC (by omega)] <;> exact k2 x (by omega)
 have hA : R3[j + 3]? = some (.bool v3) := by rw [e3, List.getElem?_set_self (by rw [z2]; omega)]
 cases v3
 ·simp only [zS, reduceIte]
  unfold up
  have g4 := nw s3
  have h4 : az Tryz.prog 59 [.ptr 0 0 0 1, .ptr 2 0 (j + 2) 1] [Cr 1 s3.cb, Rd s3.l s3.rb, Va sz R3] (.tup []) [Cr 1 (nv s3).2.cb, Rd (nv s3).2.l (nv s3).2.rb, Va sz (R3.set (j + 2) (.bool (nv s3).1))] := tD s3.l s3.rb s3.cb sz R3 (j + 2) (by omega) (by omega) (by omega)
  generalize nv s3 = q4 at h4 g4 ⊢
  obtain ⟨v4, s4⟩ := q4
  dsimp only at h4 g4 ⊢
  obtain ⟨R4, e4⟩ : ∃ R4, R4 = R3.set (j + 2) (.bool v4) := ⟨_, rfl⟩
  rw [← e4] at h4
  have z4 : R4.length = sz := by rw [e4, zF]; exact z3
  have eR : evR R j ⟨v1, v2, v4, false, vL, [], [], []⟩ = R4 := by rw [e4, e3, e2, e1] <;> rfl
  rw [eR]
  clear eR e1 e2 e3 e4 k0 k1 k2 k3 z1 z2 z3 z4
  repeat' ((first | apply ah | apply al | apply ai | apply af | apply ab | apply ak mixed | apply ap mixed | (with_reducible first | refine au ?_ | refine aA (f := .c (.fn 56 [])) ?_ | refine aA (f := .c (.fn 57 [])) ?_ | refine aA (f := .c (.fn 59 [])) ?_ | refine aw ?_ | refine am (h1) (by simp) ?_ | refine am (h2) (by simp) ?_ | refine am (h3) (by simp) ?_ | refine am (h4) (by simp) ?_) | (refine aa ?_ ?_ <;> intro hc <;> (try simp only [hc]) <;> try simp at hc) | (with_reducible refine ⟨?_, ?_⟩; (focus ((repeat' with_reducible refine ⟨?_, ?_⟩) <;> first | exact trivial | assumption | (simp; done) | (simp only [zA] at *; omega) | omega | (simp [fs]; done)))) | (with_reducible intro x hx) | omega) <;> (try simp only [hA, Nat.reduceBEq, reduceIte, Nat.reduceEqDiff, Nat.reduceAdd, Nat.reduceSub, Nat.reduceLT, reduceCtorEq, ne_eq, fw, fd]))
  refine ay [0, 1, 2] (by rfl) (by simp) (by simp [fg])
 ·simp only [reduceIte]
  unfold uq
  have g4 := uw s3
  have h4 : az Tryz.prog 122 [.ptr 0 0 0 1, .ptr 2 0 (j + 4) 1] [Cr 1 s3.cb, Rd s3.l s3.rb, Va sz R3] (.tup []) [Cr 1 (ib s3).2.cb, Rd (ib s3).2.l (ib s3).2.rb, Va sz (cJ R3 (j + 4) [.int .i64 (ib s3).1.freq, .int .i64 (ib s3).1.interval, .int .i64 (ib s3).1.count, .int .i64 (ib s3).1.til, L (aJ .i64 (ib s3).1.bm), L (aJ .i64 (ib s3).1.bmd), L (aV .i64 .i64 (ib s3).1.bd), L (aJ .i64 (ib s3).1.bsp), .int .i64 (ib s3).1.start])] := cRu_r s3 sz R3 (j + 4) (by rw [k3 _ (by omega)]; exact hN8) (by rw [k3 _ (by omega)]; exact hN9) (by rw [k3 _ (by omega)]; exact hN10) (by rw [k3 _ (by omega)]; exact hN11) (by omega) (by omega) (by omega)
  generalize ib s3 = q4 at h4 g4 ⊢
  obtain ⟨v4, s4⟩ := q4
  dsimp only at h4 g4 ⊢
  obtain ⟨R4, e4⟩ : ∃ R4, R4 = cJ R3 (j + 4) [.int .i64 v4.freq, .int .i64 v4.interval, .int .i64 v4.count, .int .i64 v4.til, L (aJ .i64 v4.bm), L (aJ .i64 v4.bmd), L (aV .i64 .i64 v4.bd), L (aJ .i64 v4.bsp), .int .i64 v4.start] := ⟨_, rfl⟩
  rw [← e4] at h4
  have z4 : R4.length = sz := by rw [e4, dG]; exact z3
  have k4 : ∀ x, j + 13 ≤ x → R4[x]? = R[x]? := fun x hx => by rw [e4, dF _ _ _ _ (by simp only [zK, zL]; omega)] <;> exact k3 x (by omega)
  have g5 := br pZ 50 (by omega) s4
  have h5 : az Tryz.prog 104 [.ptr 0 0 0 1, .ptr 2 0 (j + 13) 1, .int .i64 50, .fn 123 [.ptr 3 0 0 1]] [Cr 1 s4.cb, Rd s4.l s4.rb, Va sz R4, Bx 0] (.tup []) [Cr 1 (aG my 50 s4).2.cb, Rd (aG my 50 s4).2.l (aG my 50 s4).2.rb, Va sz (R4.set (j + 13) (L (aJ .i64 (aG my 50 s4).1))), Bx 0] := wJ s4 sz R4 (j + 13) 50 (by rw [k4 _ (by omega)]; exact hN13) (by omega) (by omega) (by omega)
  generalize aG my 50 s4 = q5 at h5 g5 ⊢
  obtain ⟨v5, s5⟩ := q5
  dsimp only at h5 g5 ⊢
  obtain ⟨R5, e5⟩ : ∃ R5, R5 = R4.set (j + 13) (L (aJ .i64 v5)) := ⟨_, rfl⟩
  rw [← e5] at h5
  have z5 : R5.length = sz := by rw [e5, zF]; exact z4
  have k5 : ∀ x, j + 14 ≤ x → R5[x]? = R[x]? := fun x hx => by rw [e5, zC (by omega)] <;> exact k4 x (by omega)
  have g6 := br qc 50 (by omega) s5
  have h6 : az Tryz.prog 104 [.ptr 0 0 0 1, .ptr 2 0 (j + 14) 1, .int .i64 50, .fn 124 [.ptr 3 0 0 1]] [Cr 1 s5.cb, Rd s5.l s5.rb, Va sz R5, Bx 0] (.tup []) [Cr 1 (aG mz 50 s5).2.cb, Rd (aG mz 50 s5).2.l (aG mz 50 s5).2.rb, Va sz (R5.set (j + 14) (L (aJ .i64 (aG mz 50 s5).1))), Bx 0] := wS s5 sz R5 (j + 14) 50 (by rw [k5 _ (by omega)]; exact hN14) (by omega) (by omega) (by omega)
  generalize aG mz 50 s5 = q6 at h6 g6 ⊢
  obtain ⟨v6, s6⟩ := q6
  dsimp only at h6 g6 ⊢
  obtain ⟨R6, e6⟩ : ∃ R6, R6 = R5.set (j + 14) (L (aJ .i64 v6)) := ⟨_, rfl⟩
  rw [← e6] at h6
  have z6 : R6.length = sz := by rw [e6, zF]; exact z5
  have k6 : ∀ x, j + 15 ≤ x → R6[x]? = R[x]? := fun x hx => by rw [e6, zC (by omega)] <;> exact k5 x (by omega)
  have g7 := br pW 50 (by omega) s6
  have h7 : az Tryz.prog 125 [.ptr 0 0 0 1, .ptr 2 0 (j + 15) 1, .int .i64 50, .fn 126 [.ptr 3 0 0 1]] [Cr 1 s6.cb, Rd s6.l s6.rb, Va sz R6, Bx 0] (.tup []) [Cr 1 (aG mv 50 s6).2.cb, Rd (aG mv 50 s6).2.l (aG mv 50 s6).2.rb, Va sz (R6.set (j + 15) (L (bo (aG mv 50 s6).1))), Bx 0] := wB s6 sz R6 (j + 15) 50 (by rw [k6 _ (by omega)]; exact hN15) (by omega) (by omega) (by omega)
  generalize aG mv 50 s6 = q7 at h7 g7 ⊢
  obtain ⟨v7, s7⟩ := q7
  dsimp only at h7 g7 ⊢
  obtain ⟨R7, e7⟩ : ∃ R7, R7 = R6.set (j + 15) (L (bo v7)) := ⟨_, rfl⟩
  rw [← e7] at h7
  have z7 : R7.length = sz := by rw [e7, zF]; exact z6
  have k7 : ∀ x, j + 16 ≤ x → R7[x]? = R[x]? := fun x hx => by rw [e7, zC (by omega)] <;> exact k6 x (by omega)
  have eR : evR R j ⟨v1, v2, false, true, v4, v5, v6, v7⟩ = R7 := by rw [e7, e6, e5, e4, e3, e2, e1] <;> rfl
  rw [eR]
  clear eR e1 e2 e3 e4 e5 e6 e7 k0 k1 k2 k3 k4 k5 k6 k7 z1 z2 z3 z4 z5 z6 z7
  repeat' ((first | apply ah | apply al | apply ai | apply af | apply ab | apply ak mixed | apply ap mixed | (with_reducible first | refine au ?_ | refine aA (f := .c (.fn 56 [])) ?_ | refine aA (f := .c (.fn 57 [])) ?_ | refine aA (f := .c (.fn 59 [])) ?_ | refine aA (f := .c (.fn 122 [])) ?_ | refine aT (f := .c (.fn 104 [])) (z := []) (q := [0, 1, 2, 3]) ?_ | refine aO (f := .c (.fn 104 [])) (z := []) (q := [0, 1, 2, 3]) ?_ | refine aT (f := .c (.fn 125 [])) (z := []) (q := [0, 1, 2, 3]) ?_ | refine aO (f := .c (.fn 125 [])) (z := []) (q := [0, 1, 2, 3]) ?_ | refine aw ?_ | refine am (h1) (by simp) ?_ | refine am (h2) (by simp) ?_ | refine am (h3) (by simp) ?_ | refine am (h4) (by simp) ?_ | refine am (h5) (by simp) ?_ | refine am (h6) (by simp) ?_ | refine am (h7) (by simp) ?_) | (refine aa ?_ ?_ <;> intro hc <;> (try simp only [hc]) <;> try simp at hc) | (with_reducible refine ⟨?_, ?_⟩; (focus ((repeat' with_reducible refine ⟨?_, ?_⟩) <;> first | exact trivial | assumption | (simp; done) | (simp only [zA] at *; omega) | omega | (simp [fs]; done)))) | (with_reducible intro x hx) | omega) <;> (try simp only [hA, Nat.reduceBEq, reduceIte, Nat.reduceEqDiff, Nat.reduceAdd, Nat.reduceSub, Nat.reduceLT, reduceCtorEq, ne_eq, fw, fd]))
  refine ay [0, 1, 2] (by rfl) (by simp) (by simp [fg])
end Go.Proofs.YtgefljdclekadaaGreat

namespace Go.Proofs.YtgefljdclekadaaGreat
open Go Go.Vi
structure As where
 kind : Int
 caller : Int
 number : Int
 user : Int
 id : Int
 se : Se
 ev : Ev
 qu : Qu
 cursor : ByteArray
 count : Int
 poll : Int
 slot : Int
 yes : Bool
 til : Int
def As.cells (a : As) : List D := [.int .i64 a.kind, .int .u32 a.caller, .int .u64 a.number, .int .u32 a.user, .int .u32 a.id, .int .i64 a.se.base, L (aV .i64 .i64 a.se.turns), L (bo a.se.shifts), L (aJ .i64 a.se.off), .int .i64 a.se.before, .int .i64 a.se.after, .int .i64 a.ev.start, .int .i64 a.ev.long, .bool a.ev.world, .bool a.ev.again, .int .i64 a.ev.rule.freq, .int .i64 a.ev.rule.interval, .int .i64 a.ev.rule.count, .int .i64 a.ev.rule.til, L (aJ .i64 a.ev.rule.bm), L (aJ .i64 a.ev.rule.bmd), L (aV .i64 .i64 a.ev.rule.bd), L (aJ .i64 a.ev.rule.bsp), .int .i64 a.ev.rule.start, L (aJ .i64 a.ev.ex), L (aJ .i64 a.ev.plus), L (bo a.ev.ch), .int .i64 a.qu.a, .int .i64 a.qu.b, .int .i64 a.qu.long, .int .i64 a.qu.grid, L (aJ .u32 a.qu.must), L (aV .u32 .i64 a.qu.may), .int .i64 a.qu.seats, L (aV .u32 .u32 a.qu.apart), L (bo a.qu.prefer), .str a.cursor, .int .i64 a.count, .int .u32 a.poll, .int .i64 a.slot, .bool a.yes, .int .i64 a.til]
theorem cEv_w (l : List UInt8) (bad : Bool) (sz : Nat) (R : List D) (j : Nat) (e : Ev) (hR0 : R[j]? = some (.int .i64 e.start)) (hR1 : R[j + 1]? = some (.int .i64 e.long)) (hR2 : R[j + 2]? = some (.bool e.world)) (hR3 : R[j + 3]? = some (.bool e.again)) (hR4 : R[j + 4]? = some (.int .i64 e.rule.freq)) (hR5 : R[j + 5]? = some (.int .i64 e.rule.interval)) (hR6 : R[j + 6]? = some (.int .i64 e.rule.count)) (hR7 : R[j + 7]? = some (.int .i64 e.rule.til)) (hR8 : R[j + 8]? = some (L (aJ .i64 e.rule.bm))) (hR9 : R[j + 9]? = some (L (aJ .i64 e.rule.bmd))) (hR10 : R[j + 10]? = some (L (aV .i64 .i64 e.rule.bd))) (hR11 : R[j + 11]? = some (L (aJ .i64 e.rule.bsp))) (hR12 : R[j + 12]? = some (.int .i64 e.rule.start)) (hR13 : R[j + 13]? = some (L (aJ .i64 e.ex))) (hR14 : R[j + 14]? = some (L (aJ .i64 e.plus))) (hR15 : R[j + 15]? = some (L (bo e.ch))) (hf : zw e) (hl : (l ++ pE e).length ≤ 1099511627776) :
  az Tryz.prog 94 [.ptr 0 0 0 1, .ptr 3 0 j 1] [Cw 1 bad, Ww 2 l.length, ba true 1 true (r8 l), Va sz R] (.tup [])
   [Cw 1 (bad || vE e), Ww 2 (l ++ pE e).length, ba true 1 true (r8 (l ++ pE e)), Va sz R] := by
 unfold pE vE
 unfold pE at hl
 cases ha : e.again
 ·rw [if_neg (by rw [ha]; simp)] at hl
  rw [if_neg (by simp), if_neg (by simp)]
  exact cE0_w l bad sz R j e ha hR0 hR1 hR2 hR3 hf.1 hl
 ·rw [if_pos ha] at hl
  rw [if_pos rfl, if_pos rfl]
  exact cE1_w l bad sz R j e ha hR0 hR1 hR3 hR4 hR5 hR6 hR7 hR8 hR9 hR10 hR11 hR12 hR13 hR14 hR15 hf.2 hl
def yk (a : As) : List UInt8 := bl (uI a.kind) ++ (bl (uI a.caller) ++ (bl (uI a.number)))
def xA2 (a : As) : Bool := decide (11 < uI a.kind)
def fA2 (a : As) : Prop := dv a.kind ∧ ((0 ≤ a.caller ∧ a.caller ≤ 4294967295) ∧ ((0 ≤ a.number ∧ a.number ≤ 18446744073709551615)))
set_option maxHeartbeats 2000000 in
theorem cA2_w (l : List UInt8) (bad : Bool) (sz : Nat) (R : List D) (j : Nat) (a : As) (hk : a.kind = 2) (hR0 : R[j]? = some (.int .i64 a.kind)) (hR1 : R[j + 1]? = some (.int .u32 a.caller)) (hR2 : R[j + 2]? = some (.int .u64 a.number)) (hf : fA2 a) (hl : (l ++ yk a).length ≤ 1099511627776) :
  az Tryz.prog 49 [.ptr 0 0 0 1, .ptr 3 0 j 1] [Cw 1 bad, Ww 2 l.length, ba true 1 true (r8 l), Va sz R] (.tup [])
   [Cw 1 (bad || xA2 a), Ww 2 (l ++ yk a).length, ba true 1 true (r8 (l ++ yk a)), Va sz R] := by
 refine aS Tryz.func49 low49 (by simp [c49]) ?_
 simp only [c49]
 unfold fA2 at hf
 obtain ⟨l1, e1⟩ : ∃ l1, l1 = l ++ bl (uI a.kind) := ⟨_, rfl⟩
 obtain ⟨b1, d1⟩ : ∃ b1, b1 = (bad || decide (11 < uI a.kind)) := ⟨_, rfl⟩
 obtain ⟨l2, e2⟩ : ∃ l2, l2 = l1 ++ bl (uI a.caller) := ⟨_, rfl⟩
 obtain ⟨l3, e3⟩ : ∃ l3, l3 = l2 ++ bl (uI a.number) := ⟨_, rfl⟩
 have el : l ++ yk a = l3 := by rw [e3, e2, e1]; simp only [yk, zJ]
 have eb : (bad || xA2 a) = b1 := by rw [d1]; simp only [xA2]
 rw [el] at hl
 rw [el, eb]
 have g2 : l2.length ≤ l3.length := by rw [e3, zB]; omega
 have g1 : l1.length ≤ l2.length := by rw [e2, zB]; omega
 have g0 : l.length ≤ l1.length := by rw [e1, zB]; omega
 have h1 := cA l bad sz R j 11 a.kind hR0 hf.1 (by omega) (by omega)
 rw [← e1, ← d1] at h1
 have h2 := fh l1 b1 sz R (j + 1) a.caller hR1 hf.2.1 (by omega)
 rw [← e2] at h2
 have h3 := qO l2 b1 sz R (j + 2) a.number hR2 hf.2.2 (by omega)
 rw [← e3] at h3
 clear e1 e2 e3 d1 el eb
 rw [hk] at hR0
 repeat' ((first | apply ah | apply al | apply ao | apply av | refine aq rfl ?_ | apply ai | apply af | apply ab | apply ak mixed | (with_reducible first | refine au ?_ | refine aB (f := .c (.fn 57 [])) ?_ | refine aB (f := .c (.fn 78 [])) ?_ | refine aB (f := .c (.fn 53 [])) ?_ | refine ar ?_ | refine am (h1) (by simp) ?_ | refine am (h2) (by simp) ?_ | refine am (h3) (by simp) ?_) | (refine aa ?_ ?_ <;> intro hc <;> (try simp only [hc]) <;> try simp at hc) | (with_reducible refine ⟨?_, ?_⟩; (focus ((repeat' with_reducible refine ⟨?_, ?_⟩) <;> first | exact trivial | assumption | (simp; done) | (simp only [zA] at *; omega) | omega | (simp [fs]; done) | exact ax))) | (with_reducible intro x hx) | omega) <;> (try simp only [hR0, Nat.reduceBEq, reduceIte, Nat.reduceEqDiff, Nat.reduceAdd, Nat.reduceSub, Nat.reduceLT, reduceCtorEq, cond_true, Int.reduceBEq, beq_self_eq_true, fw, fd]))
 refine ay [0, 1, 2, 3] (by rfl) (by simp) (by simp [fg])
structure fAs (a : As) : Prop where
 kind : dv a.kind
 caller : 0 ≤ a.caller ∧ a.caller ≤ 4294967295
 number : 0 ≤ a.number ∧ a.number ≤ 18446744073709551615
 id : 0 ≤ a.id ∧ a.id ≤ 4294967295
 se : wb a.se
 ev : zw a.ev
 qu : vw a.qu
 cursor : a.cursor.size ≤ 1099511627776
 count : dv a.count
 poll : 0 ≤ a.poll ∧ a.poll ≤ 4294967295
 slot : dv a.slot
 til : dv a.til
end Go.Proofs.YtgefljdclekadaaGreat

namespace Go.Proofs.YtgefljdclekadaaGreat
open Go Go.Vi
def Z42 : List D := [.int .i64 0, .int .u32 0, .int .u64 0, .int .u32 0, .int .u32 0, .int .i64 0, .list (some true) true [], .list (some true) true [], .list (some true) true [], .int .i64 0, .int .i64 0, .int .i64 0, .int .i64 0, .bool false, .bool false, .int .i64 0, .int .i64 0, .int .i64 0, .int .i64 0, .list (some true) true [], .list (some true) true [], .list (some true) true [], .list (some true) true [], .int .i64 0, .list (some true) true [], .list (some true) true [], .list (some true) true [], .int .i64 0, .int .i64 0, .int .i64 0, .int .i64 0, .list (some true) true [], .list (some true) true [], .int .i64 0, .list (some true) true [], .list (some true) true [], .str ⟨#[]⟩, .int .i64 0, .int .u32 0, .int .i64 0, .bool false, .int .i64 0]
def A0 (k c m : Nat) : As := ⟨k, c, m, c, 0, ⟨0, [], [], [], 0, 0⟩, ⟨0, 0, false, false, ⟨0, 0, 0, 0, [], [], [], [], 0⟩, [], [], []⟩, ⟨0, 0, 0, 0, [], [], 0, [], []⟩, ⟨#[]⟩, 0, 0, 0, false, 0⟩
def rA2 (k c m : Nat) (s3 : Rs) : As × Rs :=
 (A0 k c m, s3)
theorem ur (s : Rs) : ((jJ s).1.again = true ∧ (jJ s).1.world = false) ∨ ((jJ s).1.again = false ∧ (jJ s).1.rule = vL ∧ (jJ s).1.ex = [] ∧ (jJ s).1.plus = [] ∧ (jJ s).1.ch = []) := by
 unfold jJ
 generalize cB s = q1
 obtain ⟨v1, s1⟩ := q1
 dsimp only
 generalize aN 10080 s1 = q2
 obtain ⟨v2, s2⟩ := q2
 dsimp only
 generalize nv s2 = q3
 obtain ⟨v3, s3⟩ := q3
 dsimp only
 split
 ·unfold uq
  generalize ib s3 = q4
  obtain ⟨v4, s4⟩ := q4
  dsimp only
  generalize aG my 50 s4 = q5
  obtain ⟨v5, s5⟩ := q5
  dsimp only
  generalize aG mz 50 s5 = q6
  obtain ⟨v6, s6⟩ := q6
  dsimp only
  generalize aG mv 50 s6 = q7
  obtain ⟨v7, s7⟩ := q7
  dsimp only
  exact .inl ⟨rfl, rfl⟩
 ·unfold up
  generalize nv s3 = q4
  obtain ⟨v4, s4⟩ := q4
  dsimp only
  exact .inr ⟨rfl, rfl, rfl, rfl, rfl⟩
set_option maxHeartbeats 8000000 in
theorem yf (s : Rs) (hk : (aN 11 s).1 = 2) (hl : s.l.length ≤ 1099511627776) :
  ∃ R', R'.map fW = (rA2 (aN 11 s).1 (aN 4294967295 (aN 11 s).2).1 (aN 18446744073709551615 (aN 4294967295 (aN 11 s).2).2).1 (aN 18446744073709551615 (aN 4294967295 (aN 11 s).2).2).2).1.cells ∧
  az Tryz.prog 49 [.ptr 0 0 0 1, .ptr 2 0 0 1] [Cr 1 s.cb, Rd s.l s.rb, Va 42 Z42] (.tup [])
   [Cr 1 (rA2 (aN 11 s).1 (aN 4294967295 (aN 11 s).2).1 (aN 18446744073709551615 (aN 4294967295 (aN 11 s).2).2).1 (aN 18446744073709551615 (aN 4294967295 (aN 11 s).2).2).2).2.cb,
    Rd (rA2 (aN 11 s).1 (aN 4294967295 (aN 11 s).2).1 (aN 18446744073709551615 (aN 4294967295 (aN 11 s).2).2).1 (aN 18446744073709551615 (aN 4294967295 (aN 11 s).2).2).2).2.l
     (rA2 (aN 11 s).1 (aN 4294967295 (aN 11 s).2).1 (aN 18446744073709551615 (aN 4294967295 (aN 11 s).2).2).1 (aN 18446744073709551615 (aN 4294967295 (aN 11 s).2).2).2).2.rb, Va 42 R'] := by
 unfold rA2
 obtain ⟨R, eR⟩ : ∃ R, R = Z42 := ⟨_, rfl⟩
 rw [← eR]
 have hN6 : R[6]? = some (.list (some true) true []) := by subst eR; rfl
 have hN7 : R[7]? = some (.list (some true) true []) := by subst eR; rfl
 have hN8 : R[8]? = some (.list (some true) true []) := by subst eR; rfl
 have hN19 : R[19]? = some (.list (some true) true []) := by subst eR; rfl
 have hN20 : R[20]? = some (.list (some true) true []) := by subst eR; rfl
 have hN21 : R[21]? = some (.list (some true) true []) := by subst eR; rfl
 have hN22 : R[22]? = some (.list (some true) true []) := by subst eR; rfl
 have hN24 : R[24]? = some (.list (some true) true []) := by subst eR; rfl
 have hN25 : R[25]? = some (.list (some true) true []) := by subst eR; rfl
 have hN26 : R[26]? = some (.list (some true) true []) := by subst eR; rfl
 have hN31 : R[31]? = some (.list (some true) true []) := by subst eR; rfl
 have hN32 : R[32]? = some (.list (some true) true []) := by subst eR; rfl
 have hN34 : R[34]? = some (.list (some true) true []) := by subst eR; rfl
 have hN35 : R[35]? = some (.list (some true) true []) := by subst eR; rfl
 have z0 : R.length = 42 := by subst eR; rfl
 have k0 : ∀ x : Nat, True → R[x]? = R[x]? := fun _ _ => rfl
 have g1 := (aQ 11 (by omega) s).1
 have h1 : az Tryz.prog 57 [.ptr 0 0 0 1, .ptr 2 0 0 1, .int .u64 11] [Cr 1 s.cb, Rd s.l s.rb, Va 42 R] (.tup []) [Cr 1 (aN 11 s).2.cb, Rd (aN 11 s).2.l (aN 11 s).2.rb, Va 42 (R.set 0 (.int .i64 (((aN 11 s).1 : Nat) : Int)))] := cI s.l s.rb s.cb 42 R 0 11 (by omega) (by omega) (by omega) (by omega)
 generalize aN 11 s = q1 at h1 g1 hk ⊢
 obtain ⟨v1, s1⟩ := q1
 dsimp only at h1 g1 hk ⊢
 obtain ⟨R1, e1⟩ : ∃ R1, R1 = R.set 0 (.int .i64 ((v1 : Nat) : Int)) := ⟨_, rfl⟩
 rw [← e1] at h1
 have z1 : R1.length = 42 := by rw [e1, zF] <;> exact z0
 have k1 : ∀ x : Nat, x ≠ 0 → R1[x]? = R[x]? := fun x hx => by rw [e1, zC (by omega)] <;> exact k0 x (by omega)
 have g2 := (aQ 4294967295 (by omega) s1).1
 have h2 : az Tryz.prog 78 [.ptr 0 0 0 1, .ptr 2 0 1 1] [Cr 1 s1.cb, Rd s1.l s1.rb, Va 42 R1] (.tup []) [Cr 1 (aN 4294967295 s1).2.cb, Rd (aN 4294967295 s1).2.l (aN 4294967295 s1).2.rb, Va 42 (R1.set 1 (.int .u32 (((aN 4294967295 s1).1 : Nat) : Int)))] := ff s1.l s1.rb s1.cb 42 R1 1 (by omega) (by omega) (by omega)
 generalize aN 4294967295 s1 = q2 at h2 g2 ⊢
 obtain ⟨v2, s2⟩ := q2
 dsimp only at h2 g2 ⊢
 obtain ⟨R2, e2⟩ : ∃ R2, R2 = R1.set 1 (.int .u32 ((v2 : Nat) : Int)) := ⟨_, rfl⟩
 rw [← e2] at h2
 have z2 : R2.length = 42 := by rw [e2, zF] <;> exact z1
 have k2 : ∀ x : Nat, x ≠ 0 ∧ x ≠ 1 → R2[x]? = R[x]? := fun x hx => by rw [e2, zC (by omega)] <;> exact k1 x (by omega)
 have g3 := (aQ 18446744073709551615 (by omega) s2).1
 have h3 : az Tryz.prog 53 [.ptr 0 0 0 1, .ptr 2 0 2 1, .int .u64 18446744073709551615] [Cr 1 s2.cb, Rd s2.l s2.rb, Va 42 R2] (.tup []) [Cr 1 (aN 18446744073709551615 s2).2.cb, Rd (aN 18446744073709551615 s2).2.l (aN 18446744073709551615 s2).2.rb, Va 42 (R2.set 2 (.int .u64 (((aN 18446744073709551615 s2).1 : Nat) : Int)))] := gI s2.l s2.rb s2.cb 42 R2 2 18446744073709551615 (by omega) (by omega) (by omega) (by omega)
 generalize aN 18446744073709551615 s2 = q3 at h3 g3 ⊢
 obtain ⟨v3, s3⟩ := q3
 dsimp only at h3 g3 ⊢
 obtain ⟨R3, e3⟩ : ∃ R3, R3 = R2.set 2 (.int .u64 ((v3 : Nat) : Int)) := ⟨_, rfl⟩
 rw [← e3] at h3
 have z3 : R3.length = 42 := by rw [e3, zF] <;> exact z2
 have k3 : ∀ x : Nat, x ≠ 0 ∧ x ≠ 1 ∧ x ≠ 2 → R3[x]? = R[x]? := fun x hx => by rw [e3, zC (by omega)] <;> exact k2 x (by omega)
 have hB : R3[1]? = some (.int .u32 (v2 : Int)) := by rw [e3, zC (by omega), e2, List.getElem?_set_self (by omega)]
 have hK : (R3.set 3 (.int .u32 (v2 : Int)))[0]? = some (.int .i64 (v1 : Int)) := by rw [zC (by omega), e3, zC (by omega), e2, zC (by omega), e1, List.getElem?_set_self (by omega)]
 have hS : R3.take 3 ++ [.int .u32 (v2 : Int)] ++ R3.drop 4 = R3.set 3 (.int .u32 (v2 : Int)) := kU (R := R3) (j := 3) (by omega) _
 have z3 : (R3.set 3 (.int .u32 (v2 : Int))).length = 42 := by rw [zF]; exact z3
 have k3 : ∀ x : Nat, (x ≠ 0 ∧ x ≠ 1 ∧ x ≠ 2 ∧ x ≠ 3) → (R3.set 3 (.int .u32 (v2 : Int)))[x]? = R[x]? := fun x hx => by rw [zC (by omega)] <;> exact k3 x (by omega)
 refine ⟨(R3.set 3 (.int .u32 (v2 : Int))), ?_, ?_⟩
 ·rw [e3, e2, e1, eR] <;> rfl
 have hK : (R3.set 3 (.int .u32 (v2 : Int)))[0]? = some (.int .i64 2) := by rw [hk] at hK; exact hK
 clear eR e1 e2 e3 z1 z2 z3 k0 k1 k2 k3
 refine aS Tryz.func49 low49 (by simp [c49]) ?_
 simp only [c49]
 repeat' ((first | apply ah | apply al | apply ao | apply av | refine aq rfl ?_ | apply ai | apply af | apply ab | apply ak mixed | (with_reducible first | refine au ?_ | refine aB (f := .c (.fn 57 [])) ?_ | refine aB (f := .c (.fn 78 [])) ?_ | refine aB (f := .c (.fn 53 [])) ?_ | refine ar ?_ | refine am (h1) (by simp) ?_ | refine am (h2) (by simp) ?_ | refine am (h3) (by simp) ?_) | (refine aa ?_ ?_ <;> intro hc <;> (try simp only [hc]) <;> try simp at hc) | (with_reducible refine ⟨?_, ?_⟩; (focus ((repeat' with_reducible refine ⟨?_, ?_⟩) <;> first | exact trivial | assumption | (simp; done) | (simp only [zA] at *; omega) | omega | (simp [fs]; done) | exact ax))) | (with_reducible intro x hx) | omega) <;> (try simp only [hB, hK, hS, Nat.reduceBEq, reduceIte, Nat.reduceEqDiff, Nat.reduceAdd, Nat.reduceSub, Nat.reduceLT, Nat.reduceLeDiff, reduceCtorEq, cond_true, Int.reduceBEq, beq_self_eq_true, fw, fd]))
 refine ay [0, 1, 2] (by rfl) (by simp) (by simp [fg])
end Go.Proofs.YtgefljdclekadaaGreat
