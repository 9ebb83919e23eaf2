import Derived.Test.YtgefljdclekadaaRR4
import Derived.Test.YtgefljdclekadaaVi25
set_option linter.unusedVariables false
set_option linter.unusedSimpArgs false
namespace Go.Proofs.Ytgefljdclekadaa
open Go Go.Vi
def t8 (b : Int) (ts : List (Int × Int)) : List UInt8 := aX (zz b) ++ (bn ji ts)
def wS (b : Int) (ts : List (Int × Int)) : Bool := decide (b < (-900) ∨ 900 < b) || (bT oj 700 ts)
def fZo (b : Int) (ts : List (Int × Int)) : Prop := cR b ∧ ((ts.length ≤ 140737488351232 ∧ ∀ x ∈ ts, ye x))
set_option maxHeartbeats 2000000 in
theorem cZo_w (l : List UInt8) (bad : Bool) (sz : Nat) (R : List D) (j : Nat) (b : Int) (ts : List (Int × Int))  (hR0 : R[j]? = some (.int .i64 b)) (hR1 : R[j + 1]? = some (L (aS .i64 .i64 ts))) (hf : fZo b ts) (hl : (l ++ t8 b ts).length ≤ 1099511627776) :
  az Try.prog 61 [.ptr 0 0 0 1, .ptr 3 0 j 1] [Cw 1 bad, Ww 2 l.length, aU true 1 true (r8 l), Va sz R] (.tup [])
   [Cw 1 (bad || wS b ts), Ww 2 (l ++ t8 b ts).length, aU true 1 true (r8 (l ++ t8 b ts)), Va sz R] := by
 refine aK Try.func61 low61 (by simp [c61]) ?_
 simp only [c61]
 unfold fZo at hf
 obtain ⟨l1, e1⟩ : ∃ l1, l1 = l ++ aX (zz b) := ⟨_, rfl⟩
 obtain ⟨b1, d1⟩ : ∃ b1, b1 = (bad || decide (b < (-900) ∨ 900 < b)) := ⟨_, rfl⟩
 obtain ⟨l2, e2⟩ : ∃ l2, l2 = l1 ++ bn ji ts := ⟨_, rfl⟩
 obtain ⟨b2, d2⟩ : ∃ b2, b2 = (b1 || bT oj 700 ts) := ⟨_, rfl⟩
 have el : l ++ t8 b ts = l2 := by rw [e2, e1]; simp only [t8, List.append_assoc]
 have eb : (bad || wS b ts) = b2 := by rw [d2, d1]; simp only [wS, Bool.or_assoc]
 rw [el] at hl
 rw [el, eb]
 have g1 : l1.length ≤ l2.length := by rw [e2, List.length_append]; omega
 have g0 : l.length ≤ l1.length := by rw [e1, List.length_append]; omega
 have h1 := mP l bad sz R j b (-900) 900 hR0 hf.1 (by omega)
 rw [← e1, ← d1] at h1
 have h2 := uf l1 b1 sz R (j + 1) 700 ts hR1 (by omega) hf.2.1 hf.2.2 (by rw [← e2]; omega)
 rw [← e2, ← d2] at h2
 clear e1 e2 d1 d2 el eb
 repeat' ((first | apply ai | apply al | apply aj | apply ak mixed | apply ap mixed | (with_reducible first | refine af ?_ | refine aD (f := .c (.fn 86 [])) ?_ | refine aP (f := .c (.fn 87 [])) (z := []) (q := [0, 1, 2, 3, 4]) ?_ | refine aL (f := .c (.fn 87 [])) (z := []) (q := [0, 1, 2, 3, 4]) ?_ | refine aC ?_ | refine ab (h1) (by simp) ?_ | refine ab (h2) (by simp) ?_) | (with_reducible refine ⟨?_, ?_⟩; (focus ((repeat' with_reducible refine ⟨?_, ?_⟩) <;> first | exact trivial | assumption | (simp; done) | (simp only [List.length_map] at *; omega) | omega | (simp [fs]; done) | exact ay))) | (with_reducible intro x hx) | omega) <;> (try simp only [Nat.reduceBEq, reduceIte, Nat.reduceEqDiff, Nat.reduceAdd, Nat.reduceSub, Nat.reduceLT, reduceCtorEq, ne_eq, Int.reduceNeg, fw, fd]))
 refine aw [0, 1, 2, 3] (by rfl) (by simp) (by simp [fg])
def qg (ss : List (Int × Int × Int)) : List UInt8 := bn jh ss
def uB (most : Nat) (ss : List (Int × Int × Int)) : Bool := bT ou most ss
def yt (ss : List (Int × Int × Int)) : Prop := (ss.length ≤ 140737488351232 ∧ ∀ x ∈ ss, wX x)
set_option maxHeartbeats 2000000 in
theorem vL (l : List UInt8) (bad : Bool) (sz : Nat) (R : List D) (j : Nat) (most : Nat) (ss : List (Int × Int × Int))  (hR0 : R[j]? = some (L (bh ss))) (hm : most < 1000000) (hf : yt ss) (hl : (l ++ qg ss).length ≤ 1099511627776) :
  az Try.prog 62 [.ptr 0 0 0 1, .ptr 3 0 j 1, .int .i64 most] [Cw 1 bad, Ww 2 l.length, aU true 1 true (r8 l), Va sz R] (.tup [])
   [Cw 1 (bad || uB most ss), Ww 2 (l ++ qg ss).length, aU true 1 true (r8 (l ++ qg ss)), Va sz R] := by
 refine aK Try.func62 low62 (by simp [c62]) ?_
 simp only [c62]
 unfold yt at hf
 obtain ⟨l1, e1⟩ : ∃ l1, l1 = l ++ bn jh ss := ⟨_, rfl⟩
 obtain ⟨b1, d1⟩ : ∃ b1, b1 = (bad || bT ou most ss) := ⟨_, rfl⟩
 have el : l ++ qg ss = l1 := by rw [e1]; simp only [qg]
 have eb : (bad || uB most ss) = b1 := by rw [d1]; simp only [uB]
 rw [el] at hl
 rw [el, eb]
 have g0 : l.length ≤ l1.length := by rw [e1, List.length_append]; omega
 have h1 := uj l bad sz R j most ss hR0 (by omega) hf.1 hf.2 (by rw [← e1]; omega)
 rw [← e1, ← d1] at h1
 clear e1 d1 el eb
 repeat' ((first | apply ai | apply al | apply aj | apply ak mixed | (with_reducible first | refine af ?_ | refine aP (f := .c (.fn 89 [])) (z := []) (q := [0, 1, 2, 3, 4]) ?_ | refine aL (f := .c (.fn 89 [])) (z := []) (q := [0, 1, 2, 3, 4]) ?_ | refine ao ?_ | refine ab (h1) (by simp) ?_) | (with_reducible refine ⟨?_, ?_⟩; (focus ((repeat' with_reducible refine ⟨?_, ?_⟩) <;> first | exact trivial | assumption | (simp; done) | (simp only [List.length_map] at *; omega) | omega | (simp [fs]; done) | exact ay))) | (with_reducible intro x hx) | omega) <;> (try simp only [Nat.reduceBEq, reduceIte, Nat.reduceAdd, Nat.reduceSub, Nat.reduceLT, reduceCtorEq, ne_eq, fw, fd]))
 refine aw [0, 1, 2, 3] (by rfl) (by simp) (by simp [fg])
def tC (s : Se) : List UInt8 := t8 s.base s.turns ++ (qg s.shifts ++ (bn jz s.off ++ (aX (uI s.before) ++ (aX (uI s.after)))))
def xb (s : Se) : Bool := wS s.base s.turns || (uB 10 s.shifts || (bT n5 60 s.off || (decide (240 < uI s.before) || (decide (240 < uI s.after)))))
def vN (s : Se) : Prop := fZo s.base s.turns ∧ (yt s.shifts ∧ ((s.off.length ≤ 140737488351232 ∧ ∀ x ∈ s.off, xZ x) ∧ (cR s.before ∧ (cR s.after))))
set_option maxHeartbeats 2000000 in
theorem cSe_w (l : List UInt8) (bad : Bool) (sz : Nat) (R : List D) (j : Nat) (s : Se)  (hR0 : R[j]? = some (.int .i64 s.base)) (hR1 : R[j + 1]? = some (L (aS .i64 .i64 s.turns))) (hR2 : R[j + 2]? = some (L (bh s.shifts))) (hR3 : R[j + 3]? = some (L (aI .i64 s.off))) (hR4 : R[j + 4]? = some (.int .i64 s.before)) (hR5 : R[j + 5]? = some (.int .i64 s.after)) (hf : vN s) (hl : (l ++ tC s).length ≤ 1099511627776) :
  az Try.prog 35 [.ptr 0 0 0 1, .ptr 3 0 j 1] [Cw 1 bad, Ww 2 l.length, aU true 1 true (r8 l), Va sz R] (.tup [])
   [Cw 1 (bad || xb s), Ww 2 (l ++ tC s).length, aU true 1 true (r8 (l ++ tC s)), Va sz R] := by
 refine aK Try.func35 low35 (by simp [c35]) ?_
 simp only [c35]
 unfold vN at hf
 obtain ⟨l1, e1⟩ : ∃ l1, l1 = l ++ t8 s.base s.turns := ⟨_, rfl⟩
 obtain ⟨b1, d1⟩ : ∃ b1, b1 = (bad || wS s.base s.turns) := ⟨_, rfl⟩
 obtain ⟨l2, e2⟩ : ∃ l2, l2 = l1 ++ qg s.shifts := ⟨_, rfl⟩
 obtain ⟨b2, d2⟩ : ∃ b2, b2 = (b1 || uB 10 s.shifts) := ⟨_, rfl⟩
 obtain ⟨l3, e3⟩ : ∃ l3, l3 = l2 ++ bn jz s.off := ⟨_, rfl⟩
 obtain ⟨b3, d3⟩ : ∃ b3, b3 = (b2 || bT n5 60 s.off) := ⟨_, rfl⟩
 obtain ⟨l4, e4⟩ : ∃ l4, l4 = l3 ++ aX (uI s.before) := ⟨_, rfl⟩
 obtain ⟨b4, d4⟩ : ∃ b4, b4 = (b3 || decide (240 < uI s.before)) := ⟨_, rfl⟩
 obtain ⟨l5, e5⟩ : ∃ l5, l5 = l4 ++ aX (uI s.after) := ⟨_, rfl⟩
 obtain ⟨b5, d5⟩ : ∃ b5, b5 = (b4 || decide (240 < uI s.after)) := ⟨_, rfl⟩
 have el : l ++ tC s = l5 := by rw [e5, e4, e3, e2, e1]; simp only [tC, List.append_assoc]
 have eb : (bad || xb s) = b5 := by rw [d5, d4, d3, d2, d1]; simp only [xb, Bool.or_assoc]
 rw [el] at hl
 rw [el, eb]
 have g4 : l4.length ≤ l5.length := by rw [e5, List.length_append]; omega
 have g3 : l3.length ≤ l4.length := by rw [e4, List.length_append]; omega
 have g2 : l2.length ≤ l3.length := by rw [e3, List.length_append]; omega
 have g1 : l1.length ≤ l2.length := by rw [e2, List.length_append]; omega
 have g0 : l.length ≤ l1.length := by rw [e1, List.length_append]; omega
 have h1 := cZo_w l bad sz R j s.base s.turns hR0 hR1 hf.1 (by rw [← e1]; omega)
 rw [← e1, ← d1] at h1
 have h2 := vL l1 b1 sz R (j + 2) 10 s.shifts hR2 (by omega) hf.2.1 (by rw [← e2]; omega)
 rw [← e2, ← d2] at h2
 have h3 := ur l2 b2 sz R (j + 3) 60 s.off hR3 (by omega) hf.2.2.1.1 hf.2.2.1.2 (by rw [← e3]; omega)
 rw [← e3, ← d3] at h3
 have h4 := bF l3 b3 sz R (j + 4) 240 s.before hR4 hf.2.2.2.1 (by omega) (by omega)
 rw [← e4, ← d4] at h4
 have h5 := bF l4 b4 sz R (j + 5) 240 s.after hR5 hf.2.2.2.2 (by omega) (by omega)
 rw [← e5, ← d5] at h5
 clear e1 e2 e3 e4 e5 d1 d2 d3 d4 d5 el eb
 repeat' ((first | apply ai | apply al | apply aj | apply ak mixed | apply ap mixed | (with_reducible first | refine af ?_ | refine aD (f := .c (.fn 61 [])) ?_ | refine aD (f := .c (.fn 62 [])) ?_ | refine aP (f := .c (.fn 63 [])) (z := []) (q := [0, 1, 2, 3, 4]) ?_ | refine aL (f := .c (.fn 63 [])) (z := []) (q := [0, 1, 2, 3, 4]) ?_ | refine aD (f := .c (.fn 32 [])) ?_ | refine aC ?_ | refine ab (h1) (by simp) ?_ | refine ab (h2) (by simp) ?_ | refine ab (h3) (by simp) ?_ | refine ab (h4) (by simp) ?_ | refine ab (h5) (by simp) ?_) | (with_reducible refine ⟨?_, ?_⟩; (focus ((repeat' with_reducible refine ⟨?_, ?_⟩) <;> first | exact trivial | assumption | (simp; done) | (simp only [List.length_map] at *; omega) | omega | (simp [fs]; done) | exact ay))) | (with_reducible intro x hx) | omega) <;> (try simp only [Nat.reduceBEq, reduceIte, Nat.reduceEqDiff, Nat.reduceAdd, Nat.reduceSub, Nat.reduceLT, reduceCtorEq, ne_eq, fw, fd]))
 refine aw [0, 1, 2, 3] (by rfl) (by simp) (by simp [fg])
def pC (xs : List Int) : List UInt8 := bn jt xs
def tk (xs : List Int) : Bool := bT oi 400 xs
def x9 (xs : List Int) : Prop := (xs.length ≤ 140737488351232 ∧ ∀ x ∈ xs, xQ x)
set_option maxHeartbeats 2000000 in
theorem rU (l : List UInt8) (bad : Bool) (sz : Nat) (R : List D) (j : Nat) (xs : List Int)  (hR0 : R[j]? = some (L (aI .i64 xs))) (hf : x9 xs) (hl : (l ++ pC xs).length ≤ 1099511627776) :
  az Try.prog 91 [.ptr 0 0 0 1, .ptr 3 0 j 1] [Cw 1 bad, Ww 2 l.length, aU true 1 true (r8 l), Va sz R] (.tup [])
   [Cw 1 (bad || tk xs), Ww 2 (l ++ pC xs).length, aU true 1 true (r8 (l ++ pC xs)), Va sz R] := by
 refine aK Try.func91 low91 (by simp [c91]) ?_
 simp only [c91]
 unfold x9 at hf
 obtain ⟨l1, e1⟩ : ∃ l1, l1 = l ++ bn jt xs := ⟨_, rfl⟩
 obtain ⟨b1, d1⟩ : ∃ b1, b1 = (bad || bT oi 400 xs) := ⟨_, rfl⟩
 have el : l ++ pC xs = l1 := by rw [e1]; simp only [pC]
 have eb : (bad || tk xs) = b1 := by rw [d1]; simp only [tk]
 rw [el] at hl
 rw [el, eb]
 have g0 : l.length ≤ l1.length := by rw [e1, List.length_append]; omega
 have h1 := ut l bad sz R j 400 xs hR0 (by omega) hf.1 hf.2 (by rw [← e1]; omega)
 rw [← e1, ← d1] at h1
 clear e1 d1 el eb
 repeat' ((first | apply ai | apply al | apply aj | apply ak mixed | (with_reducible first | refine af ?_ | refine aP (f := .c (.fn 63 [])) (z := []) (q := [0, 1, 2, 3, 4]) ?_ | refine aL (f := .c (.fn 63 [])) (z := []) (q := [0, 1, 2, 3, 4]) ?_ | refine ao ?_ | refine ab (h1) (by simp) ?_) | (with_reducible refine ⟨?_, ?_⟩; (focus ((repeat' with_reducible refine ⟨?_, ?_⟩) <;> first | exact trivial | assumption | (simp; done) | (simp only [List.length_map] at *; omega) | omega | (simp [fs]; done) | exact ay))) | (with_reducible intro x hx) | omega) <;> (try simp only [Nat.reduceBEq, reduceIte, Nat.reduceAdd, Nat.reduceSub, Nat.reduceLT, reduceCtorEq, ne_eq, fw, fd]))
 refine aw [0, 1, 2, 3] (by rfl) (by simp) (by simp [fg])
def tw (r : Ru) : List UInt8 := aX (uI r.freq) ++ (aX (uI r.interval) ++ (aX (uI r.count) ++ (aX (zz r.til) ++ (pC r.bm ++ (pC r.bmd ++ (bn jo r.bd ++ (pC r.bsp ++ (aX (uI r.start)))))))))
def xC (r : Ru) : Bool := decide (4 < uI r.freq) || (decide (999 < uI r.interval) || (decide (5000 < uI r.count) || (tk r.bm || (tk r.bmd || (bT n6 400 r.bd || (tk r.bsp || (decide (6 < uI r.start))))))))
def xG (r : Ru) : Prop := cR r.freq ∧ (cR r.interval ∧ (cR r.count ∧ (cR r.til ∧ (x9 r.bm ∧ (x9 r.bmd ∧ ((r.bd.length ≤ 140737488351232 ∧ ∀ x ∈ r.bd, yf x) ∧ (x9 r.bsp ∧ (cR r.start))))))))
set_option maxHeartbeats 2000000 in
theorem cRu_w (l : List UInt8) (bad : Bool) (sz : Nat) (R : List D) (j : Nat) (r : Ru)  (hR0 : R[j]? = some (.int .i64 r.freq)) (hR1 : R[j + 1]? = some (.int .i64 r.interval)) (hR2 : R[j + 2]? = some (.int .i64 r.count)) (hR3 : R[j + 3]? = some (.int .i64 r.til)) (hR4 : R[j + 4]? = some (L (aI .i64 r.bm))) (hR5 : R[j + 5]? = some (L (aI .i64 r.bmd))) (hR6 : R[j + 6]? = some (L (aS .i64 .i64 r.bd))) (hR7 : R[j + 7]? = some (L (aI .i64 r.bsp))) (hR8 : R[j + 8]? = some (.int .i64 r.start)) (hf : xG r) (hl : (l ++ tw r).length ≤ 1099511627776) :
  az Try.prog 65 [.ptr 0 0 0 1, .ptr 3 0 j 1] [Cw 1 bad, Ww 2 l.length, aU true 1 true (r8 l), Va sz R] (.tup [])
   [Cw 1 (bad || xC r), Ww 2 (l ++ tw r).length, aU true 1 true (r8 (l ++ tw r)), Va sz R] := by
 refine aK Try.func65 low65 (by simp [c65]) ?_
 simp only [c65]
 unfold xG at hf
 obtain ⟨l1, e1⟩ : ∃ l1, l1 = l ++ aX (uI r.freq) := ⟨_, rfl⟩
 obtain ⟨b1, d1⟩ : ∃ b1, b1 = (bad || decide (4 < uI r.freq)) := ⟨_, rfl⟩
 obtain ⟨l2, e2⟩ : ∃ l2, l2 = l1 ++ aX (uI r.interval) := ⟨_, rfl⟩
 obtain ⟨b2, d2⟩ : ∃ b2, b2 = (b1 || decide (999 < uI r.interval)) := ⟨_, rfl⟩
 obtain ⟨l3, e3⟩ : ∃ l3, l3 = l2 ++ aX (uI r.count) := ⟨_, rfl⟩
 obtain ⟨b3, d3⟩ : ∃ b3, b3 = (b2 || decide (5000 < uI r.count)) := ⟨_, rfl⟩
 obtain ⟨l4, e4⟩ : ∃ l4, l4 = l3 ++ aX (zz r.til) := ⟨_, rfl⟩
 obtain ⟨l5, e5⟩ : ∃ l5, l5 = l4 ++ pC r.bm := ⟨_, rfl⟩
 obtain ⟨b5, d5⟩ : ∃ b5, b5 = (b3 || tk r.bm) := ⟨_, rfl⟩
 obtain ⟨l6, e6⟩ : ∃ l6, l6 = l5 ++ pC r.bmd := ⟨_, rfl⟩
 obtain ⟨b6, d6⟩ : ∃ b6, b6 = (b5 || tk r.bmd) := ⟨_, rfl⟩
 obtain ⟨l7, e7⟩ : ∃ l7, l7 = l6 ++ bn jo r.bd := ⟨_, rfl⟩
 obtain ⟨b7, d7⟩ : ∃ b7, b7 = (b6 || bT n6 400 r.bd) := ⟨_, rfl⟩
 obtain ⟨l8, e8⟩ : ∃ l8, l8 = l7 ++ pC r.bsp := ⟨_, rfl⟩
 obtain ⟨b8, d8⟩ : ∃ b8, b8 = (b7 || tk r.bsp) := ⟨_, rfl⟩
 obtain ⟨l9, e9⟩ : ∃ l9, l9 = l8 ++ aX (uI r.start) := ⟨_, rfl⟩
 obtain ⟨b9, d9⟩ : ∃ b9, b9 = (b8 || decide (6 < uI r.start)) := ⟨_, rfl⟩
 have el : l ++ tw r = l9 := by rw [e9, e8, e7, e6, e5, e4, e3, e2, e1]; simp only [tw, List.append_assoc]
 have eb : (bad || xC r) = b9 := by rw [d9, d8, d7, d6, d5, d3, d2, d1]; simp only [xC, Bool.or_assoc]
 rw [el] at hl
 rw [el, eb]
 have g8 : l8.length ≤ l9.length := by rw [e9, List.length_append]; omega
 have g7 : l7.length ≤ l8.length := by rw [e8, List.length_append]; omega
 have g6 : l6.length ≤ l7.length := by rw [e7, List.length_append]; omega
 have g5 : l5.length ≤ l6.length := by rw [e6, List.length_append]; omega
 have g4 : l4.length ≤ l5.length := by rw [e5, List.length_append]; omega
 have g3 : l3.length ≤ l4.length := by rw [e4, List.length_append]; omega
 have g2 : l2.length ≤ l3.length := by rw [e3, List.length_append]; omega
 have g1 : l1.length ≤ l2.length := by rw [e2, List.length_append]; omega
 have g0 : l.length ≤ l1.length := by rw [e1, List.length_append]; omega
 have h1 := bF l bad sz R j 4 r.freq hR0 hf.1 (by omega) (by omega)
 rw [← e1, ← d1] at h1
 have h2 := bF l1 b1 sz R (j + 1) 999 r.interval hR1 hf.2.1 (by omega) (by omega)
 rw [← e2, ← d2] at h2
 have h3 := bF l2 b2 sz R (j + 2) 5000 r.count hR2 hf.2.2.1 (by omega) (by omega)
 rw [← e3, ← d3] at h3
 have h4 := cy l3 b3 sz R (j + 3) r.til hR3 hf.2.2.2.1 (by omega)
 rw [← e4] at h4
 have h5 := rU l4 b3 sz R (j + 4) r.bm hR4 hf.2.2.2.2.1 (by rw [← e5]; omega)
 rw [← e5, ← d5] at h5
 have h6 := rU l5 b5 sz R (j + 5) r.bmd hR5 hf.2.2.2.2.2.1 (by rw [← e6]; omega)
 rw [← e6, ← d6] at h6
 have h7 := uZ l6 b6 sz R (j + 6) 400 r.bd hR6 (by omega) hf.2.2.2.2.2.2.1.1 hf.2.2.2.2.2.2.1.2 (by rw [← e7]; omega)
 rw [← e7, ← d7] at h7
 have h8 := rU l7 b7 sz R (j + 7) r.bsp hR7 hf.2.2.2.2.2.2.2.1 (by rw [← e8]; omega)
 rw [← e8, ← d8] at h8
 have h9 := bF l8 b8 sz R (j + 8) 6 r.start hR8 hf.2.2.2.2.2.2.2.2 (by omega) (by omega)
 rw [← e9, ← d9] at h9
 clear e1 e2 e3 e4 e5 e6 e7 e8 e9 d1 d2 d3 d5 d6 d7 d8 d9 el eb
 repeat' ((first | apply ai | apply al | apply aj | apply ak mixed | apply ap mixed | (with_reducible first | refine af ?_ | refine aD (f := .c (.fn 32 [])) ?_ | refine aD (f := .c (.fn 39 [])) ?_ | refine aD (f := .c (.fn 91 [])) ?_ | refine aP (f := .c (.fn 92 [])) (z := []) (q := [0, 1, 2, 3, 4]) ?_ | refine aL (f := .c (.fn 92 [])) (z := []) (q := [0, 1, 2, 3, 4]) ?_ | refine aC ?_ | refine ab (h1) (by simp) ?_ | refine ab (h2) (by simp) ?_ | refine ab (h3) (by simp) ?_ | refine ab (h4) (by simp) ?_ | refine ab (h5) (by simp) ?_ | refine ab (h6) (by simp) ?_ | refine ab (h7) (by simp) ?_ | refine ab (h8) (by simp) ?_ | refine ab (h9) (by simp) ?_) | (with_reducible refine ⟨?_, ?_⟩; (focus ((repeat' with_reducible refine ⟨?_, ?_⟩) <;> first | exact trivial | assumption | (simp; done) | (simp only [List.length_map] at *; omega) | omega | (simp [fs]; done) | exact ay))) | (with_reducible intro x hx) | omega) <;> (try simp only [Nat.reduceBEq, reduceIte, Nat.reduceEqDiff, Nat.reduceAdd, Nat.reduceSub, Nat.reduceLT, reduceCtorEq, ne_eq, fw, fd]))
 refine aw [0, 1, 2, 3] (by rfl) (by simp) (by simp [fg])
def vV (e : Ev) : List UInt8 := aX (zz e.start) ++ (aX (uI e.long) ++ (oq e.again ++ (oq e.world)))
def xE0 (e : Ev) : Bool := decide (10080 < uI e.long)
def fE0 (e : Ev) : Prop := cR e.start ∧ (cR e.long ∧ (True ∧ (True)))
set_option maxHeartbeats 2000000 in
theorem cE0_w (l : List UInt8) (bad : Bool) (sz : Nat) (R : List D) (j : Nat) (e : Ev) (ha : e.again = false) (hR0 : R[j]? = some (.int .i64 e.start)) (hR1 : R[j + 1]? = some (.int .i64 e.long)) (hR2 : R[j + 2]? = some (.bool e.world)) (hR3 : R[j + 3]? = some (.bool e.again)) (hf : fE0 e) (hl : (l ++ vV e).length ≤ 1099511627776) :
  az Try.prog 36 [.ptr 0 0 0 1, .ptr 3 0 j 1] [Cw 1 bad, Ww 2 l.length, aU true 1 true (r8 l), Va sz R] (.tup [])
   [Cw 1 (bad || xE0 e), Ww 2 (l ++ vV e).length, aU true 1 true (r8 (l ++ vV e)), Va sz R] := by
 refine aK Try.func36 low36 (by simp [c36]) ?_
 simp only [c36]
 unfold fE0 at hf
 obtain ⟨l1, e1⟩ : ∃ l1, l1 = l ++ aX (zz e.start) := ⟨_, rfl⟩
 obtain ⟨l2, e2⟩ : ∃ l2, l2 = l1 ++ aX (uI e.long) := ⟨_, rfl⟩
 obtain ⟨b2, d2⟩ : ∃ b2, b2 = (bad || decide (10080 < uI e.long)) := ⟨_, rfl⟩
 obtain ⟨l3, e3⟩ : ∃ l3, l3 = l2 ++ oq e.again := ⟨_, rfl⟩
 obtain ⟨l4, e4⟩ : ∃ l4, l4 = l3 ++ oq e.world := ⟨_, rfl⟩
 have el : l ++ vV e = l4 := by rw [e4, e3, e2, e1]; simp only [vV, List.append_assoc]
 have eb : (bad || xE0 e) = b2 := by rw [d2]; simp only [xE0]
 rw [el] at hl
 rw [el, eb]
 have g3 : l3.length ≤ l4.length := by rw [e4, List.length_append]; omega
 have g2 : l2.length ≤ l3.length := by rw [e3, List.length_append]; omega
 have g1 : l1.length ≤ l2.length := by rw [e2, List.length_append]; omega
 have g0 : l.length ≤ l1.length := by rw [e1, List.length_append]; omega
 have h1 := cy l bad sz R j e.start hR0 hf.1 (by omega)
 rw [← e1] at h1
 have h2 := bF l1 bad sz R (j + 1) 10080 e.long hR1 hf.2.1 (by omega) (by omega)
 rw [← e2, ← d2] at h2
 have h3 := mN l2 b2 sz R (j + 3) e.again hR3 (by omega)
 rw [← e3] at h3
 have h4 := mN l3 b2 sz R (j + 2) e.world hR2 (by omega)
 rw [← e4] at h4
 clear e1 e2 e3 e4 d2 el eb
 rw [ha] at hR3
 repeat' ((first | apply ai | apply ah | apply al | apply aj | apply ae | apply ak mixed | apply ap mixed | (with_reducible first | refine af ?_ | refine aD (f := .c (.fn 39 [])) ?_ | refine aD (f := .c (.fn 32 [])) ?_ | refine aD (f := .c (.fn 40 [])) ?_ | refine aC ?_ | refine ab (h1) (by simp) ?_ | refine ab (h2) (by simp) ?_ | refine ab (h3) (by simp) ?_ | refine ab (h4) (by simp) ?_) | (refine aa ?_ ?_ <;> intro hc <;> (try simp only [hc]) <;> try simp at hc) | (with_reducible refine ⟨?_, ?_⟩; (focus ((repeat' with_reducible refine ⟨?_, ?_⟩) <;> first | exact trivial | assumption | (simp; done) | (simp only [List.length_map] at *; omega) | omega | (simp [fs]; done) | exact ay))) | (with_reducible intro x hx) | omega) <;> (try simp only [hR3, Nat.reduceBEq, reduceIte, Nat.reduceEqDiff, Nat.reduceAdd, Nat.reduceSub, Nat.reduceLT, reduceCtorEq, ne_eq, fw, fd]))
 refine aw [0, 1, 2, 3] (by rfl) (by simp) (by simp [fg])
def wg (e : Ev) : List UInt8 := aX (zz e.start) ++ (aX (uI e.long) ++ (oq e.again ++ (tw e.rule ++ (bn jj e.ex ++ (bn js e.plus ++ (bn ju e.ch))))))
def xE1 (e : Ev) : Bool := decide (10080 < uI e.long) || (xC e.rule || (bT n7 50 e.ex || (bT n8 50 e.plus || (bT ot 50 e.ch))))
def fE1 (e : Ev) : Prop := cR e.start ∧ (cR e.long ∧ (True ∧ (xG e.rule ∧ ((e.ex.length ≤ 140737488351232 ∧ ∀ x ∈ e.ex, xy x) ∧ ((e.plus.length ≤ 140737488351232 ∧ ∀ x ∈ e.plus, wt x) ∧ ((e.ch.length ≤ 140737488351232 ∧ ∀ x ∈ e.ch, xh x)))))))
set_option maxHeartbeats 2000000 in
theorem cE1_w (l : List UInt8) (bad : Bool) (sz : Nat) (R : List D) (j : Nat) (e : Ev) (ha : e.again = true) (hR0 : R[j]? = some (.int .i64 e.start)) (hR1 : R[j + 1]? = some (.int .i64 e.long)) (hR3 : R[j + 3]? = some (.bool e.again)) (hR4 : R[j + 4]? = some (.int .i64 e.rule.freq)) (hR5 : R[j + 5]? = some (.int .i64 e.rule.interval)) (hR6 : R[j + 6]? = some (.int .i64 e.rule.count)) (hR7 : R[j + 7]? = some (.int .i64 e.rule.til)) (hR8 : R[j + 8]? = some (L (aI .i64 e.rule.bm))) (hR9 : R[j + 9]? = some (L (aI .i64 e.rule.bmd))) (hR10 : R[j + 10]? = some (L (aS .i64 .i64 e.rule.bd))) (hR11 : R[j + 11]? = some (L (aI .i64 e.rule.bsp))) (hR12 : R[j + 12]? = some (.int .i64 e.rule.start)) (hR13 : R[j + 13]? = some (L (aI .i64 e.ex))) (hR14 : R[j + 14]? = some (L (aI .i64 e.plus))) (hR15 : R[j + 15]? = some (L (bh e.ch))) (hf : fE1 e) (hl : (l ++ wg e).length ≤ 1099511627776) :
  az Try.prog 36 [.ptr 0 0 0 1, .ptr 3 0 j 1] [Cw 1 bad, Ww 2 l.length, aU true 1 true (r8 l), Va sz R] (.tup [])
   [Cw 1 (bad || xE1 e), Ww 2 (l ++ wg e).length, aU true 1 true (r8 (l ++ wg e)), Va sz R] := by
 refine aK Try.func36 low36 (by simp [c36]) ?_
 simp only [c36]
 unfold fE1 at hf
 obtain ⟨l1, e1⟩ : ∃ l1, l1 = l ++ aX (zz e.start) := ⟨_, rfl⟩
 obtain ⟨l2, e2⟩ : ∃ l2, l2 = l1 ++ aX (uI e.long) := ⟨_, rfl⟩
 obtain ⟨b2, d2⟩ : ∃ b2, b2 = (bad || decide (10080 < uI e.long)) := ⟨_, rfl⟩
 obtain ⟨l3, e3⟩ : ∃ l3, l3 = l2 ++ oq e.again := ⟨_, rfl⟩
 obtain ⟨l4, e4⟩ : ∃ l4, l4 = l3 ++ tw e.rule := ⟨_, rfl⟩
 obtain ⟨b4, d4⟩ : ∃ b4, b4 = (b2 || xC e.rule) := ⟨_, rfl⟩
 obtain ⟨l5, e5⟩ : ∃ l5, l5 = l4 ++ bn jj e.ex := ⟨_, rfl⟩
 obtain ⟨b5, d5⟩ : ∃ b5, b5 = (b4 || bT n7 50 e.ex) := ⟨_, rfl⟩
 obtain ⟨l6, e6⟩ : ∃ l6, l6 = l5 ++ bn js e.plus := ⟨_, rfl⟩
 obtain ⟨b6, d6⟩ : ∃ b6, b6 = (b5 || bT n8 50 e.plus) := ⟨_, rfl⟩
 obtain ⟨l7, e7⟩ : ∃ l7, l7 = l6 ++ bn ju e.ch := ⟨_, rfl⟩
 obtain ⟨b7, d7⟩ : ∃ b7, b7 = (b6 || bT ot 50 e.ch) := ⟨_, rfl⟩
 have el : l ++ wg e = l7 := by rw [e7, e6, e5, e4, e3, e2, e1]; simp only [wg, List.append_assoc]
 have eb : (bad || xE1 e) = b7 := by rw [d7, d6, d5, d4, d2]; simp only [xE1, Bool.or_assoc]
 rw [el] at hl
 rw [el, eb]
 have g6 : l6.length ≤ l7.length := by rw [e7, List.length_append]; omega
 have g5 : l5.length ≤ l6.length := by rw [e6, List.length_append]; omega
 have g4 : l4.length ≤ l5.length := by rw [e5, List.length_append]; omega
 have g3 : l3.length ≤ l4.length := by rw [e4, List.length_append]; omega
 have g2 : l2.length ≤ l3.length := by rw [e3, List.length_append]; omega
 have g1 : l1.length ≤ l2.length := by rw [e2, List.length_append]; omega
 have g0 : l.length ≤ l1.length := by rw [e1, List.length_append]; omega
 have h1 := cy l bad sz R j e.start hR0 hf.1 (by omega)
 rw [← e1] at h1
 have h2 := bF l1 bad sz R (j + 1) 10080 e.long hR1 hf.2.1 (by omega) (by omega)
 rw [← e2, ← d2] at h2
 have h3 := mN l2 b2 sz R (j + 3) e.again hR3 (by omega)
 rw [← e3] at h3
 have h4 := cRu_w l3 b2 sz R (j + 4) e.rule hR4 hR5 hR6 hR7 hR8 hR9 hR10 hR11 hR12 hf.2.2.2.1 (by rw [← e4]; omega)
 rw [← e4, ← d4] at h4
 have h5 := vr l4 b4 sz R (j + 13) 50 e.ex hR13 (by omega) hf.2.2.2.2.1.1 hf.2.2.2.2.1.2 (by rw [← e5]; omega)
 rw [← e5, ← d5] at h5
 have h6 := uS l5 b5 sz R (j + 14) 50 e.plus hR14 (by omega) hf.2.2.2.2.2.1.1 hf.2.2.2.2.2.1.2 (by rw [← e6]; omega)
 rw [← e6, ← d6] at h6
 have h7 := vq l6 b6 sz R (j + 15) 50 e.ch hR15 (by omega) hf.2.2.2.2.2.2.1 hf.2.2.2.2.2.2.2 (by rw [← e7]; omega)
 rw [← e7, ← d7] at h7
 clear e1 e2 e3 e4 e5 e6 e7 d2 d4 d5 d6 d7 el eb
 rw [ha] at hR3
 repeat' ((first | apply ai | apply ah | apply al | apply aj | apply ae | apply ak mixed | apply ap mixed | (with_reducible first | refine af ?_ | refine aD (f := .c (.fn 39 [])) ?_ | refine aD (f := .c (.fn 32 [])) ?_ | refine aD (f := .c (.fn 40 [])) ?_ | refine aD (f := .c (.fn 65 [])) ?_ | refine aP (f := .c (.fn 66 [])) (z := []) (q := [0, 1, 2, 3, 4]) ?_ | refine aL (f := .c (.fn 66 [])) (z := []) (q := [0, 1, 2, 3, 4]) ?_ | refine aP (f := .c (.fn 69 [])) (z := []) (q := [0, 1, 2, 3, 4]) ?_ | refine aL (f := .c (.fn 69 [])) (z := []) (q := [0, 1, 2, 3, 4]) ?_ | refine aC ?_ | refine ab (h1) (by simp) ?_ | refine ab (h2) (by simp) ?_ | refine ab (h3) (by simp) ?_ | refine ab (h4) (by simp) ?_ | refine ab (h5) (by simp) ?_ | refine ab (h6) (by simp) ?_ | refine ab (h7) (by simp) ?_) | (refine aa ?_ ?_ <;> intro hc <;> (try simp only [hc]) <;> try simp at hc) | (with_reducible refine ⟨?_, ?_⟩; (focus ((repeat' with_reducible refine ⟨?_, ?_⟩) <;> first | exact trivial | assumption | (simp; done) | (simp only [List.length_map] at *; omega) | omega | (simp [fs]; done) | exact ay))) | (with_reducible intro x hx) | omega) <;> (try simp only [hR3, Nat.reduceBEq, reduceIte, Nat.reduceEqDiff, Nat.reduceAdd, Nat.reduceSub, Nat.reduceLT, reduceCtorEq, ne_eq, fw, fd]))
 refine aw [0, 1, 2, 3] (by rfl) (by simp) (by simp [fg])
def sE (e : Ev) : List UInt8 := if e.again = true then wg e else vV e
def yr (e : Ev) : Bool := if e.again = true then xE1 e else xE0 e
def yn (e : Ev) : Prop := fE0 e ∧ fE1 e
def qe (q : Qu) : List UInt8 := aX (zz q.a) ++ (aX (zz q.b) ++ (aX (uI q.long) ++ (aX (uI q.grid) ++ (bn jB q.must ++ (bn jk q.may ++ (aX (uI q.seats) ++ (bn jv q.apart ++ (qg q.prefer))))))))
def uX (q : Qu) : Bool := decide (10080 < uI q.long) || (decide (1440 < uI q.grid) || (bT od 64 q.must || (bT n9 16 q.may || (decide (100 < uI q.seats) || (bT oh 32 q.apart || (uB 8 q.prefer))))))
def uA (q : Qu) : Prop := cR q.a ∧ (cR q.b ∧ (cR q.long ∧ (cR q.grid ∧ ((q.must.length ≤ 140737488351232 ∧ ∀ x ∈ q.must, wE x) ∧ ((q.may.length ≤ 140737488351232 ∧ ∀ x ∈ q.may, wC x) ∧ (cR q.seats ∧ ((q.apart.length ≤ 140737488351232 ∧ ∀ x ∈ q.apart, wo x) ∧ (yt q.prefer))))))))
set_option maxHeartbeats 2000000 in
theorem vI (l : List UInt8) (bad : Bool) (sz : Nat) (R : List D) (j : Nat) (q : Qu)  (hR0 : R[j]? = some (.int .i64 q.a)) (hR1 : R[j + 1]? = some (.int .i64 q.b)) (hR2 : R[j + 2]? = some (.int .i64 q.long)) (hR3 : R[j + 3]? = some (.int .i64 q.grid)) (hR4 : R[j + 4]? = some (L (aI .u32 q.must))) (hR5 : R[j + 5]? = some (L (aS .u32 .i64 q.may))) (hR6 : R[j + 6]? = some (.int .i64 q.seats)) (hR7 : R[j + 7]? = some (L (aS .u32 .u32 q.apart))) (hR8 : R[j + 8]? = some (L (bh q.prefer))) (hf : uA q) (hl : (l ++ qe q).length ≤ 1099511627776) :
  az Try.prog 37 [.ptr 0 0 0 1, .ptr 3 0 j 1] [Cw 1 bad, Ww 2 l.length, aU true 1 true (r8 l), Va sz R] (.tup [])
   [Cw 1 (bad || uX q), Ww 2 (l ++ qe q).length, aU true 1 true (r8 (l ++ qe q)), Va sz R] := by
 refine aK Try.func37 low37 (by simp [c37]) ?_
 simp only [c37]
 unfold uA at hf
 obtain ⟨l1, e1⟩ : ∃ l1, l1 = l ++ aX (zz q.a) := ⟨_, rfl⟩
 obtain ⟨l2, e2⟩ : ∃ l2, l2 = l1 ++ aX (zz q.b) := ⟨_, rfl⟩
 obtain ⟨l3, e3⟩ : ∃ l3, l3 = l2 ++ aX (uI q.long) := ⟨_, rfl⟩
 obtain ⟨b3, d3⟩ : ∃ b3, b3 = (bad || decide (10080 < uI q.long)) := ⟨_, rfl⟩
 obtain ⟨l4, e4⟩ : ∃ l4, l4 = l3 ++ aX (uI q.grid) := ⟨_, rfl⟩
 obtain ⟨b4, d4⟩ : ∃ b4, b4 = (b3 || decide (1440 < uI q.grid)) := ⟨_, rfl⟩
 obtain ⟨l5, e5⟩ : ∃ l5, l5 = l4 ++ bn jB q.must := ⟨_, rfl⟩
 obtain ⟨b5, d5⟩ : ∃ b5, b5 = (b4 || bT od 64 q.must) := ⟨_, rfl⟩
 obtain ⟨l6, e6⟩ : ∃ l6, l6 = l5 ++ bn jk q.may := ⟨_, rfl⟩
 obtain ⟨b6, d6⟩ : ∃ b6, b6 = (b5 || bT n9 16 q.may) := ⟨_, rfl⟩
 obtain ⟨l7, e7⟩ : ∃ l7, l7 = l6 ++ aX (uI q.seats) := ⟨_, rfl⟩
 obtain ⟨b7, d7⟩ : ∃ b7, b7 = (b6 || decide (100 < uI q.seats)) := ⟨_, rfl⟩
 obtain ⟨l8, e8⟩ : ∃ l8, l8 = l7 ++ bn jv q.apart := ⟨_, rfl⟩
 obtain ⟨b8, d8⟩ : ∃ b8, b8 = (b7 || bT oh 32 q.apart) := ⟨_, rfl⟩
 obtain ⟨l9, e9⟩ : ∃ l9, l9 = l8 ++ qg q.prefer := ⟨_, rfl⟩
 obtain ⟨b9, d9⟩ : ∃ b9, b9 = (b8 || uB 8 q.prefer) := ⟨_, rfl⟩
 have el : l ++ qe q = l9 := by rw [e9, e8, e7, e6, e5, e4, e3, e2, e1]; simp only [qe, List.append_assoc]
 have eb : (bad || uX q) = b9 := by rw [d9, d8, d7, d6, d5, d4, d3]; simp only [uX, Bool.or_assoc]
 rw [el] at hl
 rw [el, eb]
 have g8 : l8.length ≤ l9.length := by rw [e9, List.length_append]; omega
 have g7 : l7.length ≤ l8.length := by rw [e8, List.length_append]; omega
 have g6 : l6.length ≤ l7.length := by rw [e7, List.length_append]; omega
 have g5 : l5.length ≤ l6.length := by rw [e6, List.length_append]; omega
 have g4 : l4.length ≤ l5.length := by rw [e5, List.length_append]; omega
 have g3 : l3.length ≤ l4.length := by rw [e4, List.length_append]; omega
 have g2 : l2.length ≤ l3.length := by rw [e3, List.length_append]; omega
 have g1 : l1.length ≤ l2.length := by rw [e2, List.length_append]; omega
 have g0 : l.length ≤ l1.length := by rw [e1, List.length_append]; omega
 have h1 := cy l bad sz R j q.a hR0 hf.1 (by omega)
 rw [← e1] at h1
 have h2 := cy l1 bad sz R (j + 1) q.b hR1 hf.2.1 (by omega)
 rw [← e2] at h2
 have h3 := bF l2 bad sz R (j + 2) 10080 q.long hR2 hf.2.2.1 (by omega) (by omega)
 rw [← e3, ← d3] at h3
 have h4 := bF l3 b3 sz R (j + 3) 1440 q.grid hR3 hf.2.2.2.1 (by omega) (by omega)
 rw [← e4, ← d4] at h4
 have h5 := ub l4 b4 sz R (j + 4) 64 q.must hR4 (by omega) hf.2.2.2.2.1.1 hf.2.2.2.2.1.2 (by rw [← e5]; omega)
 rw [← e5, ← d5] at h5
 have h6 := uH l5 b5 sz R (j + 5) 16 q.may hR5 (by omega) hf.2.2.2.2.2.1.1 hf.2.2.2.2.2.1.2 (by rw [← e6]; omega)
 rw [← e6, ← d6] at h6
 have h7 := bF l6 b6 sz R (j + 6) 100 q.seats hR6 hf.2.2.2.2.2.2.1 (by omega) (by omega)
 rw [← e7, ← d7] at h7
 have h8 := uK l7 b7 sz R (j + 7) 32 q.apart hR7 (by omega) hf.2.2.2.2.2.2.2.1.1 hf.2.2.2.2.2.2.2.1.2 (by rw [← e8]; omega)
 rw [← e8, ← d8] at h8
 have h9 := vL l8 b8 sz R (j + 8) 8 q.prefer hR8 (by omega) hf.2.2.2.2.2.2.2.2 (by rw [← e9]; omega)
 rw [← e9, ← d9] at h9
 clear e1 e2 e3 e4 e5 e6 e7 e8 e9 d3 d4 d5 d6 d7 d8 d9 el eb
 repeat' ((first | apply ai | apply al | apply aj | apply ak mixed | apply ap mixed | (with_reducible first | refine af ?_ | refine aD (f := .c (.fn 39 [])) ?_ | refine aD (f := .c (.fn 32 [])) ?_ | refine aP (f := .c (.fn 71 [])) (z := []) (q := [0, 1, 2, 3, 4]) ?_ | refine aL (f := .c (.fn 71 [])) (z := []) (q := [0, 1, 2, 3, 4]) ?_ | refine aP (f := .c (.fn 73 [])) (z := []) (q := [0, 1, 2, 3, 4]) ?_ | refine aL (f := .c (.fn 73 [])) (z := []) (q := [0, 1, 2, 3, 4]) ?_ | refine aP (f := .c (.fn 75 [])) (z := []) (q := [0, 1, 2, 3, 4]) ?_ | refine aL (f := .c (.fn 75 [])) (z := []) (q := [0, 1, 2, 3, 4]) ?_ | refine aD (f := .c (.fn 62 [])) ?_ | refine aC ?_ | refine ab (h1) (by simp) ?_ | refine ab (h2) (by simp) ?_ | refine ab (h3) (by simp) ?_ | refine ab (h4) (by simp) ?_ | refine ab (h5) (by simp) ?_ | refine ab (h6) (by simp) ?_ | refine ab (h7) (by simp) ?_ | refine ab (h8) (by simp) ?_ | refine ab (h9) (by simp) ?_) | (with_reducible refine ⟨?_, ?_⟩; (focus ((repeat' with_reducible refine ⟨?_, ?_⟩) <;> first | exact trivial | assumption | (simp; done) | (simp only [List.length_map] at *; omega) | omega | (simp [fs]; done) | exact ay))) | (with_reducible intro x hx) | omega) <;> (try simp only [Nat.reduceBEq, reduceIte, Nat.reduceEqDiff, Nat.reduceAdd, Nat.reduceSub, Nat.reduceLT, reduceCtorEq, ne_eq, fw, fd]))
 refine aw [0, 1, 2, 3] (by rfl) (by simp) (by simp [fg])
end Go.Proofs.Ytgefljdclekadaa

namespace Go.Proofs.Ytgefljdclekadaa
open Go Go.Vi
theorem nr {α : Type} {re : Rs → α × Rs} (h : ∀ s, (re s).2.l.length ≤ s.l.length) : ∀ (k : Nat) (s : Rs) (a : List α), (bz re k s a).2.l.length ≤ s.l.length
 | 0, s, a => Nat.le_refl _
 | k + 1, s, a => by
  unfold bz
  have h1 := h s
  split
  ·exact h1
  ·exact Nat.le_trans (nr h k _ _) h1
theorem bU {α : Type} {re : Rs → α × Rs} (h : ∀ s, (re s).2.l.length ≤ s.l.length) (most : Nat) (hm : most < 18446744073709551616) (s : Rs) : (aM re most s).2.l.length ≤ s.l.length :=
 Nat.le_trans (nr h _ _ _) (aH most hm s).1
def cQ (R : List D) (j : Nat) : List D → List D
 | [] => R
 | d :: ds => cQ (R.set j d) (j + 1) ds
theorem c0 : ∀ (ds : List D) (R : List D) (j : Nat), (cQ R j ds).length = R.length
 | [], _, _ => rfl
 | d :: ds, R, j => by rw [cQ, c0 ds, List.length_set]
theorem dR : ∀ (ds : List D) (R : List D) (j x : Nat), j + ds.length ≤ x → (cQ R j ds)[x]? = R[x]?
 | [], _, _, _, _ => rfl
 | d :: ds, R, j, x, h => by
  simp only [List.length_cons] at h
  rw [cQ, dR ds _ _ x (by omega), List.getElem?_set_ne (by omega)]
def kU (s : Rs) : (Int × List (Int × Int)) × Rs :=
 match fL (-900) 900 s with
 | (v1, s1) =>
 match aM jy 700 s1 with
 | (v2, s2) =>
  ((v1, v2), s2)
theorem sZ (s : Rs) : (kU s).2.l.length ≤ s.l.length := by
 unfold kU
 have g1 := fO (-900) 900 s
 generalize fL (-900) 900 s = q1 at g1 ⊢
 obtain ⟨v1, s1⟩ := q1
 dsimp only at g1 ⊢
 have g2 := bU ph 700 (by omega) s1
 generalize aM jy 700 s1 = q2 at g2 ⊢
 obtain ⟨v2, s2⟩ := q2
 dsimp only at g2 ⊢
 omega
set_option maxHeartbeats 4000000 in
theorem cZo_r (s : Rs) (sz : Nat) (R : List D) (j : Nat) (hN1 : R[j + 1]? = some (.list (some true) true [])) (hz : R.length = sz) (hj : j + 2 ≤ sz) (hl : s.l.length ≤ 1099511627776) :
  az Try.prog 61 [.ptr 0 0 0 1, .ptr 2 0 j 1] [Cr 1 s.cb, Rd s.l s.rb, Va sz R] (.tup [])
   [Cr 1 (kU s).2.cb, Rd (kU s).2.l (kU s).2.rb, Va sz (cQ R j [.int .i64 (kU s).1.1, L (aS .i64 .i64 (kU s).1.2)])] := by
 refine aK Try.func61 low61 (by simp [c61]) ?_
 simp only [c61]
 unfold kU
 have z0 := hz
 have k0 : ∀ x, j + 0 ≤ x → R[x]? = R[x]? := fun _ _ => rfl
 have g1 := fO (-900) 900 s
 have h1 : az Try.prog 86 [.ptr 0 0 0 1, .ptr 2 0 j 1, .int .i64 (-900), .int .i64 900] [Cr 1 s.cb, Rd s.l s.rb, Va sz R] (.tup []) [Cr 1 (fL (-900) 900 s).2.cb, Rd (fL (-900) 900 s).2.l (fL (-900) 900 s).2.rb, Va sz (R.set j (.int .i64 ((fL (-900) 900 s).1 : Int)))] := mJ s.l s.rb s.cb sz R j (-900) 900 (by omega) (by omega) (by omega)
 generalize fL (-900) 900 s = q1 at h1 g1 ⊢
 obtain ⟨v1, s1⟩ := q1
 dsimp only at h1 g1 ⊢
 obtain ⟨R1, e1⟩ : ∃ R1, R1 = R.set j (.int .i64 (v1 : Int)) := ⟨_, rfl⟩
 rw [← e1] at h1
 have z1 : R1.length = sz := by rw [e1, List.length_set]; exact z0
 have k1 : ∀ x, j + 1 ≤ x → R1[x]? = R[x]? := fun x hx => by rw [e1, List.getElem?_set_ne (by omega)] <;> exact k0 x (by omega)
 have g2 := bU ph 700 (by omega) s1
 have h2 : az Try.prog 87 [.ptr 0 0 0 1, .ptr 2 0 (j + 1) 1, .int .i64 700, .fn 88 [.ptr 3 0 0 1]] [Cr 1 s1.cb, Rd s1.l s1.rb, Va sz R1, Bx 0] (.tup []) [Cr 1 (aM jy 700 s1).2.cb, Rd (aM jy 700 s1).2.l (aM jy 700 s1).2.rb, Va sz (R1.set (j + 1) (L (aS .i64 .i64 (aM jy 700 s1).1))), Bx 0] := uD s1 sz R1 (j + 1) 700 (by rw [k1 _ (by omega)]; exact hN1) (by omega) (by omega) (by omega)
 generalize aM jy 700 s1 = q2 at h2 g2 ⊢
 obtain ⟨v2, s2⟩ := q2
 dsimp only at h2 g2 ⊢
 obtain ⟨R2, e2⟩ : ∃ R2, R2 = R1.set (j + 1) (L (aS .i64 .i64 v2)) := ⟨_, rfl⟩
 rw [← e2] at h2
 have z2 : R2.length = sz := by rw [e2, List.length_set]; exact z1
 have k2 : ∀ x, j + 2 ≤ x → R2[x]? = R[x]? := fun x hx => by rw [e2, List.getElem?_set_ne (by omega)] <;> exact k1 x (by omega)
 have eR : cQ R j [.int .i64 (v1, v2).1, L (aS .i64 .i64 (v1, v2).2)] = R2 := by rw [e2, e1] <;> rfl
 rw [eR]
 clear eR e1 e2 k0 k1 k2 z1 z2
 repeat' ((first | apply ai | apply al | apply aj | apply ak mixed | apply ap mixed | (with_reducible first | refine af ?_ | refine aD (f := .c (.fn 86 [])) ?_ | refine aP (f := .c (.fn 87 [])) (z := []) (q := [0, 1, 2, 3]) ?_ | refine aL (f := .c (.fn 87 [])) (z := []) (q := [0, 1, 2, 3]) ?_ | refine aC ?_ | refine ab (h1) (by simp) ?_ | refine ab (h2) (by simp) ?_) | (with_reducible refine ⟨?_, ?_⟩; (focus ((repeat' with_reducible refine ⟨?_, ?_⟩) <;> first | exact trivial | assumption | (simp; done) | (simp only [List.length_map] at *; omega) | omega | (simp [fs]; done) | exact ay))) | (with_reducible intro x hx) | omega) <;> (try simp only [Nat.reduceBEq, reduceIte, Nat.reduceEqDiff, Nat.reduceAdd, Nat.reduceSub, Nat.reduceLT, reduceCtorEq, ne_eq, Int.reduceNeg, fw, fd]))
 refine aw [0, 1, 2] (by rfl) (by simp) (by simp [fg])
def iA (most : Nat) (s : Rs) : (List (Int × Int × Int)) × Rs :=
 match aM jw most s with
 | (v1, s1) =>
  (v1, s1)
theorem mR (most : Nat) (hm : most < 1000000) (s : Rs) : (iA most s).2.l.length ≤ s.l.length := by
 unfold iA
 have g1 := bU oO most (by omega) s
 generalize aM jw most s = q1 at g1 ⊢
 obtain ⟨v1, s1⟩ := q1
 dsimp only at g1 ⊢
 omega
set_option maxHeartbeats 4000000 in
theorem we (s : Rs) (sz : Nat) (R : List D) (j : Nat) (most : Nat) (hN0 : R[j]? = some (.list (some true) true [])) (hz : R.length = sz) (hj : j + 1 ≤ sz) (hm : most < 1000000) (hl : s.l.length ≤ 1099511627776) :
  az Try.prog 62 [.ptr 0 0 0 1, .ptr 2 0 j 1, .int .i64 most] [Cr 1 s.cb, Rd s.l s.rb, Va sz R] (.tup [])
   [Cr 1 (iA most s).2.cb, Rd (iA most s).2.l (iA most s).2.rb, Va sz (cQ R j [L (bh (iA most s).1)])] := by
 refine aK Try.func62 low62 (by simp [c62]) ?_
 simp only [c62]
 unfold iA
 have z0 := hz
 have k0 : ∀ x, j + 0 ≤ x → R[x]? = R[x]? := fun _ _ => rfl
 have g1 := bU oO most (by omega) s
 have h1 : az Try.prog 89 [.ptr 0 0 0 1, .ptr 2 0 j 1, .int .i64 most, .fn 90 [.ptr 3 0 0 1]] [Cr 1 s.cb, Rd s.l s.rb, Va sz R, Bx 0] (.tup []) [Cr 1 (aM jw most s).2.cb, Rd (aM jw most s).2.l (aM jw most s).2.rb, Va sz (R.set j (L (bh (aM jw most s).1))), Bx 0] := uP s sz R j most (by rw [k0 _ (by omega)]; exact hN0) (by omega) (by omega) (by omega)
 generalize aM jw most s = q1 at h1 g1 ⊢
 obtain ⟨v1, s1⟩ := q1
 dsimp only at h1 g1 ⊢
 obtain ⟨R1, e1⟩ : ∃ R1, R1 = R.set j (L (bh v1)) := ⟨_, rfl⟩
 rw [← e1] at h1
 have z1 : R1.length = sz := by rw [e1, List.length_set]; exact z0
 have k1 : ∀ x, j + 1 ≤ x → R1[x]? = R[x]? := fun x hx => by rw [e1, List.getElem?_set_ne (by omega)] <;> exact k0 x (by omega)
 have eR : cQ R j [L (bh v1)] = R1 := by rw [e1] <;> rfl
 rw [eR]
 clear eR e1 k0 k1 z1
 repeat' ((first | apply ai | apply al | apply aj | apply ak mixed | (with_reducible first | refine af ?_ | refine aP (f := .c (.fn 89 [])) (z := []) (q := [0, 1, 2, 3]) ?_ | refine aL (f := .c (.fn 89 [])) (z := []) (q := [0, 1, 2, 3]) ?_ | refine ao ?_ | refine ab (h1) (by simp) ?_) | (with_reducible refine ⟨?_, ?_⟩; (focus ((repeat' with_reducible refine ⟨?_, ?_⟩) <;> first | exact trivial | assumption | (simp; done) | (simp only [List.length_map] at *; omega) | omega | (simp [fs]; done) | exact ay))) | (with_reducible intro x hx) | omega) <;> (try simp only [Nat.reduceBEq, reduceIte, Nat.reduceAdd, Nat.reduceSub, Nat.reduceLT, reduceCtorEq, ne_eq, fw, fd]))
 refine aw [0, 1, 2] (by rfl) (by simp) (by simp [fg])
def ip (s : Rs) : (Se) × Rs :=
 match kU s with
 | (v1, s1) =>
 match iA 10 s1 with
 | (v2, s2) =>
 match aM jm 60 s2 with
 | (v3, s3) =>
 match aA 240 s3 with
 | (v4, s4) =>
 match aA 240 s4 with
 | (v5, s5) =>
  (⟨v1.1, v1.2, v2, v3, v4, v5⟩, s5)
theorem xr (s : Rs) : (ip s).2.l.length ≤ s.l.length := by
 unfold ip
 have g1 := sZ s
 generalize kU s = q1 at g1 ⊢
 obtain ⟨v1, s1⟩ := q1
 dsimp only at g1 ⊢
 have g2 := mR 10 (by omega) s1
 generalize iA 10 s1 = q2 at g2 ⊢
 obtain ⟨v2, s2⟩ := q2
 dsimp only at g2 ⊢
 have g3 := bU pg 60 (by omega) s2
 generalize aM jm 60 s2 = q3 at g3 ⊢
 obtain ⟨v3, s3⟩ := q3
 dsimp only at g3 ⊢
 have g4 := (aH 240 (by omega) s3).1
 generalize aA 240 s3 = q4 at g4 ⊢
 obtain ⟨v4, s4⟩ := q4
 dsimp only at g4 ⊢
 have g5 := (aH 240 (by omega) s4).1
 generalize aA 240 s4 = q5 at g5 ⊢
 obtain ⟨v5, s5⟩ := q5
 dsimp only at g5 ⊢
 omega
set_option maxHeartbeats 4000000 in
theorem cSe_r (s : Rs) (sz : Nat) (R : List D) (j : Nat) (hN1 : R[j + 1]? = some (.list (some true) true [])) (hN2 : R[j + 2]? = some (.list (some true) true [])) (hN3 : R[j + 3]? = some (.list (some true) true [])) (hz : R.length = sz) (hj : j + 6 ≤ sz) (hl : s.l.length ≤ 1099511627776) :
  az Try.prog 35 [.ptr 0 0 0 1, .ptr 2 0 j 1] [Cr 1 s.cb, Rd s.l s.rb, Va sz R] (.tup [])
   [Cr 1 (ip s).2.cb, Rd (ip s).2.l (ip s).2.rb, Va sz (cQ R j [.int .i64 (ip s).1.base, L (aS .i64 .i64 (ip s).1.turns), L (bh (ip s).1.shifts), L (aI .i64 (ip s).1.off), .int .i64 (ip s).1.before, .int .i64 (ip s).1.after])] := by
 refine aK Try.func35 low35 (by simp [c35]) ?_
 simp only [c35]
 unfold ip
 have z0 := hz
 have k0 : ∀ x, j + 0 ≤ x → R[x]? = R[x]? := fun _ _ => rfl
 have g1 := sZ s
 have h1 : az Try.prog 61 [.ptr 0 0 0 1, .ptr 2 0 j 1] [Cr 1 s.cb, Rd s.l s.rb, Va sz R] (.tup []) [Cr 1 (kU s).2.cb, Rd (kU s).2.l (kU s).2.rb, Va sz (cQ R j [.int .i64 (kU s).1.1, L (aS .i64 .i64 (kU s).1.2)])] := cZo_r s sz R j (by rw [k0 _ (by omega)]; exact hN1) (by omega) (by omega) (by omega)
 generalize kU s = q1 at h1 g1 ⊢
 obtain ⟨v1, s1⟩ := q1
 dsimp only at h1 g1 ⊢
 obtain ⟨R1, e1⟩ : ∃ R1, R1 = cQ R j [.int .i64 v1.1, L (aS .i64 .i64 v1.2)] := ⟨_, rfl⟩
 rw [← e1] at h1
 have z1 : R1.length = sz := by rw [e1, c0]; exact z0
 have k1 : ∀ x, j + 2 ≤ x → R1[x]? = R[x]? := fun x hx => by rw [e1, dR _ _ _ _ (by simp only [List.length_cons, List.length_nil]; omega)] <;> exact k0 x (by omega)
 have g2 := mR 10 (by omega) s1
 have h2 : az Try.prog 62 [.ptr 0 0 0 1, .ptr 2 0 (j + 2) 1, .int .i64 10] [Cr 1 s1.cb, Rd s1.l s1.rb, Va sz R1] (.tup []) [Cr 1 (iA 10 s1).2.cb, Rd (iA 10 s1).2.l (iA 10 s1).2.rb, Va sz (cQ R1 (j + 2) [L (bh (iA 10 s1).1)])] := we s1 sz R1 (j + 2) 10 (by rw [k1 _ (by omega)]; exact hN2) (by omega) (by omega) (by omega) (by omega)
 generalize iA 10 s1 = q2 at h2 g2 ⊢
 obtain ⟨v2, s2⟩ := q2
 dsimp only at h2 g2 ⊢
 obtain ⟨R2, e2⟩ : ∃ R2, R2 = cQ R1 (j + 2) [L (bh v2)] := ⟨_, rfl⟩
 rw [← e2] at h2
 have z2 : R2.length = sz := by rw [e2, c0]; exact z1
 have k2 : ∀ x, j + 3 ≤ x → R2[x]? = R[x]? := fun x hx => by rw [e2, dR _ _ _ _ (by simp only [List.length_cons, List.length_nil]; omega)] <;> exact k1 x (by omega)
 have g3 := bU pg 60 (by omega) s2
 have h3 : az Try.prog 63 [.ptr 0 0 0 1, .ptr 2 0 (j + 3) 1, .int .i64 60, .fn 64 [.ptr 3 0 0 1]] [Cr 1 s2.cb, Rd s2.l s2.rb, Va sz R2, Bx 0] (.tup []) [Cr 1 (aM jm 60 s2).2.cb, Rd (aM jm 60 s2).2.l (aM jm 60 s2).2.rb, Va sz (R2.set (j + 3) (L (aI .i64 (aM jm 60 s2).1))), Bx 0] := ve s2 sz R2 (j + 3) 60 (by rw [k2 _ (by omega)]; exact hN3) (by omega) (by omega) (by omega)
 generalize aM jm 60 s2 = q3 at h3 g3 ⊢
 obtain ⟨v3, s3⟩ := q3
 dsimp only at h3 g3 ⊢
 obtain ⟨R3, e3⟩ : ∃ R3, R3 = R2.set (j + 3) (L (aI .i64 v3)) := ⟨_, rfl⟩
 rw [← e3] at h3
 have z3 : R3.length = sz := by rw [e3, List.length_set]; exact z2
 have k3 : ∀ x, j + 4 ≤ x → R3[x]? = R[x]? := fun x hx => by rw [e3, List.getElem?_set_ne (by omega)] <;> exact k2 x (by omega)
 have g4 := (aH 240 (by omega) s3).1
 have h4 : az Try.prog 32 [.ptr 0 0 0 1, .ptr 2 0 (j + 4) 1, .int .u64 240] [Cr 1 s3.cb, Rd s3.l s3.rb, Va sz R3] (.tup []) [Cr 1 (aA 240 s3).2.cb, Rd (aA 240 s3).2.l (aA 240 s3).2.rb, Va sz (R3.set (j + 4) (.int .i64 (((aA 240 s3).1 : Nat) : Int)))] := bJ s3.l s3.rb s3.cb sz R3 (j + 4) 240 (by omega) (by omega) (by omega) (by omega)
 generalize aA 240 s3 = q4 at h4 g4 ⊢
 obtain ⟨v4, s4⟩ := q4
 dsimp only at h4 g4 ⊢
 obtain ⟨R4, e4⟩ : ∃ R4, R4 = R3.set (j + 4) (.int .i64 ((v4 : Nat) : Int)) := ⟨_, rfl⟩
 rw [← e4] at h4
 have z4 : R4.length = sz := by rw [e4, List.length_set]; exact z3
 have k4 : ∀ x, j + 5 ≤ x → R4[x]? = R[x]? := fun x hx => by rw [e4, List.getElem?_set_ne (by omega)] <;> exact k3 x (by omega)
 have g5 := (aH 240 (by omega) s4).1
 have h5 : az Try.prog 32 [.ptr 0 0 0 1, .ptr 2 0 (j + 5) 1, .int .u64 240] [Cr 1 s4.cb, Rd s4.l s4.rb, Va sz R4] (.tup []) [Cr 1 (aA 240 s4).2.cb, Rd (aA 240 s4).2.l (aA 240 s4).2.rb, Va sz (R4.set (j + 5) (.int .i64 (((aA 240 s4).1 : Nat) : Int)))] := bJ s4.l s4.rb s4.cb sz R4 (j + 5) 240 (by omega) (by omega) (by omega) (by omega)
 generalize aA 240 s4 = q5 at h5 g5 ⊢
 obtain ⟨v5, s5⟩ := q5
 dsimp only at h5 g5 ⊢
 obtain ⟨R5, e5⟩ : ∃ R5, R5 = R4.set (j + 5) (.int .i64 ((v5 : Nat) : Int)) := ⟨_, rfl⟩
 rw [← e5] at h5
 have z5 : R5.length = sz := by rw [e5, List.length_set]; exact z4
 have k5 : ∀ x, j + 6 ≤ x → R5[x]? = R[x]? := fun x hx => by rw [e5, List.getElem?_set_ne (by omega)] <;> exact k4 x (by omega)
 have eR : cQ R j [.int .i64 (⟨v1.1, v1.2, v2, v3, v4, v5⟩ : Se).base, L (aS .i64 .i64 (⟨v1.1, v1.2, v2, v3, v4, v5⟩ : Se).turns), L (bh (⟨v1.1, v1.2, v2, v3, v4, v5⟩ : Se).shifts), L (aI .i64 (⟨v1.1, v1.2, v2, v3, v4, v5⟩ : Se).off), .int .i64 (⟨v1.1, v1.2, v2, v3, v4, v5⟩ : Se).before, .int .i64 (⟨v1.1, v1.2, v2, v3, v4, v5⟩ : Se).after] = R5 := by rw [e5, e4, e3, e2, e1] <;> rfl
 rw [eR]
 clear eR e1 e2 e3 e4 e5 k0 k1 k2 k3 k4 k5 z1 z2 z3 z4 z5
 repeat' ((first | apply ai | apply al | apply aj | apply ak mixed | apply ap mixed | (with_reducible first | refine af ?_ | refine aD (f := .c (.fn 61 [])) ?_ | refine aD (f := .c (.fn 62 [])) ?_ | refine aP (f := .c (.fn 63 [])) (z := []) (q := [0, 1, 2, 3]) ?_ | refine aL (f := .c (.fn 63 [])) (z := []) (q := [0, 1, 2, 3]) ?_ | refine aD (f := .c (.fn 32 [])) ?_ | refine aC ?_ | refine ab (h1) (by simp) ?_ | refine ab (h2) (by simp) ?_ | refine ab (h3) (by simp) ?_ | refine ab (h4) (by simp) ?_ | refine ab (h5) (by simp) ?_) | (with_reducible refine ⟨?_, ?_⟩; (focus ((repeat' with_reducible refine ⟨?_, ?_⟩) <;> first | exact trivial | assumption | (simp; done) | (simp only [List.length_map] at *; omega) | omega | (simp [fs]; done) | exact ay))) | (with_reducible intro x hx) | omega) <;> (try simp only [Nat.reduceBEq, reduceIte, Nat.reduceEqDiff, Nat.reduceAdd, Nat.reduceSub, Nat.reduceLT, reduceCtorEq, ne_eq, fw, fd]))
 refine aw [0, 1, 2] (by rfl) (by simp) (by simp [fg])
def fP (s : Rs) : (List Int) × Rs :=
 match aM jg 400 s with
 | (v1, s1) =>
  (v1, s1)
theorem iC (s : Rs) : (fP s).2.l.length ≤ s.l.length := by
 unfold fP
 have g1 := bU oQ 400 (by omega) s
 generalize aM jg 400 s = q1 at g1 ⊢
 obtain ⟨v1, s1⟩ := q1
 dsimp only at g1 ⊢
 omega
set_option maxHeartbeats 4000000 in
theorem sn (s : Rs) (sz : Nat) (R : List D) (j : Nat) (hN0 : R[j]? = some (.list (some true) true [])) (hz : R.length = sz) (hj : j + 1 ≤ sz) (hl : s.l.length ≤ 1099511627776) :
  az Try.prog 91 [.ptr 0 0 0 1, .ptr 2 0 j 1] [Cr 1 s.cb, Rd s.l s.rb, Va sz R] (.tup [])
   [Cr 1 (fP s).2.cb, Rd (fP s).2.l (fP s).2.rb, Va sz (cQ R j [L (aI .i64 (fP s).1)])] := by
 refine aK Try.func91 low91 (by simp [c91]) ?_
 simp only [c91]
 unfold fP
 have z0 := hz
 have k0 : ∀ x, j + 0 ≤ x → R[x]? = R[x]? := fun _ _ => rfl
 have g1 := bU oQ 400 (by omega) s
 have h1 : az Try.prog 63 [.ptr 0 0 0 1, .ptr 2 0 j 1, .int .i64 400, .fn 96 [.ptr 3 0 0 1]] [Cr 1 s.cb, Rd s.l s.rb, Va sz R, Bx 0] (.tup []) [Cr 1 (aM jg 400 s).2.cb, Rd (aM jg 400 s).2.l (aM jg 400 s).2.rb, Va sz (R.set j (L (aI .i64 (aM jg 400 s).1))), Bx 0] := uC s sz R j 400 (by rw [k0 _ (by omega)]; exact hN0) (by omega) (by omega) (by omega)
 generalize aM jg 400 s = q1 at h1 g1 ⊢
 obtain ⟨v1, s1⟩ := q1
 dsimp only at h1 g1 ⊢
 obtain ⟨R1, e1⟩ : ∃ R1, R1 = R.set j (L (aI .i64 v1)) := ⟨_, rfl⟩
 rw [← e1] at h1
 have z1 : R1.length = sz := by rw [e1, List.length_set]; exact z0
 have k1 : ∀ x, j + 1 ≤ x → R1[x]? = R[x]? := fun x hx => by rw [e1, List.getElem?_set_ne (by omega)] <;> exact k0 x (by omega)
 have eR : cQ R j [L (aI .i64 v1)] = R1 := by rw [e1] <;> rfl
 rw [eR]
 clear eR e1 k0 k1 z1
 repeat' ((first | apply ai | apply al | apply aj | apply ak mixed | (with_reducible first | refine af ?_ | refine aP (f := .c (.fn 63 [])) (z := []) (q := [0, 1, 2, 3]) ?_ | refine aL (f := .c (.fn 63 [])) (z := []) (q := [0, 1, 2, 3]) ?_ | refine ao ?_ | refine ab (h1) (by simp) ?_) | (with_reducible refine ⟨?_, ?_⟩; (focus ((repeat' with_reducible refine ⟨?_, ?_⟩) <;> first | exact trivial | assumption | (simp; done) | (simp only [List.length_map] at *; omega) | omega | (simp [fs]; done) | exact ay))) | (with_reducible intro x hx) | omega) <;> (try simp only [Nat.reduceBEq, reduceIte, Nat.reduceAdd, Nat.reduceSub, Nat.reduceLT, reduceCtorEq, ne_eq, fw, fd]))
 refine aw [0, 1, 2] (by rfl) (by simp) (by simp [fg])
def fM (s : Rs) : (Ru) × Rs :=
 match aA 4 s with
 | (v1, s1) =>
 match aA 999 s1 with
 | (v2, s2) =>
 match aA 5000 s2 with
 | (v3, s3) =>
 match cw s3 with
 | (v4, s4) =>
 match fP s4 with
 | (v5, s5) =>
 match fP s5 with
 | (v6, s6) =>
 match aM jn 400 s6 with
 | (v7, s7) =>
 match fP s7 with
 | (v8, s8) =>
 match aA 6 s8 with
 | (v9, s9) =>
  (⟨v1, v2, v3, v4, v5, v6, v7, v8, v9⟩, s9)
theorem tq (s : Rs) : (fM s).2.l.length ≤ s.l.length := by
 unfold fM
 have g1 := (aH 4 (by omega) s).1
 generalize aA 4 s = q1 at g1 ⊢
 obtain ⟨v1, s1⟩ := q1
 dsimp only at g1 ⊢
 have g2 := (aH 999 (by omega) s1).1
 generalize aA 999 s1 = q2 at g2 ⊢
 obtain ⟨v2, s2⟩ := q2
 dsimp only at g2 ⊢
 have g3 := (aH 5000 (by omega) s2).1
 generalize aA 5000 s2 = q3 at g3 ⊢
 obtain ⟨v3, s3⟩ := q3
 dsimp only at g3 ⊢
 have g4 := cG s3
 generalize cw s3 = q4 at g4 ⊢
 obtain ⟨v4, s4⟩ := q4
 dsimp only at g4 ⊢
 have g5 := iC s4
 generalize fP s4 = q5 at g5 ⊢
 obtain ⟨v5, s5⟩ := q5
 dsimp only at g5 ⊢
 have g6 := iC s5
 generalize fP s5 = q6 at g6 ⊢
 obtain ⟨v6, s6⟩ := q6
 dsimp only at g6 ⊢
 have g7 := bU oE 400 (by omega) s6
 generalize aM jn 400 s6 = q7 at g7 ⊢
 obtain ⟨v7, s7⟩ := q7
 dsimp only at g7 ⊢
 have g8 := iC s7
 generalize fP s7 = q8 at g8 ⊢
 obtain ⟨v8, s8⟩ := q8
 dsimp only at g8 ⊢
 have g9 := (aH 6 (by omega) s8).1
 generalize aA 6 s8 = q9 at g9 ⊢
 obtain ⟨v9, s9⟩ := q9
 dsimp only at g9 ⊢
 omega
set_option maxHeartbeats 4000000 in
theorem cRu_r (s : Rs) (sz : Nat) (R : List D) (j : Nat) (hN4 : R[j + 4]? = some (.list (some true) true [])) (hN5 : R[j + 5]? = some (.list (some true) true [])) (hN6 : R[j + 6]? = some (.list (some true) true [])) (hN7 : R[j + 7]? = some (.list (some true) true [])) (hz : R.length = sz) (hj : j + 9 ≤ sz) (hl : s.l.length ≤ 1099511627776) :
  az Try.prog 65 [.ptr 0 0 0 1, .ptr 2 0 j 1] [Cr 1 s.cb, Rd s.l s.rb, Va sz R] (.tup [])
   [Cr 1 (fM s).2.cb, Rd (fM s).2.l (fM s).2.rb, Va sz (cQ R j [.int .i64 (fM s).1.freq, .int .i64 (fM s).1.interval, .int .i64 (fM s).1.count, .int .i64 (fM s).1.til, L (aI .i64 (fM s).1.bm), L (aI .i64 (fM s).1.bmd), L (aS .i64 .i64 (fM s).1.bd), L (aI .i64 (fM s).1.bsp), .int .i64 (fM s).1.start])] := by
 refine aK Try.func65 low65 (by simp [c65]) ?_
 simp only [c65]
 unfold fM
 have z0 := hz
 have k0 : ∀ x, j + 0 ≤ x → R[x]? = R[x]? := fun _ _ => rfl
 have g1 := (aH 4 (by omega) s).1
 have h1 : az Try.prog 32 [.ptr 0 0 0 1, .ptr 2 0 j 1, .int .u64 4] [Cr 1 s.cb, Rd s.l s.rb, Va sz R] (.tup []) [Cr 1 (aA 4 s).2.cb, Rd (aA 4 s).2.l (aA 4 s).2.rb, Va sz (R.set j (.int .i64 (((aA 4 s).1 : Nat) : Int)))] := bJ s.l s.rb s.cb sz R j 4 (by omega) (by omega) (by omega) (by omega)
 generalize aA 4 s = q1 at h1 g1 ⊢
 obtain ⟨v1, s1⟩ := q1
 dsimp only at h1 g1 ⊢
 obtain ⟨R1, e1⟩ : ∃ R1, R1 = R.set j (.int .i64 ((v1 : Nat) : Int)) := ⟨_, rfl⟩
 rw [← e1] at h1
 have z1 : R1.length = sz := by rw [e1, List.length_set]; exact z0
 have k1 : ∀ x, j + 1 ≤ x → R1[x]? = R[x]? := fun x hx => by rw [e1, List.getElem?_set_ne (by omega)] <;> exact k0 x (by omega)
 have g2 := (aH 999 (by omega) s1).1
 have h2 : az Try.prog 32 [.ptr 0 0 0 1, .ptr 2 0 (j + 1) 1, .int .u64 999] [Cr 1 s1.cb, Rd s1.l s1.rb, Va sz R1] (.tup []) [Cr 1 (aA 999 s1).2.cb, Rd (aA 999 s1).2.l (aA 999 s1).2.rb, Va sz (R1.set (j + 1) (.int .i64 (((aA 999 s1).1 : Nat) : Int)))] := bJ s1.l s1.rb s1.cb sz R1 (j + 1) 999 (by omega) (by omega) (by omega) (by omega)
 generalize aA 999 s1 = q2 at h2 g2 ⊢
 obtain ⟨v2, s2⟩ := q2
 dsimp only at h2 g2 ⊢
 obtain ⟨R2, e2⟩ : ∃ R2, R2 = R1.set (j + 1) (.int .i64 ((v2 : Nat) : Int)) := ⟨_, rfl⟩
 rw [← e2] at h2
 have z2 : R2.length = sz := by rw [e2, List.length_set]; exact z1
 have k2 : ∀ x, j + 2 ≤ x → R2[x]? = R[x]? := fun x hx => by rw [e2, List.getElem?_set_ne (by omega)] <;> exact k1 x (by omega)
 have g3 := (aH 5000 (by omega) s2).1
 have h3 : az Try.prog 32 [.ptr 0 0 0 1, .ptr 2 0 (j + 2) 1, .int .u64 5000] [Cr 1 s2.cb, Rd s2.l s2.rb, Va sz R2] (.tup []) [Cr 1 (aA 5000 s2).2.cb, Rd (aA 5000 s2).2.l (aA 5000 s2).2.rb, Va sz (R2.set (j + 2) (.int .i64 (((aA 5000 s2).1 : Nat) : Int)))] := bJ s2.l s2.rb s2.cb sz R2 (j + 2) 5000 (by omega) (by omega) (by omega) (by omega)
 generalize aA 5000 s2 = q3 at h3 g3 ⊢
 obtain ⟨v3, s3⟩ := q3
 dsimp only at h3 g3 ⊢
 obtain ⟨R3, e3⟩ : ∃ R3, R3 = R2.set (j + 2) (.int .i64 ((v3 : Nat) : Int)) := ⟨_, rfl⟩
 rw [← e3] at h3
 have z3 : R3.length = sz := by rw [e3, List.length_set]; exact z2
 have k3 : ∀ x, j + 3 ≤ x → R3[x]? = R[x]? := fun x hx => by rw [e3, List.getElem?_set_ne (by omega)] <;> exact k2 x (by omega)
 have g4 := cG s3
 have h4 : az Try.prog 39 [.ptr 0 0 0 1, .ptr 2 0 (j + 3) 1] [Cr 1 s3.cb, Rd s3.l s3.rb, Va sz R3] (.tup []) [Cr 1 (cw s3).2.cb, Rd (cw s3).2.l (cw s3).2.rb, Va sz (R3.set (j + 3) (.int .i64 ((cw s3).1 : Int)))] := cF s3.l s3.rb s3.cb sz R3 (j + 3) (by omega) (by omega) (by omega)
 generalize cw s3 = q4 at h4 g4 ⊢
 obtain ⟨v4, s4⟩ := q4
 dsimp only at h4 g4 ⊢
 obtain ⟨R4, e4⟩ : ∃ R4, R4 = R3.set (j + 3) (.int .i64 (v4 : Int)) := ⟨_, rfl⟩
 rw [← e4] at h4
 have z4 : R4.length = sz := by rw [e4, List.length_set]; exact z3
 have k4 : ∀ x, j + 4 ≤ x → R4[x]? = R[x]? := fun x hx => by rw [e4, List.getElem?_set_ne (by omega)] <;> exact k3 x (by omega)
 have g5 := iC s4
 have h5 : az Try.prog 91 [.ptr 0 0 0 1, .ptr 2 0 (j + 4) 1] [Cr 1 s4.cb, Rd s4.l s4.rb, Va sz R4] (.tup []) [Cr 1 (fP s4).2.cb, Rd (fP s4).2.l (fP s4).2.rb, Va sz (cQ R4 (j + 4) [L (aI .i64 (fP s4).1)])] := sn s4 sz R4 (j + 4) (by rw [k4 _ (by omega)]; exact hN4) (by omega) (by omega) (by omega)
 generalize fP s4 = q5 at h5 g5 ⊢
 obtain ⟨v5, s5⟩ := q5
 dsimp only at h5 g5 ⊢
 obtain ⟨R5, e5⟩ : ∃ R5, R5 = cQ R4 (j + 4) [L (aI .i64 v5)] := ⟨_, rfl⟩
 rw [← e5] at h5
 have z5 : R5.length = sz := by rw [e5, c0]; exact z4
 have k5 : ∀ x, j + 5 ≤ x → R5[x]? = R[x]? := fun x hx => by rw [e5, dR _ _ _ _ (by simp only [List.length_cons, List.length_nil]; omega)] <;> exact k4 x (by omega)
 have g6 := iC s5
 have h6 : az Try.prog 91 [.ptr 0 0 0 1, .ptr 2 0 (j + 5) 1] [Cr 1 s5.cb, Rd s5.l s5.rb, Va sz R5] (.tup []) [Cr 1 (fP s5).2.cb, Rd (fP s5).2.l (fP s5).2.rb, Va sz (cQ R5 (j + 5) [L (aI .i64 (fP s5).1)])] := sn s5 sz R5 (j + 5) (by rw [k5 _ (by omega)]; exact hN5) (by omega) (by omega) (by omega)
 generalize fP s5 = q6 at h6 g6 ⊢
 obtain ⟨v6, s6⟩ := q6
 dsimp only at h6 g6 ⊢
 obtain ⟨R6, e6⟩ : ∃ R6, R6 = cQ R5 (j + 5) [L (aI .i64 v6)] := ⟨_, rfl⟩
 rw [← e6] at h6
 have z6 : R6.length = sz := by rw [e6, c0]; exact z5
 have k6 : ∀ x, j + 6 ≤ x → R6[x]? = R[x]? := fun x hx => by rw [e6, dR _ _ _ _ (by simp only [List.length_cons, List.length_nil]; omega)] <;> exact k5 x (by omega)
 have g7 := bU oE 400 (by omega) s6
 have h7 : az Try.prog 92 [.ptr 0 0 0 1, .ptr 2 0 (j + 6) 1, .int .i64 400, .fn 93 [.ptr 3 0 0 1]] [Cr 1 s6.cb, Rd s6.l s6.rb, Va sz R6, Bx 0] (.tup []) [Cr 1 (aM jn 400 s6).2.cb, Rd (aM jn 400 s6).2.l (aM jn 400 s6).2.rb, Va sz (R6.set (j + 6) (L (aS .i64 .i64 (aM jn 400 s6).1))), Bx 0] := uY s6 sz R6 (j + 6) 400 (by rw [k6 _ (by omega)]; exact hN6) (by omega) (by omega) (by omega)
 generalize aM jn 400 s6 = q7 at h7 g7 ⊢
 obtain ⟨v7, s7⟩ := q7
 dsimp only at h7 g7 ⊢
 obtain ⟨R7, e7⟩ : ∃ R7, R7 = R6.set (j + 6) (L (aS .i64 .i64 v7)) := ⟨_, rfl⟩
 rw [← e7] at h7
 have z7 : R7.length = sz := by rw [e7, List.length_set]; exact z6
 have k7 : ∀ x, j + 7 ≤ x → R7[x]? = R[x]? := fun x hx => by rw [e7, List.getElem?_set_ne (by omega)] <;> exact k6 x (by omega)
 have g8 := iC s7
 have h8 : az Try.prog 91 [.ptr 0 0 0 1, .ptr 2 0 (j + 7) 1] [Cr 1 s7.cb, Rd s7.l s7.rb, Va sz R7] (.tup []) [Cr 1 (fP s7).2.cb, Rd (fP s7).2.l (fP s7).2.rb, Va sz (cQ R7 (j + 7) [L (aI .i64 (fP s7).1)])] := sn s7 sz R7 (j + 7) (by rw [k7 _ (by omega)]; exact hN7) (by omega) (by omega) (by omega)
 generalize fP s7 = q8 at h8 g8 ⊢
 obtain ⟨v8, s8⟩ := q8
 dsimp only at h8 g8 ⊢
 obtain ⟨R8, e8⟩ : ∃ R8, R8 = cQ R7 (j + 7) [L (aI .i64 v8)] := ⟨_, rfl⟩
 rw [← e8] at h8
 have z8 : R8.length = sz := by rw [e8, c0]; exact z7
 have k8 : ∀ x, j + 8 ≤ x → R8[x]? = R[x]? := fun x hx => by rw [e8, dR _ _ _ _ (by simp only [List.length_cons, List.length_nil]; omega)] <;> exact k7 x (by omega)
 have g9 := (aH 6 (by omega) s8).1
 have h9 : az Try.prog 32 [.ptr 0 0 0 1, .ptr 2 0 (j + 8) 1, .int .u64 6] [Cr 1 s8.cb, Rd s8.l s8.rb, Va sz R8] (.tup []) [Cr 1 (aA 6 s8).2.cb, Rd (aA 6 s8).2.l (aA 6 s8).2.rb, Va sz (R8.set (j + 8) (.int .i64 (((aA 6 s8).1 : Nat) : Int)))] := bJ s8.l s8.rb s8.cb sz R8 (j + 8) 6 (by omega) (by omega) (by omega) (by omega)
 generalize aA 6 s8 = q9 at h9 g9 ⊢
 obtain ⟨v9, s9⟩ := q9
 dsimp only at h9 g9 ⊢
 obtain ⟨R9, e9⟩ : ∃ R9, R9 = R8.set (j + 8) (.int .i64 ((v9 : Nat) : Int)) := ⟨_, rfl⟩
 rw [← e9] at h9
 have z9 : R9.length = sz := by rw [e9, List.length_set]; exact z8
 have k9 : ∀ x, j + 9 ≤ x → R9[x]? = R[x]? := fun x hx => by rw [e9, List.getElem?_set_ne (by omega)] <;> exact k8 x (by omega)
 have eR : cQ R j [.int .i64 (⟨v1, v2, v3, v4, v5, v6, v7, v8, v9⟩ : Ru).freq, .int .i64 (⟨v1, v2, v3, v4, v5, v6, v7, v8, v9⟩ : Ru).interval, .int .i64 (⟨v1, v2, v3, v4, v5, v6, v7, v8, v9⟩ : Ru).count, .int .i64 (⟨v1, v2, v3, v4, v5, v6, v7, v8, v9⟩ : Ru).til, L (aI .i64 (⟨v1, v2, v3, v4, v5, v6, v7, v8, v9⟩ : Ru).bm), L (aI .i64 (⟨v1, v2, v3, v4, v5, v6, v7, v8, v9⟩ : Ru).bmd), L (aS .i64 .i64 (⟨v1, v2, v3, v4, v5, v6, v7, v8, v9⟩ : Ru).bd), L (aI .i64 (⟨v1, v2, v3, v4, v5, v6, v7, v8, v9⟩ : Ru).bsp), .int .i64 (⟨v1, v2, v3, v4, v5, v6, v7, v8, v9⟩ : Ru).start] = R9 := by rw [e9, e8, e7, e6, e5, e4, e3, e2, e1] <;> rfl
 rw [eR]
 clear eR e1 e2 e3 e4 e5 e6 e7 e8 e9 k0 k1 k2 k3 k4 k5 k6 k7 k8 k9 z1 z2 z3 z4 z5 z6 z7 z8 z9
 repeat' ((first | apply ai | apply al | apply aj | apply ak mixed | apply ap mixed | (with_reducible first | refine af ?_ | refine aD (f := .c (.fn 32 [])) ?_ | refine aD (f := .c (.fn 39 [])) ?_ | refine aD (f := .c (.fn 91 [])) ?_ | refine aP (f := .c (.fn 92 [])) (z := []) (q := [0, 1, 2, 3]) ?_ | refine aL (f := .c (.fn 92 [])) (z := []) (q := [0, 1, 2, 3]) ?_ | refine aC ?_ | refine ab (h1) (by simp) ?_ | refine ab (h2) (by simp) ?_ | refine ab (h3) (by simp) ?_ | refine ab (h4) (by simp) ?_ | refine ab (h5) (by simp) ?_ | refine ab (h6) (by simp) ?_ | refine ab (h7) (by simp) ?_ | refine ab (h8) (by simp) ?_ | refine ab (h9) (by simp) ?_) | (with_reducible refine ⟨?_, ?_⟩; (focus ((repeat' with_reducible refine ⟨?_, ?_⟩) <;> first | exact trivial | assumption | (simp; done) | (simp only [List.length_map] at *; omega) | omega | (simp [fs]; done) | exact ay))) | (with_reducible intro x hx) | omega) <;> (try simp only [Nat.reduceBEq, reduceIte, Nat.reduceEqDiff, Nat.reduceAdd, Nat.reduceSub, Nat.reduceLT, reduceCtorEq, ne_eq, fw, fd]))
 refine aw [0, 1, 2] (by rfl) (by simp) (by simp [fg])
def ew (s : Rs) : (Qu) × Rs :=
 match cw s with
 | (v1, s1) =>
 match cw s1 with
 | (v2, s2) =>
 match aA 10080 s2 with
 | (v3, s3) =>
 match aA 1440 s3 with
 | (v4, s4) =>
 match aM jx 64 s4 with
 | (v5, s5) =>
 match aM jr 16 s5 with
 | (v6, s6) =>
 match aA 100 s6 with
 | (v7, s7) =>
 match aM jl 32 s7 with
 | (v8, s8) =>
 match iA 8 s8 with
 | (v9, s9) =>
  (⟨v1, v2, v3, v4, v5, v6, v7, v8, v9⟩, s9)
theorem sw (s : Rs) : (ew s).2.l.length ≤ s.l.length := by
 unfold ew
 have g1 := cG s
 generalize cw s = q1 at g1 ⊢
 obtain ⟨v1, s1⟩ := q1
 dsimp only at g1 ⊢
 have g2 := cG s1
 generalize cw s1 = q2 at g2 ⊢
 obtain ⟨v2, s2⟩ := q2
 dsimp only at g2 ⊢
 have g3 := (aH 10080 (by omega) s2).1
 generalize aA 10080 s2 = q3 at g3 ⊢
 obtain ⟨v3, s3⟩ := q3
 dsimp only at g3 ⊢
 have g4 := (aH 1440 (by omega) s3).1
 generalize aA 1440 s3 = q4 at g4 ⊢
 obtain ⟨v4, s4⟩ := q4
 dsimp only at g4 ⊢
 have g5 := bU pf 64 (by omega) s4
 generalize aM jx 64 s4 = q5 at g5 ⊢
 obtain ⟨v5, s5⟩ := q5
 dsimp only at g5 ⊢
 have g6 := bU oU 16 (by omega) s5
 generalize aM jr 16 s5 = q6 at g6 ⊢
 obtain ⟨v6, s6⟩ := q6
 dsimp only at g6 ⊢
 have g7 := (aH 100 (by omega) s6).1
 generalize aA 100 s6 = q7 at g7 ⊢
 obtain ⟨v7, s7⟩ := q7
 dsimp only at g7 ⊢
 have g8 := bU o4 32 (by omega) s7
 generalize aM jl 32 s7 = q8 at g8 ⊢
 obtain ⟨v8, s8⟩ := q8
 dsimp only at g8 ⊢
 have g9 := mR 8 (by omega) s8
 generalize iA 8 s8 = q9 at g9 ⊢
 obtain ⟨v9, s9⟩ := q9
 dsimp only at g9 ⊢
 omega
set_option maxHeartbeats 4000000 in
theorem wb (s : Rs) (sz : Nat) (R : List D) (j : Nat) (hN4 : R[j + 4]? = some (.list (some true) true [])) (hN5 : R[j + 5]? = some (.list (some true) true [])) (hN7 : R[j + 7]? = some (.list (some true) true [])) (hN8 : R[j + 8]? = some (.list (some true) true [])) (hz : R.length = sz) (hj : j + 9 ≤ sz) (hl : s.l.length ≤ 1099511627776) :
  az Try.prog 37 [.ptr 0 0 0 1, .ptr 2 0 j 1] [Cr 1 s.cb, Rd s.l s.rb, Va sz R] (.tup [])
   [Cr 1 (ew s).2.cb, Rd (ew s).2.l (ew s).2.rb, Va sz (cQ R j [.int .i64 (ew s).1.a, .int .i64 (ew s).1.b, .int .i64 (ew s).1.long, .int .i64 (ew s).1.grid, L (aI .u32 (ew s).1.must), L (aS .u32 .i64 (ew s).1.may), .int .i64 (ew s).1.seats, L (aS .u32 .u32 (ew s).1.apart), L (bh (ew s).1.prefer)])] := by
 refine aK Try.func37 low37 (by simp [c37]) ?_
 simp only [c37]
 unfold ew
 have z0 := hz
 have k0 : ∀ x, j + 0 ≤ x → R[x]? = R[x]? := fun _ _ => rfl
 have g1 := cG s
 have h1 : az Try.prog 39 [.ptr 0 0 0 1, .ptr 2 0 j 1] [Cr 1 s.cb, Rd s.l s.rb, Va sz R] (.tup []) [Cr 1 (cw s).2.cb, Rd (cw s).2.l (cw s).2.rb, Va sz (R.set j (.int .i64 ((cw s).1 : Int)))] := cF s.l s.rb s.cb sz R j (by omega) (by omega) (by omega)
 generalize cw s = q1 at h1 g1 ⊢
 obtain ⟨v1, s1⟩ := q1
 dsimp only at h1 g1 ⊢
 obtain ⟨R1, e1⟩ : ∃ R1, R1 = R.set j (.int .i64 (v1 : Int)) := ⟨_, rfl⟩
 rw [← e1] at h1
 have z1 : R1.length = sz := by rw [e1, List.length_set]; exact z0
 have k1 : ∀ x, j + 1 ≤ x → R1[x]? = R[x]? := fun x hx => by rw [e1, List.getElem?_set_ne (by omega)] <;> exact k0 x (by omega)
 have g2 := cG s1
 have h2 : az Try.prog 39 [.ptr 0 0 0 1, .ptr 2 0 (j + 1) 1] [Cr 1 s1.cb, Rd s1.l s1.rb, Va sz R1] (.tup []) [Cr 1 (cw s1).2.cb, Rd (cw s1).2.l (cw s1).2.rb, Va sz (R1.set (j + 1) (.int .i64 ((cw s1).1 : Int)))] := cF s1.l s1.rb s1.cb sz R1 (j + 1) (by omega) (by omega) (by omega)
 generalize cw s1 = q2 at h2 g2 ⊢
 obtain ⟨v2, s2⟩ := q2
 dsimp only at h2 g2 ⊢
 obtain ⟨R2, e2⟩ : ∃ R2, R2 = R1.set (j + 1) (.int .i64 (v2 : Int)) := ⟨_, rfl⟩
 rw [← e2] at h2
 have z2 : R2.length = sz := by rw [e2, List.length_set]; exact z1
 have k2 : ∀ x, j + 2 ≤ x → R2[x]? = R[x]? := fun x hx => by rw [e2, List.getElem?_set_ne (by omega)] <;> exact k1 x (by omega)
 have g3 := (aH 10080 (by omega) s2).1
 have h3 : az Try.prog 32 [.ptr 0 0 0 1, .ptr 2 0 (j + 2) 1, .int .u64 10080] [Cr 1 s2.cb, Rd s2.l s2.rb, Va sz R2] (.tup []) [Cr 1 (aA 10080 s2).2.cb, Rd (aA 10080 s2).2.l (aA 10080 s2).2.rb, Va sz (R2.set (j + 2) (.int .i64 (((aA 10080 s2).1 : Nat) : Int)))] := bJ s2.l s2.rb s2.cb sz R2 (j + 2) 10080 (by omega) (by omega) (by omega) (by omega)
 generalize aA 10080 s2 = q3 at h3 g3 ⊢
 obtain ⟨v3, s3⟩ := q3
 dsimp only at h3 g3 ⊢
 obtain ⟨R3, e3⟩ : ∃ R3, R3 = R2.set (j + 2) (.int .i64 ((v3 : Nat) : Int)) := ⟨_, rfl⟩
 rw [← e3] at h3
 have z3 : R3.length = sz := by rw [e3, List.length_set]; exact z2
 have k3 : ∀ x, j + 3 ≤ x → R3[x]? = R[x]? := fun x hx => by rw [e3, List.getElem?_set_ne (by omega)] <;> exact k2 x (by omega)
 have g4 := (aH 1440 (by omega) s3).1
 have h4 : az Try.prog 32 [.ptr 0 0 0 1, .ptr 2 0 (j + 3) 1, .int .u64 1440] [Cr 1 s3.cb, Rd s3.l s3.rb, Va sz R3] (.tup []) [Cr 1 (aA 1440 s3).2.cb, Rd (aA 1440 s3).2.l (aA 1440 s3).2.rb, Va sz (R3.set (j + 3) (.int .i64 (((aA 1440 s3).1 : Nat) : Int)))] := bJ s3.l s3.rb s3.cb sz R3 (j + 3) 1440 (by omega) (by omega) (by omega) (by omega)
 generalize aA 1440 s3 = q4 at h4 g4 ⊢
 obtain ⟨v4, s4⟩ := q4
 dsimp only at h4 g4 ⊢
 obtain ⟨R4, e4⟩ : ∃ R4, R4 = R3.set (j + 3) (.int .i64 ((v4 : Nat) : Int)) := ⟨_, rfl⟩
 rw [← e4] at h4
 have z4 : R4.length = sz := by rw [e4, List.length_set]; exact z3
 have k4 : ∀ x, j + 4 ≤ x → R4[x]? = R[x]? := fun x hx => by rw [e4, List.getElem?_set_ne (by omega)] <;> exact k3 x (by omega)
 have g5 := bU pf 64 (by omega) s4
 have h5 : az Try.prog 71 [.ptr 0 0 0 1, .ptr 2 0 (j + 4) 1, .int .i64 64, .fn 72 [.ptr 3 0 0 1]] [Cr 1 s4.cb, Rd s4.l s4.rb, Va sz R4, Bx 0] (.tup []) [Cr 1 (aM jx 64 s4).2.cb, Rd (aM jx 64 s4).2.l (aM jx 64 s4).2.rb, Va sz (R4.set (j + 4) (L (aI .u32 (aM jx 64 s4).1))), Bx 0] := ul s4 sz R4 (j + 4) 64 (by rw [k4 _ (by omega)]; exact hN4) (by omega) (by omega) (by omega)
 generalize aM jx 64 s4 = q5 at h5 g5 ⊢
 obtain ⟨v5, s5⟩ := q5
 dsimp only at h5 g5 ⊢
 obtain ⟨R5, e5⟩ : ∃ R5, R5 = R4.set (j + 4) (L (aI .u32 v5)) := ⟨_, rfl⟩
 rw [← e5] at h5
 have z5 : R5.length = sz := by rw [e5, List.length_set]; exact z4
 have k5 : ∀ x, j + 5 ≤ x → R5[x]? = R[x]? := fun x hx => by rw [e5, List.getElem?_set_ne (by omega)] <;> exact k4 x (by omega)
 have g6 := bU oU 16 (by omega) s5
 have h6 : az Try.prog 73 [.ptr 0 0 0 1, .ptr 2 0 (j + 5) 1, .int .i64 16, .fn 74 [.ptr 3 0 0 1]] [Cr 1 s5.cb, Rd s5.l s5.rb, Va sz R5, Bx 0] (.tup []) [Cr 1 (aM jr 16 s5).2.cb, Rd (aM jr 16 s5).2.l (aM jr 16 s5).2.rb, Va sz (R5.set (j + 5) (L (aS .u32 .i64 (aM jr 16 s5).1))), Bx 0] := uG s5 sz R5 (j + 5) 16 (by rw [k5 _ (by omega)]; exact hN5) (by omega) (by omega) (by omega)
 generalize aM jr 16 s5 = q6 at h6 g6 ⊢
 obtain ⟨v6, s6⟩ := q6
 dsimp only at h6 g6 ⊢
 obtain ⟨R6, e6⟩ : ∃ R6, R6 = R5.set (j + 5) (L (aS .u32 .i64 v6)) := ⟨_, rfl⟩
 rw [← e6] at h6
 have z6 : R6.length = sz := by rw [e6, List.length_set]; exact z5
 have k6 : ∀ x, j + 6 ≤ x → R6[x]? = R[x]? := fun x hx => by rw [e6, List.getElem?_set_ne (by omega)] <;> exact k5 x (by omega)
 have g7 := (aH 100 (by omega) s6).1
 have h7 : az Try.prog 32 [.ptr 0 0 0 1, .ptr 2 0 (j + 6) 1, .int .u64 100] [Cr 1 s6.cb, Rd s6.l s6.rb, Va sz R6] (.tup []) [Cr 1 (aA 100 s6).2.cb, Rd (aA 100 s6).2.l (aA 100 s6).2.rb, Va sz (R6.set (j + 6) (.int .i64 (((aA 100 s6).1 : Nat) : Int)))] := bJ s6.l s6.rb s6.cb sz R6 (j + 6) 100 (by omega) (by omega) (by omega) (by omega)
 generalize aA 100 s6 = q7 at h7 g7 ⊢
 obtain ⟨v7, s7⟩ := q7
 dsimp only at h7 g7 ⊢
 obtain ⟨R7, e7⟩ : ∃ R7, R7 = R6.set (j + 6) (.int .i64 ((v7 : Nat) : Int)) := ⟨_, rfl⟩
 rw [← e7] at h7
 have z7 : R7.length = sz := by rw [e7, List.length_set]; exact z6
 have k7 : ∀ x, j + 7 ≤ x → R7[x]? = R[x]? := fun x hx => by rw [e7, List.getElem?_set_ne (by omega)] <;> exact k6 x (by omega)
 have g8 := bU o4 32 (by omega) s7
 have h8 : az Try.prog 75 [.ptr 0 0 0 1, .ptr 2 0 (j + 7) 1, .int .i64 32, .fn 76 [.ptr 3 0 0 1]] [Cr 1 s7.cb, Rd s7.l s7.rb, Va sz R7, Bx 0] (.tup []) [Cr 1 (aM jl 32 s7).2.cb, Rd (aM jl 32 s7).2.l (aM jl 32 s7).2.rb, Va sz (R7.set (j + 7) (L (aS .u32 .u32 (aM jl 32 s7).1))), Bx 0] := uR s7 sz R7 (j + 7) 32 (by rw [k7 _ (by omega)]; exact hN7) (by omega) (by omega) (by omega)
 generalize aM jl 32 s7 = q8 at h8 g8 ⊢
 obtain ⟨v8, s8⟩ := q8
 dsimp only at h8 g8 ⊢
 obtain ⟨R8, e8⟩ : ∃ R8, R8 = R7.set (j + 7) (L (aS .u32 .u32 v8)) := ⟨_, rfl⟩
 rw [← e8] at h8
 have z8 : R8.length = sz := by rw [e8, List.length_set]; exact z7
 have k8 : ∀ x, j + 8 ≤ x → R8[x]? = R[x]? := fun x hx => by rw [e8, List.getElem?_set_ne (by omega)] <;> exact k7 x (by omega)
 have g9 := mR 8 (by omega) s8
 have h9 : az Try.prog 62 [.ptr 0 0 0 1, .ptr 2 0 (j + 8) 1, .int .i64 8] [Cr 1 s8.cb, Rd s8.l s8.rb, Va sz R8] (.tup []) [Cr 1 (iA 8 s8).2.cb, Rd (iA 8 s8).2.l (iA 8 s8).2.rb, Va sz (cQ R8 (j + 8) [L (bh (iA 8 s8).1)])] := we s8 sz R8 (j + 8) 8 (by rw [k8 _ (by omega)]; exact hN8) (by omega) (by omega) (by omega) (by omega)
 generalize iA 8 s8 = q9 at h9 g9 ⊢
 obtain ⟨v9, s9⟩ := q9
 dsimp only at h9 g9 ⊢
 obtain ⟨R9, e9⟩ : ∃ R9, R9 = cQ R8 (j + 8) [L (bh v9)] := ⟨_, rfl⟩
 rw [← e9] at h9
 have z9 : R9.length = sz := by rw [e9, c0]; exact z8
 have k9 : ∀ x, j + 9 ≤ x → R9[x]? = R[x]? := fun x hx => by rw [e9, dR _ _ _ _ (by simp only [List.length_cons, List.length_nil]; omega)] <;> exact k8 x (by omega)
 have eR : cQ R j [.int .i64 (⟨v1, v2, v3, v4, v5, v6, v7, v8, v9⟩ : Qu).a, .int .i64 (⟨v1, v2, v3, v4, v5, v6, v7, v8, v9⟩ : Qu).b, .int .i64 (⟨v1, v2, v3, v4, v5, v6, v7, v8, v9⟩ : Qu).long, .int .i64 (⟨v1, v2, v3, v4, v5, v6, v7, v8, v9⟩ : Qu).grid, L (aI .u32 (⟨v1, v2, v3, v4, v5, v6, v7, v8, v9⟩ : Qu).must), L (aS .u32 .i64 (⟨v1, v2, v3, v4, v5, v6, v7, v8, v9⟩ : Qu).may), .int .i64 (⟨v1, v2, v3, v4, v5, v6, v7, v8, v9⟩ : Qu).seats, L (aS .u32 .u32 (⟨v1, v2, v3, v4, v5, v6, v7, v8, v9⟩ : Qu).apart), L (bh (⟨v1, v2, v3, v4, v5, v6, v7, v8, v9⟩ : Qu).prefer)] = R9 := by rw [e9, e8, e7, e6, e5, e4, e3, e2, e1] <;> rfl
 rw [eR]
 clear eR e1 e2 e3 e4 e5 e6 e7 e8 e9 k0 k1 k2 k3 k4 k5 k6 k7 k8 k9 z1 z2 z3 z4 z5 z6 z7 z8 z9
 repeat' ((first | apply ai | apply al | apply aj | apply ak mixed | apply ap mixed | (with_reducible first | refine af ?_ | refine aD (f := .c (.fn 39 [])) ?_ | refine aD (f := .c (.fn 32 [])) ?_ | refine aP (f := .c (.fn 71 [])) (z := []) (q := [0, 1, 2, 3]) ?_ | refine aL (f := .c (.fn 71 [])) (z := []) (q := [0, 1, 2, 3]) ?_ | refine aP (f := .c (.fn 73 [])) (z := []) (q := [0, 1, 2, 3]) ?_ | refine aL (f := .c (.fn 73 [])) (z := []) (q := [0, 1, 2, 3]) ?_ | refine aP (f := .c (.fn 75 [])) (z := []) (q := [0, 1, 2, 3]) ?_ | refine aL (f := .c (.fn 75 [])) (z := []) (q := [0, 1, 2, 3]) ?_ | refine aD (f := .c (.fn 62 [])) ?_ | refine aC ?_ | refine ab (h1) (by simp) ?_ | refine ab (h2) (by simp) ?_ | refine ab (h3) (by simp) ?_ | refine ab (h4) (by simp) ?_ | refine ab (h5) (by simp) ?_ | refine ab (h6) (by simp) ?_ | refine ab (h7) (by simp) ?_ | refine ab (h8) (by simp) ?_ | refine ab (h9) (by simp) ?_) | (with_reducible refine ⟨?_, ?_⟩; (focus ((repeat' with_reducible refine ⟨?_, ?_⟩) <;> first | exact trivial | assumption | (simp; done) | (simp only [List.length_map] at *; omega) | omega | (simp [fs]; done) | exact ay))) | (with_reducible intro x hx) | omega) <;> (try simp only [Nat.reduceBEq, reduceIte, Nat.reduceEqDiff, Nat.reduceAdd, Nat.reduceSub, Nat.reduceLT, reduceCtorEq, ne_eq, fw, fd]))
 refine aw [0, 1, 2] (by rfl) (by simp) (by simp [fg])
end Go.Proofs.Ytgefljdclekadaa

namespace Go.Proofs.Ytgefljdclekadaa
open Go Go.Vi
abbrev Ru0 : Ru := ⟨0, 0, 0, 0, [], [], [], [], 0⟩
def evR (R : List D) (j : Nat) (e : Ev) : List D := if e.again = true then cQ (((R.set j (.int .i64 e.start)).set (j + 1) (.int .i64 e.long)).set (j + 3) (.bool true)) (j + 4) [.int .i64 e.rule.freq, .int .i64 e.rule.interval, .int .i64 e.rule.count, .int .i64 e.rule.til, L (aI .i64 e.rule.bm), L (aI .i64 e.rule.bmd), L (aS .i64 .i64 e.rule.bd), L (aI .i64 e.rule.bsp), .int .i64 e.rule.start, L (aI .i64 e.ex), L (aI .i64 e.plus), L (bh e.ch)] else (((R.set j (.int .i64 e.start)).set (j + 1) (.int .i64 e.long)).set (j + 3) (.bool false)).set (j + 2) (.bool e.world)
def kT (v1 : Int) (v2 : Nat) (s3 : Rs) : Ev × Rs :=
 match fM s3 with
 | (v4, s4) =>
 match aM iX 50 s4 with
 | (v5, s5) =>
 match aM i5 50 s5 with
 | (v6, s6) =>
 match aM jd 50 s6 with
 | (v7, s7) =>
  (⟨v1, v2, false, true, v4, v5, v6, v7⟩, s7)
def kS (v1 : Int) (v2 : Nat) (s3 : Rs) : Ev × Rs :=
 match gS s3 with
 | (v4, s4) =>
  (⟨v1, v2, v4, false, Ru0, [], [], []⟩, s4)
def ir (s : Rs) : Ev × Rs :=
 match cw s with
 | (v1, s1) =>
 match aA 10080 s1 with
 | (v2, s2) =>
 match gS s2 with
 | (v3, s3) =>
 if v3 = true then kT v1 v2 s3 else kS v1 v2 s3
theorem wP (s : Rs) : (ir s).2.l.length ≤ s.l.length := by
 unfold ir
 have g1 := cG s
 generalize cw s = q1 at g1 ⊢
 obtain ⟨v1, s1⟩ := q1
 dsimp only at g1 ⊢
 have g2 := (aH 10080 (by omega) s1).1
 generalize aA 10080 s1 = q2 at g2 ⊢
 obtain ⟨v2, s2⟩ := q2
 dsimp only at g2 ⊢
 have g3 := jY s2
 generalize gS s2 = q3 at g3 ⊢
 obtain ⟨v3, s3⟩ := q3
 dsimp only at g3 ⊢
 split
 ·unfold kT
  have g4 := tq s3
  generalize fM s3 = q4 at g4 ⊢
  obtain ⟨v4, s4⟩ := q4
  dsimp only at g4 ⊢
  have g5 := bU pj 50 (by omega) s4
  generalize aM iX 50 s4 = q5 at g5 ⊢
  obtain ⟨v5, s5⟩ := q5
  dsimp only at g5 ⊢
  have g6 := bU o5 50 (by omega) s5
  generalize aM i5 50 s5 = q6 at g6 ⊢
  obtain ⟨v6, s6⟩ := q6
  dsimp only at g6 ⊢
  have g7 := bU oW 50 (by omega) s6
  generalize aM jd 50 s6 = q7 at g7 ⊢
  obtain ⟨v7, s7⟩ := q7
  dsimp only at g7 ⊢
  omega
 ·unfold kS
  have g4 := jY s3
  generalize gS s3 = q4 at g4 ⊢
  obtain ⟨v4, s4⟩ := q4
  dsimp only at g4 ⊢
  omega
set_option maxHeartbeats 8000000 in
theorem cEv_r (s : Rs) (sz : Nat) (R : List D) (j : Nat) (hN8 : R[j + 8]? = some (.list (some true) true [])) (hN9 : R[j + 9]? = some (.list (some true) true [])) (hN10 : R[j + 10]? = some (.list (some true) true [])) (hN11 : R[j + 11]? = some (.list (some true) true [])) (hN13 : R[j + 13]? = some (.list (some true) true [])) (hN14 : R[j + 14]? = some (.list (some true) true [])) (hN15 : R[j + 15]? = some (.list (some true) true [])) (hz : R.length = sz) (hj : j + 16 ≤ sz) (hl : s.l.length ≤ 1099511627776) :
  az Try.prog 36 [.ptr 0 0 0 1, .ptr 2 0 j 1] [Cr 1 s.cb, Rd s.l s.rb, Va sz R] (.tup [])
   [Cr 1 (ir s).2.cb, Rd (ir s).2.l (ir s).2.rb, Va sz (evR R j (ir s).1)] := by
 refine aK Try.func36 low36 (by simp [c36]) ?_
 simp only [c36]
 unfold ir
 have z0 := hz
 have k0 : ∀ x, j + 0 ≤ x → R[x]? = R[x]? := fun _ _ => rfl
 have g1 := cG s
 have h1 : az Try.prog 39 [.ptr 0 0 0 1, .ptr 2 0 j 1] [Cr 1 s.cb, Rd s.l s.rb, Va sz R] (.tup []) [Cr 1 (cw s).2.cb, Rd (cw s).2.l (cw s).2.rb, Va sz (R.set j (.int .i64 ((cw s).1 : Int)))] := cF s.l s.rb s.cb sz R j (by omega) (by omega) (by omega)
 generalize cw s = q1 at h1 g1 ⊢
 obtain ⟨v1, s1⟩ := q1
 dsimp only at h1 g1 ⊢
 obtain ⟨R1, e1⟩ : ∃ R1, R1 = R.set j (.int .i64 (v1 : Int)) := ⟨_, rfl⟩
 rw [← e1] at h1
 have z1 : R1.length = sz := by rw [e1, List.length_set]; exact z0
 have k1 : ∀ x, j + 1 ≤ x → R1[x]? = R[x]? := fun x hx => by rw [e1, List.getElem?_set_ne (by omega)] <;> exact k0 x (by omega)
 have g2 := (aH 10080 (by omega) s1).1
 have h2 : az Try.prog 32 [.ptr 0 0 0 1, .ptr 2 0 (j + 1) 1, .int .u64 10080] [Cr 1 s1.cb, Rd s1.l s1.rb, Va sz R1] (.tup []) [Cr 1 (aA 10080 s1).2.cb, Rd (aA 10080 s1).2.l (aA 10080 s1).2.rb, Va sz (R1.set (j + 1) (.int .i64 (((aA 10080 s1).1 : Nat) : Int)))] := bJ s1.l s1.rb s1.cb sz R1 (j + 1) 10080 (by omega) (by omega) (by omega) (by omega)
 generalize aA 10080 s1 = q2 at h2 g2 ⊢
 obtain ⟨v2, s2⟩ := q2
 dsimp only at h2 g2 ⊢
 obtain ⟨R2, e2⟩ : ∃ R2, R2 = R1.set (j + 1) (.int .i64 ((v2 : Nat) : Int)) := ⟨_, rfl⟩
 rw [← e2] at h2
 have z2 : R2.length = sz := by rw [e2, List.length_set]; exact z1
 have k2 : ∀ x, j + 2 ≤ x → R2[x]? = R[x]? := fun x hx => by rw [e2, List.getElem?_set_ne (by omega)] <;> exact k1 x (by omega)
 have g3 := jY s2
 have h3 : az Try.prog 40 [.ptr 0 0 0 1, .ptr 2 0 (j + 3) 1] [Cr 1 s2.cb, Rd s2.l s2.rb, Va sz R2] (.tup []) [Cr 1 (gS s2).2.cb, Rd (gS s2).2.l (gS s2).2.rb, Va sz (R2.set (j + 3) (.bool (gS s2).1))] := oV s2.l s2.rb s2.cb sz R2 (j + 3) (by omega) (by omega) (by omega)
 generalize gS s2 = q3 at h3 g3 ⊢
 obtain ⟨v3, s3⟩ := q3
 dsimp only at h3 g3 ⊢
 obtain ⟨R3, e3⟩ : ∃ R3, R3 = R2.set (j + 3) (.bool v3) := ⟨_, rfl⟩
 rw [← e3] at h3
 have z3 : R3.length = sz := by rw [e3, List.length_set]; exact z2
 have k3 : ∀ x, j + 4 ≤ x → R3[x]? = R[x]? := fun x hx => by rw [e3, List.getElem?_set_ne (by omega)] <;> exact k2 x (by omega)
 have hA : R3[j + 3]? = some (.bool v3) := by rw [e3, List.getElem?_set_self (by rw [z2]; omega)]
 cases v3
 ·simp only [Bool.false_eq_true, reduceIte]
  unfold kS
  have g4 := jY s3
  have h4 : az Try.prog 40 [.ptr 0 0 0 1, .ptr 2 0 (j + 2) 1] [Cr 1 s3.cb, Rd s3.l s3.rb, Va sz R3] (.tup []) [Cr 1 (gS s3).2.cb, Rd (gS s3).2.l (gS s3).2.rb, Va sz (R3.set (j + 2) (.bool (gS s3).1))] := oV s3.l s3.rb s3.cb sz R3 (j + 2) (by omega) (by omega) (by omega)
  generalize gS s3 = q4 at h4 g4 ⊢
  obtain ⟨v4, s4⟩ := q4
  dsimp only at h4 g4 ⊢
  obtain ⟨R4, e4⟩ : ∃ R4, R4 = R3.set (j + 2) (.bool v4) := ⟨_, rfl⟩
  rw [← e4] at h4
  have z4 : R4.length = sz := by rw [e4, List.length_set]; exact z3
  have eR : evR R j ⟨v1, v2, v4, false, Ru0, [], [], []⟩ = R4 := by rw [e4, e3, e2, e1] <;> rfl
  rw [eR]
  clear eR e1 e2 e3 e4 k0 k1 k2 k3 z1 z2 z3 z4
  repeat' ((first | apply ai | apply ah | apply al | apply aj | apply ae | apply ak mixed | apply ap mixed | (with_reducible first | refine af ?_ | refine aD (f := .c (.fn 39 [])) ?_ | refine aD (f := .c (.fn 32 [])) ?_ | refine aD (f := .c (.fn 40 [])) ?_ | refine aC ?_ | refine ab (h1) (by simp) ?_ | refine ab (h2) (by simp) ?_ | refine ab (h3) (by simp) ?_ | refine ab (h4) (by simp) ?_) | (refine aa ?_ ?_ <;> intro hc <;> (try simp only [hc]) <;> try simp at hc) | (with_reducible refine ⟨?_, ?_⟩; (focus ((repeat' with_reducible refine ⟨?_, ?_⟩) <;> first | exact trivial | assumption | (simp; done) | (simp only [List.length_map] at *; omega) | omega | (simp [fs]; done)))) | (with_reducible intro x hx) | omega) <;> (try simp only [hA, Nat.reduceBEq, reduceIte, Nat.reduceEqDiff, Nat.reduceAdd, Nat.reduceSub, Nat.reduceLT, reduceCtorEq, ne_eq, fw, fd]))
  refine aw [0, 1, 2] (by rfl) (by simp) (by simp [fg])
 ·simp only [reduceIte]
  unfold kT
  have g4 := tq s3
  have h4 : az Try.prog 65 [.ptr 0 0 0 1, .ptr 2 0 (j + 4) 1] [Cr 1 s3.cb, Rd s3.l s3.rb, Va sz R3] (.tup []) [Cr 1 (fM s3).2.cb, Rd (fM s3).2.l (fM s3).2.rb, Va sz (cQ R3 (j + 4) [.int .i64 (fM s3).1.freq, .int .i64 (fM s3).1.interval, .int .i64 (fM s3).1.count, .int .i64 (fM s3).1.til, L (aI .i64 (fM s3).1.bm), L (aI .i64 (fM s3).1.bmd), L (aS .i64 .i64 (fM s3).1.bd), L (aI .i64 (fM s3).1.bsp), .int .i64 (fM s3).1.start])] := cRu_r s3 sz R3 (j + 4) (by rw [k3 _ (by omega)]; exact hN8) (by rw [k3 _ (by omega)]; exact hN9) (by rw [k3 _ (by omega)]; exact hN10) (by rw [k3 _ (by omega)]; exact hN11) (by omega) (by omega) (by omega)
  generalize fM s3 = q4 at h4 g4 ⊢
  obtain ⟨v4, s4⟩ := q4
  dsimp only at h4 g4 ⊢
  obtain ⟨R4, e4⟩ : ∃ R4, R4 = cQ R3 (j + 4) [.int .i64 v4.freq, .int .i64 v4.interval, .int .i64 v4.count, .int .i64 v4.til, L (aI .i64 v4.bm), L (aI .i64 v4.bmd), L (aS .i64 .i64 v4.bd), L (aI .i64 v4.bsp), .int .i64 v4.start] := ⟨_, rfl⟩
  rw [← e4] at h4
  have z4 : R4.length = sz := by rw [e4, c0]; exact z3
  have k4 : ∀ x, j + 13 ≤ x → R4[x]? = R[x]? := fun x hx => by rw [e4, dR _ _ _ _ (by simp only [List.length_cons, List.length_nil]; omega)] <;> exact k3 x (by omega)
  have g5 := bU pj 50 (by omega) s4
  have h5 : az Try.prog 66 [.ptr 0 0 0 1, .ptr 2 0 (j + 13) 1, .int .i64 50, .fn 67 [.ptr 3 0 0 1]] [Cr 1 s4.cb, Rd s4.l s4.rb, Va sz R4, Bx 0] (.tup []) [Cr 1 (aM iX 50 s4).2.cb, Rd (aM iX 50 s4).2.l (aM iX 50 s4).2.rb, Va sz (R4.set (j + 13) (L (aI .i64 (aM iX 50 s4).1))), Bx 0] := ud s4 sz R4 (j + 13) 50 (by rw [k4 _ (by omega)]; exact hN13) (by omega) (by omega) (by omega)
  generalize aM iX 50 s4 = q5 at h5 g5 ⊢
  obtain ⟨v5, s5⟩ := q5
  dsimp only at h5 g5 ⊢
  obtain ⟨R5, e5⟩ : ∃ R5, R5 = R4.set (j + 13) (L (aI .i64 v5)) := ⟨_, rfl⟩
  rw [← e5] at h5
  have z5 : R5.length = sz := by rw [e5, List.length_set]; exact z4
  have k5 : ∀ x, j + 14 ≤ x → R5[x]? = R[x]? := fun x hx => by rw [e5, List.getElem?_set_ne (by omega)] <;> exact k4 x (by omega)
  have g6 := bU o5 50 (by omega) s5
  have h6 : az Try.prog 66 [.ptr 0 0 0 1, .ptr 2 0 (j + 14) 1, .int .i64 50, .fn 68 [.ptr 3 0 0 1]] [Cr 1 s5.cb, Rd s5.l s5.rb, Va sz R5, Bx 0] (.tup []) [Cr 1 (aM i5 50 s5).2.cb, Rd (aM i5 50 s5).2.l (aM i5 50 s5).2.rb, Va sz (R5.set (j + 14) (L (aI .i64 (aM i5 50 s5).1))), Bx 0] := uL s5 sz R5 (j + 14) 50 (by rw [k5 _ (by omega)]; exact hN14) (by omega) (by omega) (by omega)
  generalize aM i5 50 s5 = q6 at h6 g6 ⊢
  obtain ⟨v6, s6⟩ := q6
  dsimp only at h6 g6 ⊢
  obtain ⟨R6, e6⟩ : ∃ R6, R6 = R5.set (j + 14) (L (aI .i64 v6)) := ⟨_, rfl⟩
  rw [← e6] at h6
  have z6 : R6.length = sz := by rw [e6, List.length_set]; exact z5
  have k6 : ∀ x, j + 15 ≤ x → R6[x]? = R[x]? := fun x hx => by rw [e6, List.getElem?_set_ne (by omega)] <;> exact k5 x (by omega)
  have g7 := bU oW 50 (by omega) s6
  have h7 : az Try.prog 69 [.ptr 0 0 0 1, .ptr 2 0 (j + 15) 1, .int .i64 50, .fn 70 [.ptr 3 0 0 1]] [Cr 1 s6.cb, Rd s6.l s6.rb, Va sz R6, Bx 0] (.tup []) [Cr 1 (aM jd 50 s6).2.cb, Rd (aM jd 50 s6).2.l (aM jd 50 s6).2.rb, Va sz (R6.set (j + 15) (L (bh (aM jd 50 s6).1))), Bx 0] := vc s6 sz R6 (j + 15) 50 (by rw [k6 _ (by omega)]; exact hN15) (by omega) (by omega) (by omega)
  generalize aM jd 50 s6 = q7 at h7 g7 ⊢
  obtain ⟨v7, s7⟩ := q7
  dsimp only at h7 g7 ⊢
  obtain ⟨R7, e7⟩ : ∃ R7, R7 = R6.set (j + 15) (L (bh v7)) := ⟨_, rfl⟩
  rw [← e7] at h7
  have z7 : R7.length = sz := by rw [e7, List.length_set]; exact z6
  have k7 : ∀ x, j + 16 ≤ x → R7[x]? = R[x]? := fun x hx => by rw [e7, List.getElem?_set_ne (by omega)] <;> exact k6 x (by omega)
  have eR : evR R j ⟨v1, v2, false, true, v4, v5, v6, v7⟩ = R7 := by rw [e7, e6, e5, e4, e3, e2, e1] <;> rfl
  rw [eR]
  clear eR e1 e2 e3 e4 e5 e6 e7 k0 k1 k2 k3 k4 k5 k6 k7 z1 z2 z3 z4 z5 z6 z7
  repeat' ((first | apply ai | apply ah | apply al | apply aj | apply ae | apply ak mixed | apply ap mixed | (with_reducible first | refine af ?_ | refine aD (f := .c (.fn 39 [])) ?_ | refine aD (f := .c (.fn 32 [])) ?_ | refine aD (f := .c (.fn 40 [])) ?_ | refine aD (f := .c (.fn 65 [])) ?_ | refine aP (f := .c (.fn 66 [])) (z := []) (q := [0, 1, 2, 3]) ?_ | refine aL (f := .c (.fn 66 [])) (z := []) (q := [0, 1, 2, 3]) ?_ | refine aP (f := .c (.fn 69 [])) (z := []) (q := [0, 1, 2, 3]) ?_ | refine aL (f := .c (.fn 69 [])) (z := []) (q := [0, 1, 2, 3]) ?_ | refine aC ?_ | refine ab (h1) (by simp) ?_ | refine ab (h2) (by simp) ?_ | refine ab (h3) (by simp) ?_ | refine ab (h4) (by simp) ?_ | refine ab (h5) (by simp) ?_ | refine ab (h6) (by simp) ?_ | refine ab (h7) (by simp) ?_) | (refine aa ?_ ?_ <;> intro hc <;> (try simp only [hc]) <;> try simp at hc) | (with_reducible refine ⟨?_, ?_⟩; (focus ((repeat' with_reducible refine ⟨?_, ?_⟩) <;> first | exact trivial | assumption | (simp; done) | (simp only [List.length_map] at *; omega) | omega | (simp [fs]; done)))) | (with_reducible intro x hx) | omega) <;> (try simp only [hA, Nat.reduceBEq, reduceIte, Nat.reduceEqDiff, Nat.reduceAdd, Nat.reduceSub, Nat.reduceLT, reduceCtorEq, ne_eq, fw, fd]))
  refine aw [0, 1, 2] (by rfl) (by simp) (by simp [fg])
end Go.Proofs.Ytgefljdclekadaa

namespace Go.Proofs.Ytgefljdclekadaa
open Go Go.Vi
structure As where
 kind : Int
 caller : Int
 number : Int
 user : Int
 id : Int
 se : Se
 ev : Ev
 qu : Qu
 cursor : ByteArray
 count : Int
 poll : Int
 slot : Int
 yes : Bool
 til : Int
def As.cells (a : As) : List D := [.int .i64 a.kind, .int .u32 a.caller, .int .u64 a.number, .int .u32 a.user, .int .u32 a.id, .int .i64 a.se.base, L (aS .i64 .i64 a.se.turns), L (bh a.se.shifts), L (aI .i64 a.se.off), .int .i64 a.se.before, .int .i64 a.se.after, .int .i64 a.ev.start, .int .i64 a.ev.long, .bool a.ev.world, .bool a.ev.again, .int .i64 a.ev.rule.freq, .int .i64 a.ev.rule.interval, .int .i64 a.ev.rule.count, .int .i64 a.ev.rule.til, L (aI .i64 a.ev.rule.bm), L (aI .i64 a.ev.rule.bmd), L (aS .i64 .i64 a.ev.rule.bd), L (aI .i64 a.ev.rule.bsp), .int .i64 a.ev.rule.start, L (aI .i64 a.ev.ex), L (aI .i64 a.ev.plus), L (bh a.ev.ch), .int .i64 a.qu.a, .int .i64 a.qu.b, .int .i64 a.qu.long, .int .i64 a.qu.grid, L (aI .u32 a.qu.must), L (aS .u32 .i64 a.qu.may), .int .i64 a.qu.seats, L (aS .u32 .u32 a.qu.apart), L (bh a.qu.prefer), .str a.cursor, .int .i64 a.count, .int .u32 a.poll, .int .i64 a.slot, .bool a.yes, .int .i64 a.til]
theorem cEv_w (l : List UInt8) (bad : Bool) (sz : Nat) (R : List D) (j : Nat) (e : Ev) (hR0 : R[j]? = some (.int .i64 e.start)) (hR1 : R[j + 1]? = some (.int .i64 e.long)) (hR2 : R[j + 2]? = some (.bool e.world)) (hR3 : R[j + 3]? = some (.bool e.again)) (hR4 : R[j + 4]? = some (.int .i64 e.rule.freq)) (hR5 : R[j + 5]? = some (.int .i64 e.rule.interval)) (hR6 : R[j + 6]? = some (.int .i64 e.rule.count)) (hR7 : R[j + 7]? = some (.int .i64 e.rule.til)) (hR8 : R[j + 8]? = some (L (aI .i64 e.rule.bm))) (hR9 : R[j + 9]? = some (L (aI .i64 e.rule.bmd))) (hR10 : R[j + 10]? = some (L (aS .i64 .i64 e.rule.bd))) (hR11 : R[j + 11]? = some (L (aI .i64 e.rule.bsp))) (hR12 : R[j + 12]? = some (.int .i64 e.rule.start)) (hR13 : R[j + 13]? = some (L (aI .i64 e.ex))) (hR14 : R[j + 14]? = some (L (aI .i64 e.plus))) (hR15 : R[j + 15]? = some (L (bh e.ch))) (hf : yn e) (hl : (l ++ sE e).length ≤ 1099511627776) :
  az Try.prog 36 [.ptr 0 0 0 1, .ptr 3 0 j 1] [Cw 1 bad, Ww 2 l.length, aU true 1 true (r8 l), Va sz R] (.tup [])
   [Cw 1 (bad || yr e), Ww 2 (l ++ sE e).length, aU true 1 true (r8 (l ++ sE e)), Va sz R] := by
 unfold sE yr
 unfold sE at hl
 cases ha : e.again
 ·rw [if_neg (by rw [ha]; simp)] at hl
  rw [if_neg (by simp), if_neg (by simp)]
  exact cE0_w l bad sz R j e ha hR0 hR1 hR2 hR3 hf.1 hl
 ·rw [if_pos ha] at hl
  rw [if_pos rfl, if_pos rfl]
  exact cE1_w l bad sz R j e ha hR0 hR1 hR3 hR4 hR5 hR6 hR7 hR8 hR9 hR10 hR11 hR12 hR13 hR14 hR15 hf.2 hl
def tX (a : As) : List UInt8 := aX (uI a.kind) ++ (aX (uI a.caller) ++ (aX (uI a.number) ++ (tC a.se)))
def yB (a : As) : Bool := decide (11 < uI a.kind) || (xb a.se)
def fA1 (a : As) : Prop := cR a.kind ∧ ((0 ≤ a.caller ∧ a.caller ≤ 4294967295) ∧ ((0 ≤ a.number ∧ a.number ≤ 18446744073709551615) ∧ (vN a.se)))
set_option maxHeartbeats 2000000 in
theorem cA1_w (l : List UInt8) (bad : Bool) (sz : Nat) (R : List D) (j : Nat) (a : As) (hk : a.kind = 1) (hR0 : R[j]? = some (.int .i64 a.kind)) (hR1 : R[j + 1]? = some (.int .u32 a.caller)) (hR2 : R[j + 2]? = some (.int .u64 a.number)) (hR5 : R[j + 5]? = some (.int .i64 a.se.base)) (hR6 : R[j + 6]? = some (L (aS .i64 .i64 a.se.turns))) (hR7 : R[j + 7]? = some (L (bh a.se.shifts))) (hR8 : R[j + 8]? = some (L (aI .i64 a.se.off))) (hR9 : R[j + 9]? = some (.int .i64 a.se.before)) (hR10 : R[j + 10]? = some (.int .i64 a.se.after)) (hf : fA1 a) (hl : (l ++ tX a).length ≤ 1099511627776) :
  az Try.prog 18 [.ptr 0 0 0 1, .ptr 3 0 j 1] [Cw 1 bad, Ww 2 l.length, aU true 1 true (r8 l), Va sz R] (.tup [])
   [Cw 1 (bad || yB a), Ww 2 (l ++ tX a).length, aU true 1 true (r8 (l ++ tX a)), Va sz R] := by
 refine aK Try.func18 low18 (by simp [c18]) ?_
 simp only [c18]
 unfold fA1 at hf
 obtain ⟨l1, e1⟩ : ∃ l1, l1 = l ++ aX (uI a.kind) := ⟨_, rfl⟩
 obtain ⟨b1, d1⟩ : ∃ b1, b1 = (bad || decide (11 < uI a.kind)) := ⟨_, rfl⟩
 obtain ⟨l2, e2⟩ : ∃ l2, l2 = l1 ++ aX (uI a.caller) := ⟨_, rfl⟩
 obtain ⟨l3, e3⟩ : ∃ l3, l3 = l2 ++ aX (uI a.number) := ⟨_, rfl⟩
 obtain ⟨l4, e4⟩ : ∃ l4, l4 = l3 ++ tC a.se := ⟨_, rfl⟩
 obtain ⟨b4, d4⟩ : ∃ b4, b4 = (b1 || xb a.se) := ⟨_, rfl⟩
 have el : l ++ tX a = l4 := by rw [e4, e3, e2, e1]; simp only [tX, List.append_assoc]
 have eb : (bad || yB a) = b4 := by rw [d4, d1]; simp only [yB, Bool.or_assoc]
 rw [el] at hl
 rw [el, eb]
 have g3 : l3.length ≤ l4.length := by rw [e4, List.length_append]; omega
 have g2 : l2.length ≤ l3.length := by rw [e3, List.length_append]; omega
 have g1 : l1.length ≤ l2.length := by rw [e2, List.length_append]; omega
 have g0 : l.length ≤ l1.length := by rw [e1, List.length_append]; omega
 have h1 := bF l bad sz R j 11 a.kind hR0 hf.1 (by omega) (by omega)
 rw [← e1, ← d1] at h1
 have h2 := ce l1 b1 sz R (j + 1) a.caller hR1 hf.2.1 (by omega)
 rw [← e2] at h2
 have h3 := fH l2 b1 sz R (j + 2) a.number hR2 hf.2.2.1 (by omega)
 rw [← e3] at h3
 have h4 := cSe_w l3 b1 sz R (j + 5) a.se hR5 hR6 hR7 hR8 hR9 hR10 hf.2.2.2 (by rw [← e4]; omega)
 rw [← e4, ← d4] at h4
 clear e1 e2 e3 e4 d1 d4 el eb
 rw [hk] at hR0
 repeat' ((first | apply ai | apply ah | apply am | apply au | refine aq rfl ?_ | apply al | apply aj | apply ae | apply ak mixed | (with_reducible first | refine af ?_ | refine ar (f := .c (.fn 32 [])) ?_ | refine ar (f := .c (.fn 33 [])) ?_ | refine ar (f := .c (.fn 34 [])) ?_ | refine ar (f := .c (.fn 35 [])) ?_ | refine ao ?_ | refine ab (h1) (by simp) ?_ | refine ab (h2) (by simp) ?_ | refine ab (h3) (by simp) ?_ | refine ab (h4) (by simp) ?_) | (refine aa ?_ ?_ <;> intro hc <;> (try simp only [hc]) <;> try simp at hc) | (with_reducible refine ⟨?_, ?_⟩; (focus ((repeat' with_reducible refine ⟨?_, ?_⟩) <;> first | exact trivial | assumption | (simp; done) | (simp only [List.length_map] at *; omega) | omega | (simp [fs]; done) | exact ay))) | (with_reducible intro x hx) | omega) <;> (try simp only [hR0, Nat.reduceBEq, reduceIte, Nat.reduceEqDiff, Nat.reduceAdd, Nat.reduceSub, Nat.reduceLT, reduceCtorEq, cond_true, beq_self_eq_true, fw, fd]))
 refine aw [0, 1, 2, 3] (by rfl) (by simp) (by simp [fg])
def rv (a : As) : List UInt8 := aX (uI a.kind) ++ (aX (uI a.caller) ++ (aX (uI a.number)))
def xH (a : As) : Bool := decide (11 < uI a.kind)
def fA2 (a : As) : Prop := cR a.kind ∧ ((0 ≤ a.caller ∧ a.caller ≤ 4294967295) ∧ ((0 ≤ a.number ∧ a.number ≤ 18446744073709551615)))
set_option maxHeartbeats 2000000 in
theorem vF (l : List UInt8) (bad : Bool) (sz : Nat) (R : List D) (j : Nat) (a : As) (hk : a.kind = 2) (hR0 : R[j]? = some (.int .i64 a.kind)) (hR1 : R[j + 1]? = some (.int .u32 a.caller)) (hR2 : R[j + 2]? = some (.int .u64 a.number)) (hf : fA2 a) (hl : (l ++ rv a).length ≤ 1099511627776) :
  az Try.prog 18 [.ptr 0 0 0 1, .ptr 3 0 j 1] [Cw 1 bad, Ww 2 l.length, aU true 1 true (r8 l), Va sz R] (.tup [])
   [Cw 1 (bad || xH a), Ww 2 (l ++ rv a).length, aU true 1 true (r8 (l ++ rv a)), Va sz R] := by
 refine aK Try.func18 low18 (by simp [c18]) ?_
 simp only [c18]
 unfold fA2 at hf
 obtain ⟨l1, e1⟩ : ∃ l1, l1 = l ++ aX (uI a.kind) := ⟨_, rfl⟩
 obtain ⟨b1, d1⟩ : ∃ b1, b1 = (bad || decide (11 < uI a.kind)) := ⟨_, rfl⟩
 obtain ⟨l2, e2⟩ : ∃ l2, l2 = l1 ++ aX (uI a.caller) := ⟨_, rfl⟩
 obtain ⟨l3, e3⟩ : ∃ l3, l3 = l2 ++ aX (uI a.number) := ⟨_, rfl⟩
 have el : l ++ rv a = l3 := by rw [e3, e2, e1]; simp only [rv, List.append_assoc]
 have eb : (bad || xH a) = b1 := by rw [d1]; simp only [xH]
 rw [el] at hl
 rw [el, eb]
 have g2 : l2.length ≤ l3.length := by rw [e3, List.length_append]; omega
 have g1 : l1.length ≤ l2.length := by rw [e2, List.length_append]; omega
 have g0 : l.length ≤ l1.length := by rw [e1, List.length_append]; omega
 have h1 := bF l bad sz R j 11 a.kind hR0 hf.1 (by omega) (by omega)
 rw [← e1, ← d1] at h1
 have h2 := ce l1 b1 sz R (j + 1) a.caller hR1 hf.2.1 (by omega)
 rw [← e2] at h2
 have h3 := fH l2 b1 sz R (j + 2) a.number hR2 hf.2.2 (by omega)
 rw [← e3] at h3
 clear e1 e2 e3 d1 el eb
 rw [hk] at hR0
 repeat' ((first | apply ai | apply ah | apply am | apply au | refine aq rfl ?_ | apply al | apply aj | apply ae | apply ak mixed | (with_reducible first | refine af ?_ | refine ar (f := .c (.fn 32 [])) ?_ | refine ar (f := .c (.fn 33 [])) ?_ | refine ar (f := .c (.fn 34 [])) ?_ | refine ao ?_ | refine ab (h1) (by simp) ?_ | refine ab (h2) (by simp) ?_ | refine ab (h3) (by simp) ?_) | (refine aa ?_ ?_ <;> intro hc <;> (try simp only [hc]) <;> try simp at hc) | (with_reducible refine ⟨?_, ?_⟩; (focus ((repeat' with_reducible refine ⟨?_, ?_⟩) <;> first | exact trivial | assumption | (simp; done) | (simp only [List.length_map] at *; omega) | omega | (simp [fs]; done) | exact ay))) | (with_reducible intro x hx) | omega) <;> (try simp only [hR0, Nat.reduceBEq, reduceIte, Nat.reduceEqDiff, Nat.reduceAdd, Nat.reduceSub, Nat.reduceLT, reduceCtorEq, cond_true, Int.reduceBEq, beq_self_eq_true, fw, fd]))
 refine aw [0, 1, 2, 3] (by rfl) (by simp) (by simp [fg])
def tY (a : As) : List UInt8 := aX (uI a.kind) ++ (aX (uI a.caller) ++ (aX (uI a.number) ++ (aX (uI a.id) ++ (sE a.ev))))
def yA (a : As) : Bool := decide (11 < uI a.kind) || (yr a.ev)
def fA3 (a : As) : Prop := cR a.kind ∧ ((0 ≤ a.caller ∧ a.caller ≤ 4294967295) ∧ ((0 ≤ a.number ∧ a.number ≤ 18446744073709551615) ∧ ((0 ≤ a.id ∧ a.id ≤ 4294967295) ∧ (yn a.ev))))
set_option maxHeartbeats 2000000 in
theorem cA3_w (l : List UInt8) (bad : Bool) (sz : Nat) (R : List D) (j : Nat) (a : As) (hk : a.kind = 3) (hR0 : R[j]? = some (.int .i64 a.kind)) (hR1 : R[j + 1]? = some (.int .u32 a.caller)) (hR2 : R[j + 2]? = some (.int .u64 a.number)) (hR4 : R[j + 4]? = some (.int .u32 a.id)) (hR11 : R[j + 11]? = some (.int .i64 a.ev.start)) (hR12 : R[j + 12]? = some (.int .i64 a.ev.long)) (hR13 : R[j + 13]? = some (.bool a.ev.world)) (hR14 : R[j + 14]? = some (.bool a.ev.again)) (hR15 : R[j + 15]? = some (.int .i64 a.ev.rule.freq)) (hR16 : R[j + 16]? = some (.int .i64 a.ev.rule.interval)) (hR17 : R[j + 17]? = some (.int .i64 a.ev.rule.count)) (hR18 : R[j + 18]? = some (.int .i64 a.ev.rule.til)) (hR19 : R[j + 19]? = some (L (aI .i64 a.ev.rule.bm))) (hR20 : R[j + 20]? = some (L (aI .i64 a.ev.rule.bmd))) (hR21 : R[j + 21]? = some (L (aS .i64 .i64 a.ev.rule.bd))) (hR22 : R[j + 22]? = some (L (aI .i64 a.ev.rule.bsp))) (hR23 : R[j + 23]? = some (.int .i64 a.ev.rule.start)) (hR24 : R[j + 24]? = some (L (aI .i64 a.ev.ex))) (hR25 : R[j + 25]? = some (L (aI .i64 a.ev.plus))) (hR26 : R[j + 26]? = some (L (bh a.ev.ch))) (hf : fA3 a) (hl : (l ++ tY a).length ≤ 1099511627776) :
  az Try.prog 18 [.ptr 0 0 0 1, .ptr 3 0 j 1] [Cw 1 bad, Ww 2 l.length, aU true 1 true (r8 l), Va sz R] (.tup [])
   [Cw 1 (bad || yA a), Ww 2 (l ++ tY a).length, aU true 1 true (r8 (l ++ tY a)), Va sz R] := by
 refine aK Try.func18 low18 (by simp [c18]) ?_
 simp only [c18]
 unfold fA3 at hf
 obtain ⟨l1, e1⟩ : ∃ l1, l1 = l ++ aX (uI a.kind) := ⟨_, rfl⟩
 obtain ⟨b1, d1⟩ : ∃ b1, b1 = (bad || decide (11 < uI a.kind)) := ⟨_, rfl⟩
 obtain ⟨l2, e2⟩ : ∃ l2, l2 = l1 ++ aX (uI a.caller) := ⟨_, rfl⟩
 obtain ⟨l3, e3⟩ : ∃ l3, l3 = l2 ++ aX (uI a.number) := ⟨_, rfl⟩
 obtain ⟨l4, e4⟩ : ∃ l4, l4 = l3 ++ aX (uI a.id) := ⟨_, rfl⟩
 obtain ⟨l5, e5⟩ : ∃ l5, l5 = l4 ++ sE a.ev := ⟨_, rfl⟩
 obtain ⟨b5, d5⟩ : ∃ b5, b5 = (b1 || yr a.ev) := ⟨_, rfl⟩
 have el : l ++ tY a = l5 := by rw [e5, e4, e3, e2, e1]; simp only [tY, List.append_assoc]
 have eb : (bad || yA a) = b5 := by rw [d5, d1]; simp only [yA, Bool.or_assoc]
 rw [el] at hl
 rw [el, eb]
 have g4 : l4.length ≤ l5.length := by rw [e5, List.length_append]; omega
 have g3 : l3.length ≤ l4.length := by rw [e4, List.length_append]; omega
 have g2 : l2.length ≤ l3.length := by rw [e3, List.length_append]; omega
 have g1 : l1.length ≤ l2.length := by rw [e2, List.length_append]; omega
 have g0 : l.length ≤ l1.length := by rw [e1, List.length_append]; omega
 have h1 := bF l bad sz R j 11 a.kind hR0 hf.1 (by omega) (by omega)
 rw [← e1, ← d1] at h1
 have h2 := ce l1 b1 sz R (j + 1) a.caller hR1 hf.2.1 (by omega)
 rw [← e2] at h2
 have h3 := fH l2 b1 sz R (j + 2) a.number hR2 hf.2.2.1 (by omega)
 rw [← e3] at h3
 have h4 := ce l3 b1 sz R (j + 4) a.id hR4 hf.2.2.2.1 (by omega)
 rw [← e4] at h4
 have h5 := cEv_w l4 b1 sz R (j + 11) a.ev hR11 hR12 hR13 hR14 hR15 hR16 hR17 hR18 hR19 hR20 hR21 hR22 hR23 hR24 hR25 hR26 hf.2.2.2.2 (by rw [← e5]; omega)
 rw [← e5, ← d5] at h5
 clear e1 e2 e3 e4 e5 d1 d5 el eb
 rw [hk] at hR0
 repeat' ((first | apply ai | apply ah | apply am | apply au | refine aq rfl ?_ | apply al | apply aj | apply ae | apply ak mixed | (with_reducible first | refine af ?_ | refine ar (f := .c (.fn 32 [])) ?_ | refine ar (f := .c (.fn 33 [])) ?_ | refine ar (f := .c (.fn 34 [])) ?_ | refine ar (f := .c (.fn 36 [])) ?_ | refine ao ?_ | refine ab (h1) (by simp) ?_ | refine ab (h2) (by simp) ?_ | refine ab (h3) (by simp) ?_ | refine ab (h4) (by simp) ?_ | refine ab (h5) (by simp) ?_) | (refine aa ?_ ?_ <;> intro hc <;> (try simp only [hc]) <;> try simp at hc) | (with_reducible refine ⟨?_, ?_⟩; (focus ((repeat' with_reducible refine ⟨?_, ?_⟩) <;> first | exact trivial | assumption | (simp; done) | (simp only [List.length_map] at *; omega) | omega | (simp [fs]; done) | exact ay))) | (with_reducible intro x hx) | omega) <;> (try simp only [hR0, Nat.reduceBEq, reduceIte, Nat.reduceEqDiff, Nat.reduceAdd, Nat.reduceSub, Nat.reduceLT, reduceCtorEq, cond_true, Int.reduceBEq, beq_self_eq_true, fw, fd]))
 refine aw [0, 1, 2, 3] (by rfl) (by simp) (by simp [fg])
def tW (a : As) : List UInt8 := aX (uI a.kind) ++ (aX (uI a.caller) ++ (aX (uI a.number) ++ (aX (uI a.id))))
def yq (a : As) : Bool := decide (11 < uI a.kind)
def fA4 (a : As) : Prop := cR a.kind ∧ ((0 ≤ a.caller ∧ a.caller ≤ 4294967295) ∧ ((0 ≤ a.number ∧ a.number ≤ 18446744073709551615) ∧ ((0 ≤ a.id ∧ a.id ≤ 4294967295))))
set_option maxHeartbeats 2000000 in
theorem cA4_w (l : List UInt8) (bad : Bool) (sz : Nat) (R : List D) (j : Nat) (a : As) (hk : a.kind = 4) (hR0 : R[j]? = some (.int .i64 a.kind)) (hR1 : R[j + 1]? = some (.int .u32 a.caller)) (hR2 : R[j + 2]? = some (.int .u64 a.number)) (hR4 : R[j + 4]? = some (.int .u32 a.id)) (hf : fA4 a) (hl : (l ++ tW a).length ≤ 1099511627776) :
  az Try.prog 18 [.ptr 0 0 0 1, .ptr 3 0 j 1] [Cw 1 bad, Ww 2 l.length, aU true 1 true (r8 l), Va sz R] (.tup [])
   [Cw 1 (bad || yq a), Ww 2 (l ++ tW a).length, aU true 1 true (r8 (l ++ tW a)), Va sz R] := by
 refine aK Try.func18 low18 (by simp [c18]) ?_
 simp only [c18]
 unfold fA4 at hf
 obtain ⟨l1, e1⟩ : ∃ l1, l1 = l ++ aX (uI a.kind) := ⟨_, rfl⟩
 obtain ⟨b1, d1⟩ : ∃ b1, b1 = (bad || decide (11 < uI a.kind)) := ⟨_, rfl⟩
 obtain ⟨l2, e2⟩ : ∃ l2, l2 = l1 ++ aX (uI a.caller) := ⟨_, rfl⟩
 obtain ⟨l3, e3⟩ : ∃ l3, l3 = l2 ++ aX (uI a.number) := ⟨_, rfl⟩
 obtain ⟨l4, e4⟩ : ∃ l4, l4 = l3 ++ aX (uI a.id) := ⟨_, rfl⟩
 have el : l ++ tW a = l4 := by rw [e4, e3, e2, e1]; simp only [tW, List.append_assoc]
 have eb : (bad || yq a) = b1 := by rw [d1]; simp only [yq]
 rw [el] at hl
 rw [el, eb]
 have g3 : l3.length ≤ l4.length := by rw [e4, List.length_append]; omega
 have g2 : l2.length ≤ l3.length := by rw [e3, List.length_append]; omega
 have g1 : l1.length ≤ l2.length := by rw [e2, List.length_append]; omega
 have g0 : l.length ≤ l1.length := by rw [e1, List.length_append]; omega
 have h1 := bF l bad sz R j 11 a.kind hR0 hf.1 (by omega) (by omega)
 rw [← e1, ← d1] at h1
 have h2 := ce l1 b1 sz R (j + 1) a.caller hR1 hf.2.1 (by omega)
 rw [← e2] at h2
 have h3 := fH l2 b1 sz R (j + 2) a.number hR2 hf.2.2.1 (by omega)
 rw [← e3] at h3
 have h4 := ce l3 b1 sz R (j + 4) a.id hR4 hf.2.2.2 (by omega)
 rw [← e4] at h4
 clear e1 e2 e3 e4 d1 el eb
 rw [hk] at hR0
 repeat' ((first | apply ai | apply ah | apply am | apply au | refine aq rfl ?_ | apply al | apply aj | apply ae | apply ak mixed | (with_reducible first | refine af ?_ | refine ar (f := .c (.fn 32 [])) ?_ | refine ar (f := .c (.fn 33 [])) ?_ | refine ar (f := .c (.fn 34 [])) ?_ | refine ao ?_ | refine ab (h1) (by simp) ?_ | refine ab (h2) (by simp) ?_ | refine ab (h3) (by simp) ?_ | refine ab (h4) (by simp) ?_) | (refine aa ?_ ?_ <;> intro hc <;> (try simp only [hc]) <;> try simp at hc) | (with_reducible refine ⟨?_, ?_⟩; (focus ((repeat' with_reducible refine ⟨?_, ?_⟩) <;> first | exact trivial | assumption | (simp; done) | (simp only [List.length_map] at *; omega) | omega | (simp [fs]; done) | exact ay))) | (with_reducible intro x hx) | omega) <;> (try simp only [hR0, Nat.reduceBEq, reduceIte, Nat.reduceEqDiff, Nat.reduceAdd, Nat.reduceSub, Nat.reduceLT, reduceCtorEq, cond_true, Int.reduceBEq, beq_self_eq_true, fw, fd]))
 refine aw [0, 1, 2, 3] (by rfl) (by simp) (by simp [fg])
def tP (a : As) : List UInt8 := aX (uI a.kind) ++ (aX (uI a.caller) ++ (aX (uI a.number) ++ (qe a.qu ++ (t6 a.cursor ++ (aX (uI a.count))))))
def yx (a : As) : Bool := decide (11 < uI a.kind) || (uX a.qu || (decide (64 < (a.cursor.size : Int)) || (decide (100 < uI a.count))))
def fA5 (a : As) : Prop := cR a.kind ∧ ((0 ≤ a.caller ∧ a.caller ≤ 4294967295) ∧ ((0 ≤ a.number ∧ a.number ≤ 18446744073709551615) ∧ (uA a.qu ∧ (a.cursor.size ≤ 1099511627776 ∧ (cR a.count)))))
set_option maxHeartbeats 2000000 in
theorem cA5_w (l : List UInt8) (bad : Bool) (sz : Nat) (R : List D) (j : Nat) (a : As) (hk : a.kind = 5) (hR0 : R[j]? = some (.int .i64 a.kind)) (hR1 : R[j + 1]? = some (.int .u32 a.caller)) (hR2 : R[j + 2]? = some (.int .u64 a.number)) (hR27 : R[j + 27]? = some (.int .i64 a.qu.a)) (hR28 : R[j + 28]? = some (.int .i64 a.qu.b)) (hR29 : R[j + 29]? = some (.int .i64 a.qu.long)) (hR30 : R[j + 30]? = some (.int .i64 a.qu.grid)) (hR31 : R[j + 31]? = some (L (aI .u32 a.qu.must))) (hR32 : R[j + 32]? = some (L (aS .u32 .i64 a.qu.may))) (hR33 : R[j + 33]? = some (.int .i64 a.qu.seats)) (hR34 : R[j + 34]? = some (L (aS .u32 .u32 a.qu.apart))) (hR35 : R[j + 35]? = some (L (bh a.qu.prefer))) (hR36 : R[j + 36]? = some (.str a.cursor)) (hR37 : R[j + 37]? = some (.int .i64 a.count)) (hf : fA5 a) (hl : (l ++ tP a).length ≤ 1099511627776) :
  az Try.prog 18 [.ptr 0 0 0 1, .ptr 3 0 j 1] [Cw 1 bad, Ww 2 l.length, aU true 1 true (r8 l), Va sz R] (.tup [])
   [Cw 1 (bad || yx a), Ww 2 (l ++ tP a).length, aU true 1 true (r8 (l ++ tP a)), Va sz R] := by
 refine aK Try.func18 low18 (by simp [c18]) ?_
 simp only [c18]
 unfold fA5 at hf
 obtain ⟨l1, e1⟩ : ∃ l1, l1 = l ++ aX (uI a.kind) := ⟨_, rfl⟩
 obtain ⟨b1, d1⟩ : ∃ b1, b1 = (bad || decide (11 < uI a.kind)) := ⟨_, rfl⟩
 obtain ⟨l2, e2⟩ : ∃ l2, l2 = l1 ++ aX (uI a.caller) := ⟨_, rfl⟩
 obtain ⟨l3, e3⟩ : ∃ l3, l3 = l2 ++ aX (uI a.number) := ⟨_, rfl⟩
 obtain ⟨l4, e4⟩ : ∃ l4, l4 = l3 ++ qe a.qu := ⟨_, rfl⟩
 obtain ⟨b4, d4⟩ : ∃ b4, b4 = (b1 || uX a.qu) := ⟨_, rfl⟩
 obtain ⟨l5, e5⟩ : ∃ l5, l5 = l4 ++ t6 a.cursor := ⟨_, rfl⟩
 obtain ⟨b5, d5⟩ : ∃ b5, b5 = (b4 || decide (64 < (a.cursor.size : Int))) := ⟨_, rfl⟩
 obtain ⟨l6, e6⟩ : ∃ l6, l6 = l5 ++ aX (uI a.count) := ⟨_, rfl⟩
 obtain ⟨b6, d6⟩ : ∃ b6, b6 = (b5 || decide (100 < uI a.count)) := ⟨_, rfl⟩
 have el : l ++ tP a = l6 := by rw [e6, e5, e4, e3, e2, e1]; simp only [tP, List.append_assoc]
 have eb : (bad || yx a) = b6 := by rw [d6, d5, d4, d1]; simp only [yx, Bool.or_assoc]
 rw [el] at hl
 rw [el, eb]
 have g5 : l5.length ≤ l6.length := by rw [e6, List.length_append]; omega
 have g4 : l4.length ≤ l5.length := by rw [e5, List.length_append]; omega
 have g3 : l3.length ≤ l4.length := by rw [e4, List.length_append]; omega
 have g2 : l2.length ≤ l3.length := by rw [e3, List.length_append]; omega
 have g1 : l1.length ≤ l2.length := by rw [e2, List.length_append]; omega
 have g0 : l.length ≤ l1.length := by rw [e1, List.length_append]; omega
 have h1 := bF l bad sz R j 11 a.kind hR0 hf.1 (by omega) (by omega)
 rw [← e1, ← d1] at h1
 have h2 := ce l1 b1 sz R (j + 1) a.caller hR1 hf.2.1 (by omega)
 rw [← e2] at h2
 have h3 := fH l2 b1 sz R (j + 2) a.number hR2 hf.2.2.1 (by omega)
 rw [← e3] at h3
 have h4 := vI l3 b1 sz R (j + 27) a.qu hR27 hR28 hR29 hR30 hR31 hR32 hR33 hR34 hR35 hf.2.2.2.1 (by rw [← e4]; omega)
 rw [← e4, ← d4] at h4
 have h5 := wZ l4 b4 sz R (j + 36) a.cursor 64 hR36 hf.2.2.2.2.1 (by omega)
 rw [← e5, ← d5] at h5
 have h6 := bF l5 b5 sz R (j + 37) 100 a.count hR37 hf.2.2.2.2.2 (by omega) (by omega)
 rw [← e6, ← d6] at h6
 clear e1 e2 e3 e4 e5 e6 d1 d4 d5 d6 el eb
 rw [hk] at hR0
 repeat' ((first | apply ai | apply ah | apply am | apply au | refine aq rfl ?_ | apply al | apply aj | apply ae | apply ak mixed | (with_reducible first | refine af ?_ | refine ar (f := .c (.fn 32 [])) ?_ | refine ar (f := .c (.fn 33 [])) ?_ | refine ar (f := .c (.fn 34 [])) ?_ | refine ar (f := .c (.fn 37 [])) ?_ | refine ar (f := .c (.fn 38 [])) ?_ | refine ao ?_ | refine ab (h1) (by simp) ?_ | refine ab (h2) (by simp) ?_ | refine ab (h3) (by simp) ?_ | refine ab (h4) (by simp) ?_ | refine ab (h5) (by simp) ?_ | refine ab (h6) (by simp) ?_) | (refine aa ?_ ?_ <;> intro hc <;> (try simp only [hc]) <;> try simp at hc) | (with_reducible refine ⟨?_, ?_⟩; (focus ((repeat' with_reducible refine ⟨?_, ?_⟩) <;> first | exact trivial | assumption | (simp; done) | (simp only [List.length_map] at *; omega) | omega | (simp [fs]; done) | exact ay))) | (with_reducible intro x hx) | omega) <;> (try simp only [hR0, Nat.reduceBEq, reduceIte, Nat.reduceEqDiff, Nat.reduceAdd, Nat.reduceSub, Nat.reduceLT, reduceCtorEq, cond_true, Int.reduceBEq, beq_self_eq_true, fw, fd]))
 refine aw [0, 1, 2, 3] (by rfl) (by simp) (by simp [fg])
def tT (a : As) : List UInt8 := aX (uI a.kind) ++ (aX (uI a.caller) ++ (aX (uI a.number) ++ (aX (uI a.poll) ++ (qe a.qu ++ (aX (uI a.count) ++ (aX (zz a.til)))))))
def yi (a : As) : Bool := decide (11 < uI a.kind) || (uX a.qu || (decide (100 < uI a.count)))
def fA6 (a : As) : Prop := cR a.kind ∧ ((0 ≤ a.caller ∧ a.caller ≤ 4294967295) ∧ ((0 ≤ a.number ∧ a.number ≤ 18446744073709551615) ∧ ((0 ≤ a.poll ∧ a.poll ≤ 4294967295) ∧ (uA a.qu ∧ (cR a.count ∧ (cR a.til))))))
set_option maxHeartbeats 2000000 in
theorem cA6_w (l : List UInt8) (bad : Bool) (sz : Nat) (R : List D) (j : Nat) (a : As) (hk : a.kind = 6) (hR0 : R[j]? = some (.int .i64 a.kind)) (hR1 : R[j + 1]? = some (.int .u32 a.caller)) (hR2 : R[j + 2]? = some (.int .u64 a.number)) (hR27 : R[j + 27]? = some (.int .i64 a.qu.a)) (hR28 : R[j + 28]? = some (.int .i64 a.qu.b)) (hR29 : R[j + 29]? = some (.int .i64 a.qu.long)) (hR30 : R[j + 30]? = some (.int .i64 a.qu.grid)) (hR31 : R[j + 31]? = some (L (aI .u32 a.qu.must))) (hR32 : R[j + 32]? = some (L (aS .u32 .i64 a.qu.may))) (hR33 : R[j + 33]? = some (.int .i64 a.qu.seats)) (hR34 : R[j + 34]? = some (L (aS .u32 .u32 a.qu.apart))) (hR35 : R[j + 35]? = some (L (bh a.qu.prefer))) (hR37 : R[j + 37]? = some (.int .i64 a.count)) (hR38 : R[j + 38]? = some (.int .u32 a.poll)) (hR41 : R[j + 41]? = some (.int .i64 a.til)) (hf : fA6 a) (hl : (l ++ tT a).length ≤ 1099511627776) :
  az Try.prog 18 [.ptr 0 0 0 1, .ptr 3 0 j 1] [Cw 1 bad, Ww 2 l.length, aU true 1 true (r8 l), Va sz R] (.tup [])
   [Cw 1 (bad || yi a), Ww 2 (l ++ tT a).length, aU true 1 true (r8 (l ++ tT a)), Va sz R] := by
 refine aK Try.func18 low18 (by simp [c18]) ?_
 simp only [c18]
 unfold fA6 at hf
 obtain ⟨l1, e1⟩ : ∃ l1, l1 = l ++ aX (uI a.kind) := ⟨_, rfl⟩
 obtain ⟨b1, d1⟩ : ∃ b1, b1 = (bad || decide (11 < uI a.kind)) := ⟨_, rfl⟩
 obtain ⟨l2, e2⟩ : ∃ l2, l2 = l1 ++ aX (uI a.caller) := ⟨_, rfl⟩
 obtain ⟨l3, e3⟩ : ∃ l3, l3 = l2 ++ aX (uI a.number) := ⟨_, rfl⟩
 obtain ⟨l4, e4⟩ : ∃ l4, l4 = l3 ++ aX (uI a.poll) := ⟨_, rfl⟩
 obtain ⟨l5, e5⟩ : ∃ l5, l5 = l4 ++ qe a.qu := ⟨_, rfl⟩
 obtain ⟨b5, d5⟩ : ∃ b5, b5 = (b1 || uX a.qu) := ⟨_, rfl⟩
 obtain ⟨l6, e6⟩ : ∃ l6, l6 = l5 ++ aX (uI a.count) := ⟨_, rfl⟩
 obtain ⟨b6, d6⟩ : ∃ b6, b6 = (b5 || decide (100 < uI a.count)) := ⟨_, rfl⟩
 obtain ⟨l7, e7⟩ : ∃ l7, l7 = l6 ++ aX (zz a.til) := ⟨_, rfl⟩
 have el : l ++ tT a = l7 := by rw [e7, e6, e5, e4, e3, e2, e1]; simp only [tT, List.append_assoc]
 have eb : (bad || yi a) = b6 := by rw [d6, d5, d1]; simp only [yi, Bool.or_assoc]
 rw [el] at hl
 rw [el, eb]
 have g6 : l6.length ≤ l7.length := by rw [e7, List.length_append]; omega
 have g5 : l5.length ≤ l6.length := by rw [e6, List.length_append]; omega
 have g4 : l4.length ≤ l5.length := by rw [e5, List.length_append]; omega
 have g3 : l3.length ≤ l4.length := by rw [e4, List.length_append]; omega
 have g2 : l2.length ≤ l3.length := by rw [e3, List.length_append]; omega
 have g1 : l1.length ≤ l2.length := by rw [e2, List.length_append]; omega
 have g0 : l.length ≤ l1.length := by rw [e1, List.length_append]; omega
 have h1 := bF l bad sz R j 11 a.kind hR0 hf.1 (by omega) (by omega)
 rw [← e1, ← d1] at h1
 have h2 := ce l1 b1 sz R (j + 1) a.caller hR1 hf.2.1 (by omega)
 rw [← e2] at h2
 have h3 := fH l2 b1 sz R (j + 2) a.number hR2 hf.2.2.1 (by omega)
 rw [← e3] at h3
 have h4 := ce l3 b1 sz R (j + 38) a.poll hR38 hf.2.2.2.1 (by omega)
 rw [← e4] at h4
 have h5 := vI l4 b1 sz R (j + 27) a.qu hR27 hR28 hR29 hR30 hR31 hR32 hR33 hR34 hR35 hf.2.2.2.2.1 (by rw [← e5]; omega)
 rw [← e5, ← d5] at h5
 have h6 := bF l5 b5 sz R (j + 37) 100 a.count hR37 hf.2.2.2.2.2.1 (by omega) (by omega)
 rw [← e6, ← d6] at h6
 have h7 := cy l6 b6 sz R (j + 41) a.til hR41 hf.2.2.2.2.2.2 (by omega)
 rw [← e7] at h7
 clear e1 e2 e3 e4 e5 e6 e7 d1 d5 d6 el eb
 rw [hk] at hR0
 repeat' ((first | apply ai | apply ah | apply am | apply au | refine aq rfl ?_ | apply al | apply aj | apply ae | apply ak mixed | (with_reducible first | refine af ?_ | refine ar (f := .c (.fn 32 [])) ?_ | refine ar (f := .c (.fn 33 [])) ?_ | refine ar (f := .c (.fn 34 [])) ?_ | refine ar (f := .c (.fn 37 [])) ?_ | refine ar (f := .c (.fn 39 [])) ?_ | refine ao ?_ | refine ab (h1) (by simp) ?_ | refine ab (h2) (by simp) ?_ | refine ab (h3) (by simp) ?_ | refine ab (h4) (by simp) ?_ | refine ab (h5) (by simp) ?_ | refine ab (h6) (by simp) ?_ | refine ab (h7) (by simp) ?_) | (refine aa ?_ ?_ <;> intro hc <;> (try simp only [hc]) <;> try simp at hc) | (with_reducible refine ⟨?_, ?_⟩; (focus ((repeat' with_reducible refine ⟨?_, ?_⟩) <;> first | exact trivial | assumption | (simp; done) | (simp only [List.length_map] at *; omega) | omega | (simp [fs]; done) | exact ay))) | (with_reducible intro x hx) | omega) <;> (try simp only [hR0, Nat.reduceBEq, reduceIte, Nat.reduceEqDiff, Nat.reduceAdd, Nat.reduceSub, Nat.reduceLT, reduceCtorEq, cond_true, Int.reduceBEq, beq_self_eq_true, fw, fd]))
 refine aw [0, 1, 2, 3] (by rfl) (by simp) (by simp [fg])
def tU (a : As) : List UInt8 := aX (uI a.kind) ++ (aX (uI a.caller) ++ (aX (uI a.number) ++ (aX (uI a.poll) ++ (aX (uI a.slot) ++ (oq a.yes)))))
def yy (a : As) : Bool := decide (11 < uI a.kind) || (decide (40 < uI a.slot))
def fA7 (a : As) : Prop := cR a.kind ∧ ((0 ≤ a.caller ∧ a.caller ≤ 4294967295) ∧ ((0 ≤ a.number ∧ a.number ≤ 18446744073709551615) ∧ ((0 ≤ a.poll ∧ a.poll ≤ 4294967295) ∧ (cR a.slot ∧ (True)))))
set_option maxHeartbeats 2000000 in
theorem cA7_w (l : List UInt8) (bad : Bool) (sz : Nat) (R : List D) (j : Nat) (a : As) (hk : a.kind = 7) (hR0 : R[j]? = some (.int .i64 a.kind)) (hR1 : R[j + 1]? = some (.int .u32 a.caller)) (hR2 : R[j + 2]? = some (.int .u64 a.number)) (hR38 : R[j + 38]? = some (.int .u32 a.poll)) (hR39 : R[j + 39]? = some (.int .i64 a.slot)) (hR40 : R[j + 40]? = some (.bool a.yes)) (hf : fA7 a) (hl : (l ++ tU a).length ≤ 1099511627776) :
  az Try.prog 18 [.ptr 0 0 0 1, .ptr 3 0 j 1] [Cw 1 bad, Ww 2 l.length, aU true 1 true (r8 l), Va sz R] (.tup [])
   [Cw 1 (bad || yy a), Ww 2 (l ++ tU a).length, aU true 1 true (r8 (l ++ tU a)), Va sz R] := by
 refine aK Try.func18 low18 (by simp [c18]) ?_
 simp only [c18]
 unfold fA7 at hf
 obtain ⟨l1, e1⟩ : ∃ l1, l1 = l ++ aX (uI a.kind) := ⟨_, rfl⟩
 obtain ⟨b1, d1⟩ : ∃ b1, b1 = (bad || decide (11 < uI a.kind)) := ⟨_, rfl⟩
 obtain ⟨l2, e2⟩ : ∃ l2, l2 = l1 ++ aX (uI a.caller) := ⟨_, rfl⟩
 obtain ⟨l3, e3⟩ : ∃ l3, l3 = l2 ++ aX (uI a.number) := ⟨_, rfl⟩
 obtain ⟨l4, e4⟩ : ∃ l4, l4 = l3 ++ aX (uI a.poll) := ⟨_, rfl⟩
 obtain ⟨l5, e5⟩ : ∃ l5, l5 = l4 ++ aX (uI a.slot) := ⟨_, rfl⟩
 obtain ⟨b5, d5⟩ : ∃ b5, b5 = (b1 || decide (40 < uI a.slot)) := ⟨_, rfl⟩
 obtain ⟨l6, e6⟩ : ∃ l6, l6 = l5 ++ oq a.yes := ⟨_, rfl⟩
 have el : l ++ tU a = l6 := by rw [e6, e5, e4, e3, e2, e1]; simp only [tU, List.append_assoc]
 have eb : (bad || yy a) = b5 := by rw [d5, d1]; simp only [yy, Bool.or_assoc]
 rw [el] at hl
 rw [el, eb]
 have g5 : l5.length ≤ l6.length := by rw [e6, List.length_append]; omega
 have g4 : l4.length ≤ l5.length := by rw [e5, List.length_append]; omega
 have g3 : l3.length ≤ l4.length := by rw [e4, List.length_append]; omega
 have g2 : l2.length ≤ l3.length := by rw [e3, List.length_append]; omega
 have g1 : l1.length ≤ l2.length := by rw [e2, List.length_append]; omega
 have g0 : l.length ≤ l1.length := by rw [e1, List.length_append]; omega
 have h1 := bF l bad sz R j 11 a.kind hR0 hf.1 (by omega) (by omega)
 rw [← e1, ← d1] at h1
 have h2 := ce l1 b1 sz R (j + 1) a.caller hR1 hf.2.1 (by omega)
 rw [← e2] at h2
 have h3 := fH l2 b1 sz R (j + 2) a.number hR2 hf.2.2.1 (by omega)
 rw [← e3] at h3
 have h4 := ce l3 b1 sz R (j + 38) a.poll hR38 hf.2.2.2.1 (by omega)
 rw [← e4] at h4
 have h5 := bF l4 b1 sz R (j + 39) 40 a.slot hR39 hf.2.2.2.2.1 (by omega) (by omega)
 rw [← e5, ← d5] at h5
 have h6 := mN l5 b5 sz R (j + 40) a.yes hR40 (by omega)
 rw [← e6] at h6
 clear e1 e2 e3 e4 e5 e6 d1 d5 el eb
 rw [hk] at hR0
 repeat' ((first | apply ai | apply ah | apply am | apply au | refine aq rfl ?_ | apply al | apply aj | apply ae | apply ak mixed | (with_reducible first | refine af ?_ | refine ar (f := .c (.fn 32 [])) ?_ | refine ar (f := .c (.fn 33 [])) ?_ | refine ar (f := .c (.fn 34 [])) ?_ | refine ar (f := .c (.fn 40 [])) ?_ | refine ao ?_ | refine ab (h1) (by simp) ?_ | refine ab (h2) (by simp) ?_ | refine ab (h3) (by simp) ?_ | refine ab (h4) (by simp) ?_ | refine ab (h5) (by simp) ?_ | refine ab (h6) (by simp) ?_) | (refine aa ?_ ?_ <;> intro hc <;> (try simp only [hc]) <;> try simp at hc) | (with_reducible refine ⟨?_, ?_⟩; (focus ((repeat' with_reducible refine ⟨?_, ?_⟩) <;> first | exact trivial | assumption | (simp; done) | (simp only [List.length_map] at *; omega) | omega | (simp [fs]; done) | exact ay))) | (with_reducible intro x hx) | omega) <;> (try simp only [hR0, Nat.reduceBEq, reduceIte, Nat.reduceEqDiff, Nat.reduceAdd, Nat.reduceSub, Nat.reduceLT, reduceCtorEq, cond_true, Int.reduceBEq, beq_self_eq_true, fw, fd]))
 refine aw [0, 1, 2, 3] (by rfl) (by simp) (by simp [fg])
def t7 (a : As) : List UInt8 := aX (uI a.kind) ++ (aX (uI a.caller) ++ (aX (uI a.number) ++ (aX (uI a.poll))))
def yk (a : As) : Bool := decide (11 < uI a.kind)
def fA8 (a : As) : Prop := cR a.kind ∧ ((0 ≤ a.caller ∧ a.caller ≤ 4294967295) ∧ ((0 ≤ a.number ∧ a.number ≤ 18446744073709551615) ∧ ((0 ≤ a.poll ∧ a.poll ≤ 4294967295))))
set_option maxHeartbeats 2000000 in
theorem cA8_w (l : List UInt8) (bad : Bool) (sz : Nat) (R : List D) (j : Nat) (a : As) (hk : a.kind = 8) (hR0 : R[j]? = some (.int .i64 a.kind)) (hR1 : R[j + 1]? = some (.int .u32 a.caller)) (hR2 : R[j + 2]? = some (.int .u64 a.number)) (hR38 : R[j + 38]? = some (.int .u32 a.poll)) (hf : fA8 a) (hl : (l ++ t7 a).length ≤ 1099511627776) :
  az Try.prog 18 [.ptr 0 0 0 1, .ptr 3 0 j 1] [Cw 1 bad, Ww 2 l.length, aU true 1 true (r8 l), Va sz R] (.tup [])
   [Cw 1 (bad || yk a), Ww 2 (l ++ t7 a).length, aU true 1 true (r8 (l ++ t7 a)), Va sz R] := by
 refine aK Try.func18 low18 (by simp [c18]) ?_
 simp only [c18]
 unfold fA8 at hf
 obtain ⟨l1, e1⟩ : ∃ l1, l1 = l ++ aX (uI a.kind) := ⟨_, rfl⟩
 obtain ⟨b1, d1⟩ : ∃ b1, b1 = (bad || decide (11 < uI a.kind)) := ⟨_, rfl⟩
 obtain ⟨l2, e2⟩ : ∃ l2, l2 = l1 ++ aX (uI a.caller) := ⟨_, rfl⟩
 obtain ⟨l3, e3⟩ : ∃ l3, l3 = l2 ++ aX (uI a.number) := ⟨_, rfl⟩
 obtain ⟨l4, e4⟩ : ∃ l4, l4 = l3 ++ aX (uI a.poll) := ⟨_, rfl⟩
 have el : l ++ t7 a = l4 := by rw [e4, e3, e2, e1]; simp only [t7, List.append_assoc]
 have eb : (bad || yk a) = b1 := by rw [d1]; simp only [yk]
 rw [el] at hl
 rw [el, eb]
 have g3 : l3.length ≤ l4.length := by rw [e4, List.length_append]; omega
 have g2 : l2.length ≤ l3.length := by rw [e3, List.length_append]; omega
 have g1 : l1.length ≤ l2.length := by rw [e2, List.length_append]; omega
 have g0 : l.length ≤ l1.length := by rw [e1, List.length_append]; omega
 have h1 := bF l bad sz R j 11 a.kind hR0 hf.1 (by omega) (by omega)
 rw [← e1, ← d1] at h1
 have h2 := ce l1 b1 sz R (j + 1) a.caller hR1 hf.2.1 (by omega)
 rw [← e2] at h2
 have h3 := fH l2 b1 sz R (j + 2) a.number hR2 hf.2.2.1 (by omega)
 rw [← e3] at h3
 have h4 := ce l3 b1 sz R (j + 38) a.poll hR38 hf.2.2.2 (by omega)
 rw [← e4] at h4
 clear e1 e2 e3 e4 d1 el eb
 rw [hk] at hR0
 repeat' ((first | apply ai | apply ah | apply am | apply au | refine aq rfl ?_ | apply al | apply aj | apply ae | apply ak mixed | (with_reducible first | refine af ?_ | refine ar (f := .c (.fn 32 [])) ?_ | refine ar (f := .c (.fn 33 [])) ?_ | refine ar (f := .c (.fn 34 [])) ?_ | refine ao ?_ | refine ab (h1) (by simp) ?_ | refine ab (h2) (by simp) ?_ | refine ab (h3) (by simp) ?_ | refine ab (h4) (by simp) ?_) | (refine aa ?_ ?_ <;> intro hc <;> (try simp only [hc]) <;> try simp at hc) | (with_reducible refine ⟨?_, ?_⟩; (focus ((repeat' with_reducible refine ⟨?_, ?_⟩) <;> first | exact trivial | assumption | (simp; done) | (simp only [List.length_map] at *; omega) | omega | (simp [fs]; done) | exact ay))) | (with_reducible intro x hx) | omega) <;> (try simp only [hR0, Nat.reduceBEq, reduceIte, Nat.reduceEqDiff, Nat.reduceAdd, Nat.reduceSub, Nat.reduceLT, reduceCtorEq, cond_true, Int.reduceBEq, beq_self_eq_true, fw, fd]))
 refine aw [0, 1, 2, 3] (by rfl) (by simp) (by simp [fg])
def tQ (a : As) : List UInt8 := aX (uI a.kind) ++ (aX (uI a.caller) ++ (aX (uI a.number) ++ (aX (uI a.poll) ++ (aX (uI a.id)))))
def yu (a : As) : Bool := decide (11 < uI a.kind)
def fA9 (a : As) : Prop := cR a.kind ∧ ((0 ≤ a.caller ∧ a.caller ≤ 4294967295) ∧ ((0 ≤ a.number ∧ a.number ≤ 18446744073709551615) ∧ ((0 ≤ a.poll ∧ a.poll ≤ 4294967295) ∧ ((0 ≤ a.id ∧ a.id ≤ 4294967295)))))
set_option maxHeartbeats 2000000 in
theorem cA9_w (l : List UInt8) (bad : Bool) (sz : Nat) (R : List D) (j : Nat) (a : As) (hk : a.kind = 9) (hR0 : R[j]? = some (.int .i64 a.kind)) (hR1 : R[j + 1]? = some (.int .u32 a.caller)) (hR2 : R[j + 2]? = some (.int .u64 a.number)) (hR4 : R[j + 4]? = some (.int .u32 a.id)) (hR38 : R[j + 38]? = some (.int .u32 a.poll)) (hf : fA9 a) (hl : (l ++ tQ a).length ≤ 1099511627776) :
  az Try.prog 18 [.ptr 0 0 0 1, .ptr 3 0 j 1] [Cw 1 bad, Ww 2 l.length, aU true 1 true (r8 l), Va sz R] (.tup [])
   [Cw 1 (bad || yu a), Ww 2 (l ++ tQ a).length, aU true 1 true (r8 (l ++ tQ a)), Va sz R] := by
 refine aK Try.func18 low18 (by simp [c18]) ?_
 simp only [c18]
 unfold fA9 at hf
 obtain ⟨l1, e1⟩ : ∃ l1, l1 = l ++ aX (uI a.kind) := ⟨_, rfl⟩
 obtain ⟨b1, d1⟩ : ∃ b1, b1 = (bad || decide (11 < uI a.kind)) := ⟨_, rfl⟩
 obtain ⟨l2, e2⟩ : ∃ l2, l2 = l1 ++ aX (uI a.caller) := ⟨_, rfl⟩
 obtain ⟨l3, e3⟩ : ∃ l3, l3 = l2 ++ aX (uI a.number) := ⟨_, rfl⟩
 obtain ⟨l4, e4⟩ : ∃ l4, l4 = l3 ++ aX (uI a.poll) := ⟨_, rfl⟩
 obtain ⟨l5, e5⟩ : ∃ l5, l5 = l4 ++ aX (uI a.id) := ⟨_, rfl⟩
 have el : l ++ tQ a = l5 := by rw [e5, e4, e3, e2, e1]; simp only [tQ, List.append_assoc]
 have eb : (bad || yu a) = b1 := by rw [d1]; simp only [yu]
 rw [el] at hl
 rw [el, eb]
 have g4 : l4.length ≤ l5.length := by rw [e5, List.length_append]; omega
 have g3 : l3.length ≤ l4.length := by rw [e4, List.length_append]; omega
 have g2 : l2.length ≤ l3.length := by rw [e3, List.length_append]; omega
 have g1 : l1.length ≤ l2.length := by rw [e2, List.length_append]; omega
 have g0 : l.length ≤ l1.length := by rw [e1, List.length_append]; omega
 have h1 := bF l bad sz R j 11 a.kind hR0 hf.1 (by omega) (by omega)
 rw [← e1, ← d1] at h1
 have h2 := ce l1 b1 sz R (j + 1) a.caller hR1 hf.2.1 (by omega)
 rw [← e2] at h2
 have h3 := fH l2 b1 sz R (j + 2) a.number hR2 hf.2.2.1 (by omega)
 rw [← e3] at h3
 have h4 := ce l3 b1 sz R (j + 38) a.poll hR38 hf.2.2.2.1 (by omega)
 rw [← e4] at h4
 have h5 := ce l4 b1 sz R (j + 4) a.id hR4 hf.2.2.2.2 (by omega)
 rw [← e5] at h5
 clear e1 e2 e3 e4 e5 d1 el eb
 rw [hk] at hR0
 repeat' ((first | apply ai | apply ah | apply am | apply au | refine aq rfl ?_ | apply al | apply aj | apply ae | apply ak mixed | (with_reducible first | refine af ?_ | refine ar (f := .c (.fn 32 [])) ?_ | refine ar (f := .c (.fn 33 [])) ?_ | refine ar (f := .c (.fn 34 [])) ?_ | refine ao ?_ | refine ab (h1) (by simp) ?_ | refine ab (h2) (by simp) ?_ | refine ab (h3) (by simp) ?_ | refine ab (h4) (by simp) ?_ | refine ab (h5) (by simp) ?_) | (refine aa ?_ ?_ <;> intro hc <;> (try simp only [hc]) <;> try simp at hc) | (with_reducible refine ⟨?_, ?_⟩; (focus ((repeat' with_reducible refine ⟨?_, ?_⟩) <;> first | exact trivial | assumption | (simp; done) | (simp only [List.length_map] at *; omega) | omega | (simp [fs]; done) | exact ay))) | (with_reducible intro x hx) | omega) <;> (try simp only [hR0, Nat.reduceBEq, reduceIte, Nat.reduceEqDiff, Nat.reduceAdd, Nat.reduceSub, Nat.reduceLT, reduceCtorEq, cond_true, Int.reduceBEq, beq_self_eq_true, fw, fd]))
 refine aw [0, 1, 2, 3] (by rfl) (by simp) (by simp [fg])
def kZ (a : As) : List UInt8 := aX (uI a.kind) ++ (aX (uI a.caller) ++ (aX (uI a.number) ++ (aX (uI a.poll))))
def rr (a : As) : Bool := decide (11 < uI a.kind)
def vo (a : As) : Prop := cR a.kind ∧ ((0 ≤ a.caller ∧ a.caller ≤ 4294967295) ∧ ((0 ≤ a.number ∧ a.number ≤ 18446744073709551615) ∧ ((0 ≤ a.poll ∧ a.poll ≤ 4294967295))))
set_option maxHeartbeats 2000000 in
theorem xA (l : List UInt8) (bad : Bool) (sz : Nat) (R : List D) (j : Nat) (a : As) (hk : a.kind = 10) (hR0 : R[j]? = some (.int .i64 a.kind)) (hR1 : R[j + 1]? = some (.int .u32 a.caller)) (hR2 : R[j + 2]? = some (.int .u64 a.number)) (hR38 : R[j + 38]? = some (.int .u32 a.poll)) (hf : vo a) (hl : (l ++ kZ a).length ≤ 1099511627776) :
  az Try.prog 18 [.ptr 0 0 0 1, .ptr 3 0 j 1] [Cw 1 bad, Ww 2 l.length, aU true 1 true (r8 l), Va sz R] (.tup [])
   [Cw 1 (bad || rr a), Ww 2 (l ++ kZ a).length, aU true 1 true (r8 (l ++ kZ a)), Va sz R] := by
 refine aK Try.func18 low18 (by simp [c18]) ?_
 simp only [c18]
 unfold vo at hf
 obtain ⟨l1, e1⟩ : ∃ l1, l1 = l ++ aX (uI a.kind) := ⟨_, rfl⟩
 obtain ⟨b1, d1⟩ : ∃ b1, b1 = (bad || decide (11 < uI a.kind)) := ⟨_, rfl⟩
 obtain ⟨l2, e2⟩ : ∃ l2, l2 = l1 ++ aX (uI a.caller) := ⟨_, rfl⟩
 obtain ⟨l3, e3⟩ : ∃ l3, l3 = l2 ++ aX (uI a.number) := ⟨_, rfl⟩
 obtain ⟨l4, e4⟩ : ∃ l4, l4 = l3 ++ aX (uI a.poll) := ⟨_, rfl⟩
 have el : l ++ kZ a = l4 := by rw [e4, e3, e2, e1]; simp only [kZ, List.append_assoc]
 have eb : (bad || rr a) = b1 := by rw [d1]; simp only [rr]
 rw [el] at hl
 rw [el, eb]
 have g3 : l3.length ≤ l4.length := by rw [e4, List.length_append]; omega
 have g2 : l2.length ≤ l3.length := by rw [e3, List.length_append]; omega
 have g1 : l1.length ≤ l2.length := by rw [e2, List.length_append]; omega
 have g0 : l.length ≤ l1.length := by rw [e1, List.length_append]; omega
 have h1 := bF l bad sz R j 11 a.kind hR0 hf.1 (by omega) (by omega)
 rw [← e1, ← d1] at h1
 have h2 := ce l1 b1 sz R (j + 1) a.caller hR1 hf.2.1 (by omega)
 rw [← e2] at h2
 have h3 := fH l2 b1 sz R (j + 2) a.number hR2 hf.2.2.1 (by omega)
 rw [← e3] at h3
 have h4 := ce l3 b1 sz R (j + 38) a.poll hR38 hf.2.2.2 (by omega)
 rw [← e4] at h4
 clear e1 e2 e3 e4 d1 el eb
 rw [hk] at hR0
 repeat' ((first | apply ai | apply ah | apply am | apply au | refine aq rfl ?_ | apply al | apply aj | apply ae | apply ak mixed | (with_reducible first | refine af ?_ | refine ar (f := .c (.fn 32 [])) ?_ | refine ar (f := .c (.fn 33 [])) ?_ | refine ar (f := .c (.fn 34 [])) ?_ | refine ao ?_ | refine ab (h1) (by simp) ?_ | refine ab (h2) (by simp) ?_ | refine ab (h3) (by simp) ?_ | refine ab (h4) (by simp) ?_) | (refine aa ?_ ?_ <;> intro hc <;> (try simp only [hc]) <;> try simp at hc) | (with_reducible refine ⟨?_, ?_⟩; (focus ((repeat' with_reducible refine ⟨?_, ?_⟩) <;> first | exact trivial | assumption | (simp; done) | (simp only [List.length_map] at *; omega) | omega | (simp [fs]; done) | exact ay))) | (with_reducible intro x hx) | omega) <;> (try simp only [hR0, Nat.reduceBEq, reduceIte, Nat.reduceEqDiff, Nat.reduceAdd, Nat.reduceSub, Nat.reduceLT, reduceCtorEq, cond_true, Int.reduceBEq, beq_self_eq_true, fw, fd]))
 refine aw [0, 1, 2, 3] (by rfl) (by simp) (by simp [fg])
def kY (a : As) : List UInt8 := aX (uI a.kind) ++ (aX (uI a.caller) ++ (aX (uI a.number) ++ (aX (zz a.til))))
def qh (a : As) : Bool := decide (11 < uI a.kind)
def ug (a : As) : Prop := cR a.kind ∧ ((0 ≤ a.caller ∧ a.caller ≤ 4294967295) ∧ ((0 ≤ a.number ∧ a.number ≤ 18446744073709551615) ∧ (cR a.til)))
set_option maxHeartbeats 2000000 in
theorem wR (l : List UInt8) (bad : Bool) (sz : Nat) (R : List D) (j : Nat) (a : As) (hk : a.kind = 11) (hR0 : R[j]? = some (.int .i64 a.kind)) (hR1 : R[j + 1]? = some (.int .u32 a.caller)) (hR2 : R[j + 2]? = some (.int .u64 a.number)) (hR41 : R[j + 41]? = some (.int .i64 a.til)) (hf : ug a) (hl : (l ++ kY a).length ≤ 1099511627776) :
  az Try.prog 18 [.ptr 0 0 0 1, .ptr 3 0 j 1] [Cw 1 bad, Ww 2 l.length, aU true 1 true (r8 l), Va sz R] (.tup [])
   [Cw 1 (bad || qh a), Ww 2 (l ++ kY a).length, aU true 1 true (r8 (l ++ kY a)), Va sz R] := by
 refine aK Try.func18 low18 (by simp [c18]) ?_
 simp only [c18]
 unfold ug at hf
 obtain ⟨l1, e1⟩ : ∃ l1, l1 = l ++ aX (uI a.kind) := ⟨_, rfl⟩
 obtain ⟨b1, d1⟩ : ∃ b1, b1 = (bad || decide (11 < uI a.kind)) := ⟨_, rfl⟩
 obtain ⟨l2, e2⟩ : ∃ l2, l2 = l1 ++ aX (uI a.caller) := ⟨_, rfl⟩
 obtain ⟨l3, e3⟩ : ∃ l3, l3 = l2 ++ aX (uI a.number) := ⟨_, rfl⟩
 obtain ⟨l4, e4⟩ : ∃ l4, l4 = l3 ++ aX (zz a.til) := ⟨_, rfl⟩
 have el : l ++ kY a = l4 := by rw [e4, e3, e2, e1]; simp only [kY, List.append_assoc]
 have eb : (bad || qh a) = b1 := by rw [d1]; simp only [qh]
 rw [el] at hl
 rw [el, eb]
 have g3 : l3.length ≤ l4.length := by rw [e4, List.length_append]; omega
 have g2 : l2.length ≤ l3.length := by rw [e3, List.length_append]; omega
 have g1 : l1.length ≤ l2.length := by rw [e2, List.length_append]; omega
 have g0 : l.length ≤ l1.length := by rw [e1, List.length_append]; omega
 have h1 := bF l bad sz R j 11 a.kind hR0 hf.1 (by omega) (by omega)
 rw [← e1, ← d1] at h1
 have h2 := ce l1 b1 sz R (j + 1) a.caller hR1 hf.2.1 (by omega)
 rw [← e2] at h2
 have h3 := fH l2 b1 sz R (j + 2) a.number hR2 hf.2.2.1 (by omega)
 rw [← e3] at h3
 have h4 := cy l3 b1 sz R (j + 41) a.til hR41 hf.2.2.2 (by omega)
 rw [← e4] at h4
 clear e1 e2 e3 e4 d1 el eb
 rw [hk] at hR0
 repeat' ((first | apply ai | apply ah | apply am | apply au | refine aq rfl ?_ | apply al | apply aj | apply ae | apply ak mixed | (with_reducible first | refine af ?_ | refine ar (f := .c (.fn 32 [])) ?_ | refine ar (f := .c (.fn 33 [])) ?_ | refine ar (f := .c (.fn 34 [])) ?_ | refine ar (f := .c (.fn 39 [])) ?_ | refine ao ?_ | refine ab (h1) (by simp) ?_ | refine ab (h2) (by simp) ?_ | refine ab (h3) (by simp) ?_ | refine ab (h4) (by simp) ?_) | (refine aa ?_ ?_ <;> intro hc <;> (try simp only [hc]) <;> try simp at hc) | (with_reducible refine ⟨?_, ?_⟩; (focus ((repeat' with_reducible refine ⟨?_, ?_⟩) <;> first | exact trivial | assumption | (simp; done) | (simp only [List.length_map] at *; omega) | omega | (simp [fs]; done) | exact ay))) | (with_reducible intro x hx) | omega) <;> (try simp only [hR0, Nat.reduceBEq, reduceIte, Nat.reduceEqDiff, Nat.reduceAdd, Nat.reduceSub, Nat.reduceLT, reduceCtorEq, cond_true, Int.reduceBEq, beq_self_eq_true, fw, fd]))
 refine aw [0, 1, 2, 3] (by rfl) (by simp) (by simp [fg])
def vJ (a : As) : List UInt8 := aX (uI a.kind) ++ (aX (uI a.caller) ++ (aX (uI a.number)))
def xA0 (a : As) : Bool := true
def fA0 (a : As) : Prop := cR a.kind ∧ ((0 ≤ a.caller ∧ a.caller ≤ 4294967295) ∧ ((0 ≤ a.number ∧ a.number ≤ 18446744073709551615)))
set_option maxHeartbeats 2000000 in
theorem cA0_w (l : List UInt8) (bad : Bool) (sz : Nat) (R : List D) (j : Nat) (a : As) (hk : ∀ c : Int, 1 ≤ c → c ≤ 11 → (a.kind == c) = false) (hR0 : R[j]? = some (.int .i64 a.kind)) (hR1 : R[j + 1]? = some (.int .u32 a.caller)) (hR2 : R[j + 2]? = some (.int .u64 a.number)) (hf : fA0 a) (hl : (l ++ vJ a).length ≤ 1099511627776) :
  az Try.prog 18 [.ptr 0 0 0 1, .ptr 3 0 j 1] [Cw 1 bad, Ww 2 l.length, aU true 1 true (r8 l), Va sz R] (.tup [])
   [Cw 1 (bad || xA0 a), Ww 2 (l ++ vJ a).length, aU true 1 true (r8 (l ++ vJ a)), Va sz R] := by
 refine aK Try.func18 low18 (by simp [c18]) ?_
 simp only [c18]
 unfold fA0 at hf
 obtain ⟨l1, e1⟩ : ∃ l1, l1 = l ++ aX (uI a.kind) := ⟨_, rfl⟩
 obtain ⟨b1, d1⟩ : ∃ b1, b1 = (bad || decide (11 < uI a.kind)) := ⟨_, rfl⟩
 obtain ⟨l2, e2⟩ : ∃ l2, l2 = l1 ++ aX (uI a.caller) := ⟨_, rfl⟩
 obtain ⟨l3, e3⟩ : ∃ l3, l3 = l2 ++ aX (uI a.number) := ⟨_, rfl⟩
 have el : l ++ vJ a = l3 := by rw [e3, e2, e1]; simp only [vJ, List.append_assoc]
 have eb : (bad || xA0 a) = true := by simp only [xA0, Bool.or_true]
 rw [el] at hl
 rw [el, eb]
 have g2 : l2.length ≤ l3.length := by rw [e3, List.length_append]; omega
 have g1 : l1.length ≤ l2.length := by rw [e2, List.length_append]; omega
 have g0 : l.length ≤ l1.length := by rw [e1, List.length_append]; omega
 have h1 := bF l bad sz R j 11 a.kind hR0 hf.1 (by omega) (by omega)
 rw [← e1, ← d1] at h1
 have h2 := ce l1 b1 sz R (j + 1) a.caller hR1 hf.2.1 (by omega)
 rw [← e2] at h2
 have h3 := fH l2 b1 sz R (j + 2) a.number hR2 hf.2.2 (by omega)
 rw [← e3] at h3
 clear e1 e2 e3 d1 el eb
 have u1 := hk 1 (by omega) (by omega)
 have u2 := hk 2 (by omega) (by omega)
 have u3 := hk 3 (by omega) (by omega)
 have u4 := hk 4 (by omega) (by omega)
 have u5 := hk 5 (by omega) (by omega)
 have u6 := hk 6 (by omega) (by omega)
 have u7 := hk 7 (by omega) (by omega)
 have u8 := hk 8 (by omega) (by omega)
 have u9 := hk 9 (by omega) (by omega)
 have u10 := hk 10 (by omega) (by omega)
 have u11 := hk 11 (by omega) (by omega)
 repeat' ((first | apply ai | apply ah | apply am | apply au | refine aq rfl ?_ | apply al | apply aj | apply ae | apply ak mixed | (with_reducible first | refine af ?_ | refine ar (f := .c (.fn 32 [])) ?_ | refine ar (f := .c (.fn 33 [])) ?_ | refine ar (f := .c (.fn 34 [])) ?_ | refine ao ?_ | refine ab (h1) (by simp) ?_ | refine ab (h2) (by simp) ?_ | refine ab (h3) (by simp) ?_) | (refine aa ?_ ?_ <;> intro hc <;> (try simp only [hc]) <;> try simp at hc) | (with_reducible refine ⟨?_, ?_⟩; (focus ((repeat' with_reducible refine ⟨?_, ?_⟩) <;> first | exact trivial | assumption | (simp; done) | (simp only [List.length_map] at *; omega) | omega | (simp [fs]; done) | exact ay))) | (with_reducible intro x hx) | omega) <;> (try simp only [hR0, u1, u2, u3, u4, u5, u6, u7, u8, u9, u10, u11, Nat.reduceBEq, reduceIte, Nat.reduceEqDiff, Nat.reduceAdd, Nat.reduceSub, Nat.reduceLT, reduceCtorEq, cond_true, fw, fd]))
 refine aw [0, 1, 2, 3] (by rfl) (by simp) (by simp [fg])
structure jI (a : As) : Prop where
 kind : cR a.kind
 caller : 0 ≤ a.caller ∧ a.caller ≤ 4294967295
 number : 0 ≤ a.number ∧ a.number ≤ 18446744073709551615
 id : 0 ≤ a.id ∧ a.id ≤ 4294967295
 se : vN a.se
 ev : yn a.ev
 qu : uA a.qu
 cursor : a.cursor.size ≤ 1099511627776
 count : cR a.count
 poll : 0 ≤ a.poll ∧ a.poll ≤ 4294967295
 slot : cR a.slot
 til : cR a.til
def eM (a : As) : List UInt8 := if a.kind = 1 then tX a else if a.kind = 2 then rv a else if a.kind = 3 then tY a else if a.kind = 4 then tW a else if a.kind = 5 then tP a else if a.kind = 6 then tT a else if a.kind = 7 then tU a else if a.kind = 8 then t7 a else if a.kind = 9 then tQ a else if a.kind = 10 then kZ a else if a.kind = 11 then kY a else vJ a
def yw (a : As) : Bool := if a.kind = 1 then yB a else if a.kind = 2 then xH a else if a.kind = 3 then yA a else if a.kind = 4 then yq a else if a.kind = 5 then yx a else if a.kind = 6 then yi a else if a.kind = 7 then yy a else if a.kind = 8 then yk a else if a.kind = 9 then yu a else if a.kind = 10 then rr a else if a.kind = 11 then qh a else xA0 a
set_option maxHeartbeats 2000000 in
theorem ask_w (l : List UInt8) (bad : Bool) (a : As) (hf : jI a) (hl : (l ++ eM a).length ≤ 1099511627776) :
  az Try.prog 18 [.ptr 0 0 0 1, .ptr 3 0 0 1] [Cw 1 bad, Ww 2 l.length, aU true 1 true (r8 l), Va 42 a.cells] (.tup [])
   [Cw 1 (bad || yw a), Ww 2 (l ++ eM a).length, aU true 1 true (r8 (l ++ eM a)), Va 42 a.cells] := by
 unfold eM yw
 unfold eM at hl
 by_cases k1 : a.kind = 1
 ·simp only [k1, Int.reduceEq, reduceIte] at hl ⊢
  exact cA1_w l bad 42 a.cells 0 a k1 rfl rfl rfl rfl rfl rfl rfl rfl rfl ⟨hf.kind, hf.caller, hf.number, hf.se⟩ hl
 by_cases k2 : a.kind = 2
 ·simp only [k2, Int.reduceEq, reduceIte] at hl ⊢
  exact vF l bad 42 a.cells 0 a k2 rfl rfl rfl ⟨hf.kind, hf.caller, hf.number⟩ hl
 by_cases k3 : a.kind = 3
 ·simp only [k3, Int.reduceEq, reduceIte] at hl ⊢
  exact cA3_w l bad 42 a.cells 0 a k3 rfl rfl rfl rfl rfl rfl rfl rfl rfl rfl rfl rfl rfl rfl rfl rfl rfl rfl rfl rfl ⟨hf.kind, hf.caller, hf.number, hf.id, hf.ev⟩ hl
 by_cases k4 : a.kind = 4
 ·simp only [k4, Int.reduceEq, reduceIte] at hl ⊢
  exact cA4_w l bad 42 a.cells 0 a k4 rfl rfl rfl rfl ⟨hf.kind, hf.caller, hf.number, hf.id⟩ hl
 by_cases k5 : a.kind = 5
 ·simp only [k5, Int.reduceEq, reduceIte] at hl ⊢
  exact cA5_w l bad 42 a.cells 0 a k5 rfl rfl rfl rfl rfl rfl rfl rfl rfl rfl rfl rfl rfl rfl ⟨hf.kind, hf.caller, hf.number, hf.qu, hf.cursor, hf.count⟩ hl
 by_cases k6 : a.kind = 6
 ·simp only [k6, Int.reduceEq, reduceIte] at hl ⊢
  exact cA6_w l bad 42 a.cells 0 a k6 rfl rfl rfl rfl rfl rfl rfl rfl rfl rfl rfl rfl rfl rfl rfl ⟨hf.kind, hf.caller, hf.number, hf.poll, hf.qu, hf.count, hf.til⟩ hl
 by_cases k7 : a.kind = 7
 ·simp only [k7, Int.reduceEq, reduceIte] at hl ⊢
  exact cA7_w l bad 42 a.cells 0 a k7 rfl rfl rfl rfl rfl rfl ⟨hf.kind, hf.caller, hf.number, hf.poll, hf.slot, trivial⟩ hl
 by_cases k8 : a.kind = 8
 ·simp only [k8, Int.reduceEq, reduceIte] at hl ⊢
  exact cA8_w l bad 42 a.cells 0 a k8 rfl rfl rfl rfl ⟨hf.kind, hf.caller, hf.number, hf.poll⟩ hl
 by_cases k9 : a.kind = 9
 ·simp only [k9, Int.reduceEq, reduceIte] at hl ⊢
  exact cA9_w l bad 42 a.cells 0 a k9 rfl rfl rfl rfl rfl ⟨hf.kind, hf.caller, hf.number, hf.poll, hf.id⟩ hl
 by_cases k10 : a.kind = 10
 ·simp only [k10, Int.reduceEq, reduceIte] at hl ⊢
  exact xA l bad 42 a.cells 0 a k10 rfl rfl rfl rfl ⟨hf.kind, hf.caller, hf.number, hf.poll⟩ hl
 by_cases k11 : a.kind = 11
 ·simp only [k11, Int.reduceEq, reduceIte] at hl ⊢
  exact wR l bad 42 a.cells 0 a k11 rfl rfl rfl rfl ⟨hf.kind, hf.caller, hf.number, hf.til⟩ hl
 simp only [k1, k2, k3, k4, k5, k6, k7, k8, k9, k10, k11, reduceIte] at hl ⊢
 exact cA0_w l bad 42 a.cells 0 a (fun c h1 h2 => beq_eq_false_iff_ne.2 (by omega)) rfl rfl rfl ⟨hf.kind, hf.caller, hf.number⟩ hl
end Go.Proofs.Ytgefljdclekadaa
