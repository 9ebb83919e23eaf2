import Derived.Test.YtgefljdclekadaaGreatWMC
import Derived.Test.YtgefljdclekadaaGreatVi25
import Derived.Test.YtgefljdclekadaaGreatWMD
import Derived.Test.YtgefljdclekadaaGreatWME
import Derived.Test.YtgefljdclekadaaGreatWMG
set_option linter.unusedVariables false
set_option linter.unusedSimpArgs false
namespace Go.Proofs.YtgefljdclekadaaGreat
open Go Go.Vi
abbrev Bd (S : List UInt8) (bad : Bool) : D := .agg [.str (bs S), .bool bad]
def nZ (f : Nat) (qs : List D) (S : List UInt8) (bad x : Bool) (e : List UInt8) : Prop :=
 ∃ S', aP Tryz.prog f (Bd S bad :: qs) (Bd S' (bad || x)) ∧ ((bad || x) = false → S' = S ++ e) ∧ S'.length ≤ S.length + e.length
theorem bN (S : List UInt8) (bad : Bool) (n : Int) (m : Nat) (hn : dv n) (hm : m < 9223372036854775808) (hl : S.length ≤ 1099511628776) :
  nZ 23 [.int .i64 n, .int .i64 m] S bad (decide (m < uI n)) (bl (uI n)) := by
 have h10 := bv (cy n)
 by_cases h1 : n < 0
 ·have c1 : (n < 0) = True := by simpa using h1
  have hx : decide (m < uI n) = true := by
   have h3 : uI n = (n + 18446744073709551616).toNat := by have := hn.1; unfold uI; omega
   have := hn.1
   rw [h3, zO]
   omega
  refine ⟨S, ?_, fun h => absurd h (by rw [hx, Bool.or_true]; simp), by omega⟩
  rw [hx, Bool.or_true]
  refine bf Tryz.func23 low23 (by simp [c23]) ?_
  simp only [c23]
  repeat' ((first | apply ah | apply al | apply ai | apply af | apply ab | apply ak mixed | apply ap mixed | (with_reducible first | refine ac ?_ | refine aw ?_) | simp (disch := omega) only [aW, aF, aK, aL, bg, zI, zH] | ((first | refine aj ?_ ?_ | refine aa ?_ ?_) <;> intro hc <;> (try simp only [hc]) <;> try simp at hc) | (with_reducible refine ⟨?_, ?_⟩; (focus ((repeat' with_reducible refine ⟨?_, ?_⟩) <;> first | exact trivial | assumption | (simp; done) | (simp only [zA] at *; omega) | omega | (simp [fs]; done) | exact ax))) | (with_reducible intro x hx) | omega) <;> (try simp only [ce, c1, Nat.reduceBEq, reduceIte, Nat.reduceAdd, Nat.reduceLeDiff, reduceCtorEq, cond_true, ne_eq, fw, fd]))
 ·have c1 : (n < 0) = False := by simpa using h1
  have hu : ((uI n : Nat) : Int) = n := by have := hn.2; unfold uI; omega
  by_cases h2 : n > m
  ·have c2 : (n > (m : Int)) = True := by simpa using h2
   have hx : decide (m < uI n) = true := by simp only [zO]; omega
   refine ⟨S, ?_, fun h => absurd h (by rw [hx, Bool.or_true]; simp), by omega⟩
   rw [hx, Bool.or_true]
   refine bf Tryz.func23 low23 (by simp [c23]) ?_
   simp only [c23]
   repeat' ((first | apply ah | apply al | apply ai | apply af | apply ab | apply ak mixed | apply ap mixed | (with_reducible first | refine ac ?_ | refine aw ?_) | simp (disch := omega) only [aW, aF, aK, aL, bg, zI, zH] | ((first | refine aj ?_ ?_ | refine aa ?_ ?_) <;> intro hc <;> (try simp only [hc]) <;> try simp at hc) | (with_reducible refine ⟨?_, ?_⟩; (focus ((repeat' with_reducible refine ⟨?_, ?_⟩) <;> first | exact trivial | assumption | (simp; done) | (simp only [zA] at *; omega) | omega | (simp [fs]; done) | exact ax))) | (with_reducible intro x hx) | omega) <;> (try simp only [ce, c1, c2, Nat.reduceBEq, reduceIte, Nat.reduceAdd, Nat.reduceLeDiff, reduceCtorEq, cond_false, ne_eq, fw, fd]))
  ·have c2 : (n > (m : Int)) = False := by simpa using h2
   have hx : decide (m < uI n) = false := by simp only [decide_eq_false_iff_not]; omega
   refine ⟨S ++ bl (uI n), ?_, fun _ => rfl, by rw [zB]; omega⟩
   rw [hx, zR]
   have e := (i2 (l := S) (m := bl (uI n))).symm
   have hw := rE n
   refine bf Tryz.func23 low23 (by simp [c23]) ?_
   simp only [c23]
   repeat' ((first | apply ah | apply al | apply ai | apply af | apply ab | apply ak mixed | apply ap mixed | (with_reducible first | refine ac ?_ | refine aw ?_) | refine ae (fA (uI n) _ rfl (cy n)) ?_ ?_ | simp (disch := omega) only [aW, aF, aK, aL, bg, zI, zH] | ((first | refine aj ?_ ?_ | refine aa ?_ ?_) <;> intro hc <;> (try simp only [hc]) <;> try simp at hc) | (with_reducible refine ⟨?_, ?_⟩; (focus ((repeat' with_reducible refine ⟨?_, ?_⟩) <;> first | exact trivial | assumption | (simp; done) | (simp only [zA] at *; omega) | omega | (simp [fs]; done) | exact ax))) | (with_reducible intro x hx) | omega) <;> (try simp only [ce, dq, c1, c2, e, hw, Nat.reduceBEq, reduceIte, Nat.reduceAdd, Nat.reduceSub, Nat.reduceLeDiff, reduceCtorEq, cond_false, ne_eq, fw, fd]))
theorem bU (S : List UInt8) (bad : Bool) (n : Int) (hn : 0 ≤ n ∧ n ≤ 18446744073709551615) (hl : S.length ≤ 1099511628776) :
  nZ 24 [.int .u64 n] S bad false (bl (uI n)) := by
 have h10 := bv (cy n)
 have e := (i2 (l := S) (m := bl (uI n))).symm
 refine ⟨S ++ bl (uI n), ?_, fun _ => rfl, by rw [zB]; omega⟩
 rw [zR]
 refine bf Tryz.func24 low24 (by simp [c24]) ?_
 simp only [c24]
 repeat' ((first | apply ah | apply ai | apply af | apply ak mixed | apply ap mixed | (with_reducible first | refine ac ?_ | refine aw ?_) | refine ae (fA (uI n) _ (dX hn.1 hn.2).symm (cy n)) ?_ ?_ | simp (disch := omega) only [aW, aF, aK, aL, bg, zI, zH] | (with_reducible refine ⟨?_, ?_⟩; (focus ((repeat' with_reducible refine ⟨?_, ?_⟩) <;> first | exact trivial | assumption | (simp; done) | (simp only [zA] at *; omega) | omega | (simp [fs]; done) | exact ax))) | (with_reducible intro x hx) | omega) <;> (try simp only [ce, dq, e, Nat.reduceBEq, reduceIte, Nat.reduceAdd, Nat.reduceSub, Nat.reduceLeDiff, reduceCtorEq, ne_eq, fw, fd]))
theorem bM (S : List UInt8) (bad : Bool) (n : Int) (hn : dv n) (hl : S.length ≤ 1099511628776) :
  nZ 25 [.int .i64 n] S bad false (bl (zz n)) := by
 have h10 := bv (fu hn.1 hn.2)
 have e := (i2 (l := S) (m := bl (zz n))).symm
 refine ⟨S ++ bl (zz n), ?_, fun _ => rfl, by rw [zB]; omega⟩
 rw [zR]
 refine bf Tryz.func25 low25 (by simp [c25]) ?_
 simp only [c25]
 repeat' ((first | apply ah | apply ai | apply af | apply ak mixed | apply ap mixed | (with_reducible first | refine ac ?_ | refine aw ?_) | refine ae (jF n hn.1 hn.2) ?_ ?_ | simp (disch := omega) only [aW, aF, aK, aL, bg, zI, zH] | (with_reducible refine ⟨?_, ?_⟩; (focus ((repeat' with_reducible refine ⟨?_, ?_⟩) <;> first | exact trivial | assumption | (simp; done) | (simp only [zA] at *; omega) | omega | (simp [fs]; done) | exact ax))) | (with_reducible intro x hx) | omega) <;> (try simp only [ce, dq, e, Nat.reduceBEq, reduceIte, Nat.reduceAdd, Nat.reduceSub, Nat.reduceLeDiff, reduceCtorEq, ne_eq, fw, fd]))
theorem bF (S : List UInt8) (bad : Bool) (b : Bool) (hl : S.length ≤ 1099511628776) :
  nZ 27 [.bool b] S bad false (mZ b) := by
 have e := (i2 (l := S) (m := mZ b)).symm
 have hf := su b
 refine ⟨S ++ mZ b, ?_, fun _ => rfl, by rw [zB]; omega⟩
 have h1 : (mZ b).length = 1 := rfl
 rw [zR]
 rw [show (if b then 1 else 0) = (if b then (1 : UInt8) else 0) from rfl, show ([if b then (1 : UInt8) else 0]) = mZ b from rfl] at hf
 generalize mZ b = q at *
 refine bf Tryz.func27 low27 (by simp [c27]) ?_
 simp only [c27]
 repeat' ((first | apply ah | apply ai | apply af | apply ak mixed | apply ap mixed | (with_reducible first | refine ac ?_ | refine aw ?_) | refine ae (hf) ?_ ?_ | simp (disch := omega) only [aW, aF, aK, aL, bg, zI, zH] | (with_reducible refine ⟨?_, ?_⟩; (focus ((repeat' with_reducible refine ⟨?_, ?_⟩) <;> first | exact trivial | assumption | (simp; done) | (simp only [zA] at *; omega) | omega | (simp [fs]; done) | exact ax))) | (with_reducible intro x hx) | omega) <;> (try simp only [ce, dq, e, Nat.reduceBEq, reduceIte, Nat.reduceAdd, Nat.reduceSub, Nat.reduceLeDiff, reduceCtorEq, ne_eq, fw, fd]))
end Go.Proofs.YtgefljdclekadaaGreat

namespace Go.Proofs.YtgefljdclekadaaGreat
open Go Go.Vi
abbrev Vb (S : List UInt8) (bad : Bool) : Ob := Va 2 [.str (bs S), .bool bad]
def bI {α : Type} (bad : Bool) (m : Nat) (x : α → Bool) (xs : List α) (i : Nat) : Bool := bad || (decide (m < xs.length) || (xs.take i).any x)
theorem cD {α : Type} {bad : Bool} {m : Nat} {x : α → Bool} {xs : List α} : bI bad m x xs 0 = (bad || decide (m < xs.length)) := by simp [bI]
theorem cm {α : Type} {bad : Bool} {m : Nat} {x : α → Bool} {xs : List α} {i : Nat} {y : α} (h : xs[i]? = some y) : bI bad m x xs (i + 1) = (bI bad m x xs i || x y) := by
 unfold bI
 rw [gw x h, zQ, zQ]
theorem df {α : Type} {bad : Bool} {m : Nat} {x : α → Bool} {xs : List α} : bI bad m x xs xs.length = (bad || bn x m xs) := by
 unfold bI bn
 rw [List.take_length]
def yd {α : Type} (S : List UInt8) (bad : Bool) (m : Nat) (e : α → List UInt8) (x : α → Bool) (xs : List α) (i : Nat) (S' : List UInt8) : Prop :=
 i ≤ xs.length ∧ (bI bad m x xs i = false → S' = S ++ (bl xs.length ++ (xs.take i).flatMap e)) ∧ S'.length ≤ S.length + (bl xs.length ++ (xs.take i).flatMap e).length
theorem dA {k : Nat} (h : k < 18446744073709551616) : uI (k : Int) = k := by unfold uI; omega
theorem oq {α : Type} {S : List UInt8} {bad : Bool} {m : Nat} {e : α → List UInt8} {x : α → Bool} {xs : List α} {S' : List UInt8} (h1 : (bad || decide (m < xs.length)) = false → S' = S ++ bl xs.length) (h2 : S'.length ≤ S.length + (bl xs.length).length) : yd S bad m e x xs 0 S' := by
 refine ⟨Nat.zero_le _, fun h => ?_, by simpa using h2⟩
 rw [cD] at h
 simpa using h1 h
theorem oj {α : Type} {S : List UInt8} {bad : Bool} {m : Nat} {e : α → List UInt8} {x : α → Bool} {xs : List α} {i : Nat} {y : α} {S' S2 : List UInt8} (hy : xs[i]? = some y) (h : yd S bad m e x xs i S')
  (h1 : bI bad m x xs (i + 1) = false → S2 = S' ++ e y) (h2 : S2.length ≤ S'.length + (e y).length) : yd S bad m e x xs (i + 1) S2 := by
 obtain ⟨a, b, c⟩ := h
 have hi : i < xs.length := (zG.1 hy).1
 refine ⟨hi, fun h => ?_, ?_⟩
 ·have h3 := h
  rw [cm hy, zM] at h3
  rw [h1 h, b h3.1, fS e hy]
  simp only [zJ]
 ·rw [fS e hy]
  simp only [zB] at c ⊢
  omega
theorem pz {α : Type} {S : List UInt8} {bad : Bool} {m : Nat} {e : α → List UInt8} {x : α → Bool} {xs : List α} {i : Nat} {S' : List UInt8} (h : yd S bad m e x xs i S') (hl : (S ++ aY e xs).length ≤ 1099511627776) : S'.length ≤ 1099511627776 := by
 have h1 := h.2.2
 have h2 := lV e xs i
 unfold aY at hl
 simp only [zB] at h1 hl
 omega
theorem qK {α : Type} {S : List UInt8} {bad : Bool} {m : Nat} {e : α → List UInt8} {x : α → Bool} {xs : List α} {S' : List UInt8} (h : yd S bad m e x xs xs.length S') :
  ((bad || bn x m xs) = false → S' = S ++ aY e xs) ∧ S'.length ≤ S.length + (aY e xs).length := by
 obtain ⟨a, b, c⟩ := h
 rw [df] at b
 rw [List.take_length] at b c
 exact ⟨b, c⟩
theorem qn {P : Nat → List UInt8 → Prop} {Rel : Nat → List UInt8 → List UInt8 → Prop} {S1 : List UInt8} (h0 : P 0 S1) : ∀ n : Nat, (∀ i S, i < n → P i S → ∃ S2, Rel i S S2 ∧ P (i + 1) S2) →
  ∃ s : Nat → List UInt8, s 0 = S1 ∧ P n (s n) ∧ ∀ i, i < n → P i (s i) ∧ Rel i (s i) (s (i + 1))
 | 0, _ => ⟨fun _ => S1, rfl, h0, fun i hi => by omega⟩
 | n + 1, h => by
  obtain ⟨s, e0, hn, hs⟩ := qn h0 n fun i S hi => h i S (by omega)
  obtain ⟨S2, hr, hp⟩ := h n (s n) (by omega) hn
  refine ⟨fun i => if i ≤ n then s i else S2, by simp [e0], ?_, fun i hi => ?_⟩
  ·simp only [show ¬ n + 1 ≤ n by omega, if_false]; exact hp
  ·by_cases hlt : i < n
   ·simp only [show i ≤ n by omega, show i + 1 ≤ n by omega, if_true]
    exact hs i hlt
   ·obtain rfl : i = n := by omega
    simp only [Nat.le_refl, show ¬ i + 1 ≤ i by omega, if_true, if_false]
    exact ⟨hn, hr⟩
theorem eg {α : Type} {S : List UInt8} {bad : Bool} {m : Nat} {e : α → List UInt8} {x : α → Bool} {f : α → Prop} {xs : List α} {S1 : List UInt8} {Rel : α → Bool → List UInt8 → List UInt8 → Prop} (hf : ∀ y ∈ xs, f y) (hl : (S ++ aY e xs).length ≤ 1099511627776)
  (h1 : (bad || decide (m < xs.length)) = false → S1 = S ++ bl xs.length) (h2 : S1.length ≤ S.length + (bl xs.length).length)
  (hb : ∀ y, f y → ∀ S b, S.length ≤ 1099511627776 → ∃ S2, Rel y b S S2 ∧ ((b || x y) = false → S2 = S ++ e y) ∧ S2.length ≤ S.length + (e y).length) :
  ∃ s : Nat → List UInt8, s 0 = S1 ∧ (((bad || bn x m xs) = false → s xs.length = S ++ aY e xs) ∧ (s xs.length).length ≤ S.length + (aY e xs).length) ∧
   ∀ i y, xs[i]? = some y → (s i).length ≤ 1099511627776 ∧ Rel y (bI bad m x xs i) (s i) (s (i + 1)) := by
 obtain ⟨s, e0, hn, hs⟩ := qn (P := yd S bad m e x xs) (Rel := fun i S' S2 => ∀ y, xs[i]? = some y → Rel y (bI bad m x xs i) S' S2) (S1 := S1) (oq h1 h2) xs.length (fun i S' hi hp => by
  obtain ⟨y, hy⟩ : ∃ y, xs[i]? = some y := ⟨_, zD hi⟩
  obtain ⟨S2, r1, r2, r3⟩ := hb y (hf y (zE hy)) S' (bI bad m x xs i) (pz hp hl)
  refine ⟨S2, fun z hz => ?_, oj hy hp (by rw [cm hy]; exact r2) r3⟩
  rw [hy] at hz
  cases hz
  exact r1)
 refine ⟨s, e0, qK hn, fun i y hy => ?_⟩
 have hi : i < xs.length := (zG.1 hy).1
 exact ⟨pz (hs i hi).1 hl, (hs i hi).2 y hy⟩
set_option maxHeartbeats 2000000 in
theorem mQ (S : List UInt8) (bad : Bool) (xs : List Int) (m : Nat) (hm : m < 9223372036854775808) (hxl : xs.length ≤ 140737488351232) (hx : ∀ x ∈ xs, xG x) (hl : (S ++ aY pm xs).length ≤ 1099511627776) :
  nZ 68 [L (aJ .i64 xs), .int .i64 m] S bad (bn pe m xs) (aY pm xs) := by
 have hS : S.length ≤ 1099511627776 := by rw [zB] at hl; omega
 obtain ⟨S1, h1, e1, g1⟩ := bN S bad xs.length m (by constructor <;> omega) hm (by omega)
 rw [dA (by omega)] at h1 e1 g1
 obtain ⟨s, e0, ⟨e2, g2⟩, hs⟩ := eg (x := pe) (Rel := fun y b S S2 => aP Tryz.prog 25 [Bd S b, .int .i64 y] (Bd S2 b)) hx hl e1 g1 (fun y hy S b hl => by
  obtain ⟨S2, a1, a2, a3⟩ := bM S b y hy (by omega)
  rw [zR] at a1 a2
  exact ⟨S2, a1, by rw [show pe y = false from rfl, zR]; exact a2, a3⟩)
 subst e0
 rw [← cD (x := pe)] at h1
 refine ⟨s xs.length, ?_, e2, g2⟩
 rw [← df]
 clear e1 g1 e2 g2
 refine bf Tryz.func68 low68 (by simp [c68]) ?_
 simp only [c68]
 repeat' ((first | apply ah | apply al | apply ao | apply av | refine aq rfl ?_ | apply ai | apply af | apply ab | apply ak mixed | apply ap mixed | (with_reducible first | refine ac ?_ | refine ar ?_ | refine aw ?_) | refine ae (h1) ?_ ?_ | simp (disch := omega) only [aW, aF, aK, aL, bg, zI, zH] | (refine aa ?_ ?_ <;> intro hc <;> (try simp only [hc]) <;> try simp at hc) | (with_reducible refine ⟨?_, ?_⟩; (focus ((repeat' with_reducible refine ⟨?_, ?_⟩) <;> first | exact trivial | assumption | (simp; done) | (simp only [zA] at *; omega) | omega | (simp [fs]; done) | exact ax))) | (with_reducible intro x hx) | omega) <;> (try simp only [ce, aI, Nat.reduceBEq, reduceIte, Nat.reduceAdd, reduceCtorEq, ne_eq, fw, fd]))
 refine aM (ι := {i : Nat // i ≤ xs.length}) (fun i => ([(1, L (aJ .i64 xs)), (3, .ptr 0 0 0 1), (6, .ptr 1 0 0 1), (14, .int .i64 xs.length), (15, .int .i64 i.1)], [Vb (s i.1) (bI bad m pe xs i.1), Vb [] false])) (fun i => xs.length - i.1) ⟨0, by omega⟩ ?_ ?_
 ·refine aC [0, 1] (by rfl) (by simp) (by simp [fg]) (by simp [fg])
 rintro ⟨i, hi⟩ hk
 dsimp only at hk ⊢
 by_cases hlt : i < xs.length
 ·have c1 : ((i : Int) < (xs.length : Int)) = True := by simp; omega
  obtain ⟨y, hy⟩ : ∃ y, xs[i]? = some y := ⟨_, zD hlt⟩
  have hr := bS (k := .i64) hy
  have r1 := (hs i y hy).2
  have hb : bI bad m pe xs (i + 1) = bI bad m pe xs i := by rw [cm hy, show pe y = false from rfl, zR]
  repeat' ((first | apply ah | apply al | apply ao | apply av | refine aq rfl ?_ | apply ai | apply af | apply ab | apply ak mixed | apply ap mixed | (with_reducible first | refine ac ?_ | refine ar ?_ | refine aw ?_) | refine ae (r1) ?_ ?_ | simp (disch := omega) only [aW] | (refine aa ?_ ?_ <;> intro hc <;> (try simp only [hc]) <;> try simp at hc) | (with_reducible refine ⟨?_, ?_⟩; (focus ((repeat' with_reducible refine ⟨?_, ?_⟩) <;> first | exact trivial | assumption | (simp; done) | (simp only [zA] at *; omega) | omega | (simp [fs]; done) | exact ax))) | (with_reducible intro x hx) | omega) <;> (try simp only [aI, c1, hr, Nat.reduceBEq, reduceIte, Nat.reduceAdd, fw, fd]))
  refine hk ⟨i + 1, by omega⟩ _ _ (by dsimp only; omega) ?_
  dsimp only
  rw [hb]
  refine aC [0, 1] (by rfl) (by simp) (by simp [fg]) (by simp [fg])
 ·have c1 : ((i : Int) < (xs.length : Int)) = False := by simp; omega
  obtain rfl : i = xs.length := by omega
  repeat' ((first | apply ah | apply al | apply ao | apply av | refine aq rfl ?_ | apply ai | apply af | apply ab | apply ak mixed | apply ap mixed | (with_reducible first | refine ac ?_ | refine ar ?_ | refine aw ?_) | simp (disch := omega) only [aW, aF, aK, aL, bg, zI, zH] | (refine aa ?_ ?_ <;> intro hc <;> (try simp only [hc]) <;> try simp at hc) | (with_reducible refine ⟨?_, ?_⟩; (focus ((repeat' with_reducible refine ⟨?_, ?_⟩) <;> first | exact trivial | assumption | (simp; done) | (simp only [zA] at *; omega) | omega | (simp [fs]; done) | exact ax))) | (with_reducible intro x hx) | omega) <;> (try simp only [c1, Nat.reduceBEq, reduceIte, Nat.reduceAdd, fw, fd]))
end Go.Proofs.YtgefljdclekadaaGreat

namespace Go.Proofs.YtgefljdclekadaaGreat
open Go Go.Vi
def uH (y : Int × Int × Int) (b : Bool) (S S2 : List UInt8) : Prop := ∃ T1 T2, aP Tryz.prog 23 [Bd S b, .int .i64 y.1, .int .i64 127] (Bd T1 (b || decide (127 < uI y.1))) ∧ aP Tryz.prog 23 [Bd T1 (b || decide (127 < uI y.1)), .int .i64 y.2.1, .int .i64 1440] (Bd T2 ((b || decide (127 < uI y.1)) || decide (1440 < uI y.2.1))) ∧ aP Tryz.prog 23 [Bd T2 ((b || decide (127 < uI y.1)) || decide (1440 < uI y.2.1)), .int .i64 y.2.2, .int .i64 1440] (Bd S2 (((b || decide (127 < uI y.1)) || decide (1440 < uI y.2.1)) || decide (1440 < uI y.2.2)))
theorem exSh (y : Int × Int × Int) (hy : tx y) (S : List UInt8) (b : Bool) (hl : S.length ≤ 1099511627776) : ∃ S2, uH y b S S2 ∧ ((b || iX y) = false → S2 = S ++ lR y) ∧ S2.length ≤ S.length + (lR y).length := by
 unfold tx at hy
 have w0 := bv (cy y.1)
 obtain ⟨U1, a0, c0, l0⟩ := bN S b y.1 127 hy.1 (by omega) (by omega)
 have w1 := bv (cy y.2.1)
 obtain ⟨U2, a1, c1, l1⟩ := bN U1 (b || decide (127 < uI y.1)) y.2.1 1440 hy.2.1 (by omega) (by omega)
 have w2 := bv (cy y.2.2)
 obtain ⟨U3, a2, c2, l2⟩ := bN U2 ((b || decide (127 < uI y.1)) || decide (1440 < uI y.2.1)) y.2.2 1440 hy.2.2 (by omega) (by omega)
 refine ⟨U3, ⟨U1, U2, a0, a1, a2⟩, fun h => ?_, by simp only [lR, zB]; omega⟩
 unfold iX at h
 simp only [← zQ] at h
 have h2 := h
 have h1 := (zM.1 h2).1
 have h0 := (zM.1 h1).1
 rw [c2 h2, c1 h1, c0 h0]
 simp only [lR, zJ]
def uF (y : Int) (b : Bool) (S S2 : List UInt8) : Prop := aP Tryz.prog 24 [Bd S b, .int .u64 y] (Bd S2 b)
theorem exMu (y : Int) (hy : vt y) (S : List UInt8) (b : Bool) (hl : S.length ≤ 1099511627776) : ∃ S2, uF y b S S2 ∧ ((b || nH y) = false → S2 = S ++ nO y) ∧ S2.length ≤ S.length + (nO y).length := by
 unfold vt at hy
 have w0 := bv (cy y)
 obtain ⟨U1, a0, c0, l0⟩ := bU S b y ⟨hy.1, by have := hy.2; omega⟩ (by omega)
 rw [zR] at a0 c0
 refine ⟨U1, a0, fun h => ?_, by simp only [nO]; omega⟩
 unfold nH at h
 rw [zR] at h
 have h0 := h
 rw [c0 h0]
 rfl
def xQ (y : Int × Int) (b : Bool) (S S2 : List UInt8) : Prop := ∃ T1, aP Tryz.prog 24 [Bd S b, .int .u64 y.1] (Bd T1 b) ∧ aP Tryz.prog 23 [Bd T1 b, .int .i64 y.2, .int .i64 1000] (Bd S2 (b || decide (1000 < uI y.2)))
theorem exWa (y : Int × Int) (hy : vC y) (S : List UInt8) (b : Bool) (hl : S.length ≤ 1099511627776) : ∃ S2, xQ y b S S2 ∧ ((b || nN y) = false → S2 = S ++ mX y) ∧ S2.length ≤ S.length + (mX y).length := by
 unfold vC at hy
 have w0 := bv (cy y.1)
 obtain ⟨U1, a0, c0, l0⟩ := bU S b y.1 ⟨hy.1.1, by have := hy.1.2; omega⟩ (by omega)
 rw [zR] at a0 c0
 have w1 := bv (cy y.2)
 obtain ⟨U2, a1, c1, l1⟩ := bN U1 b y.2 1000 hy.2 (by omega) (by omega)
 refine ⟨U2, ⟨U1, a0, a1⟩, fun h => ?_, by simp only [mX, zB]; omega⟩
 unfold nN at h
 have h1 := h
 have h0 := (zM.1 h1).1
 rw [c1 h1, c0 h0]
 simp only [mX, zJ]
def xN (y : Int × Int) (b : Bool) (S S2 : List UInt8) : Prop := ∃ T1, aP Tryz.prog 24 [Bd S b, .int .u64 y.1] (Bd T1 b) ∧ aP Tryz.prog 24 [Bd T1 b, .int .u64 y.2] (Bd S2 b)
theorem exPa (y : Int × Int) (hy : vv y) (S : List UInt8) (b : Bool) (hl : S.length ≤ 1099511627776) : ∃ S2, xN y b S S2 ∧ ((b || nJ y) = false → S2 = S ++ mT y) ∧ S2.length ≤ S.length + (mT y).length := by
 unfold vv at hy
 have w0 := bv (cy y.1)
 obtain ⟨U1, a0, c0, l0⟩ := bU S b y.1 ⟨hy.1.1, by have := hy.1.2; omega⟩ (by omega)
 rw [zR] at a0 c0
 have w1 := bv (cy y.2)
 obtain ⟨U2, a1, c1, l1⟩ := bU U1 b y.2 ⟨hy.2.1, by have := hy.2.2; omega⟩ (by omega)
 rw [zR] at a1 c1
 refine ⟨U2, ⟨U1, a0, a1⟩, fun h => ?_, by simp only [mT, zB]; omega⟩
 unfold nJ at h
 rw [zR] at h
 have h1 := h
 have h0 := h1
 rw [c1 h1, c0 h0]
 simp only [mT, zJ]
set_option maxHeartbeats 4000000 in
set_option maxRecDepth 8000 in
theorem ti (S : List UInt8) (bad : Bool) (xs : List (Int × Int × Int)) (hf : vr xs) (hl : (S ++ ke xs).length ≤ 1099511627776) :
  nZ 80 [L (bo xs), .int .i64 8] S bad (pc 8 xs) (ke xs) := by
 unfold vr at hf
 unfold ke at hl
 simp only [zB] at hl
 have u1 := dA (k := xs.length) (by have := hf.1; omega)
 obtain ⟨Q1, h1, p1, q1⟩ := bN S bad xs.length 8 (by have := hf.1; constructor <;> omega) (by omega) (by omega)
 rw [u1] at h1 p1 q1
 obtain ⟨s1, z1, ⟨c1, g1⟩, r1⟩ := eg (x := iX) (e := lR) (Rel := uH) hf.2 (by rw [zB]; omega) p1 q1 exSh
 rw [← z1, ← cD (x := iX)] at h1
 obtain ⟨b1, d1⟩ : ∃ b1, b1 = (bad || bn iX 8 xs) := ⟨_, rfl⟩
 have y1 : bI bad 8 iX xs xs.length = b1 := by rw [df, d1]
 rw [← d1] at c1
 obtain ⟨S1, t1⟩ : ∃ S1, S1 = s1 xs.length := ⟨_, rfl⟩
 rw [← t1] at c1 g1
 have eb : (bad || pc 8 xs) = b1 := by rw [d1]; simp only [pc]
 refine ⟨S1, ?_, fun h => ?_, by unfold ke; (try simp only [zB]); omega⟩
 rotate_left
 ·rw [eb] at h
  have k1 := h
  rw [c1 k1]
  simp only [ke]
 rw [eb]
 clear eb c1 d1
 refine bf Tryz.func80 low80 (by simp [c80]) ?_
 simp only [c80]
 repeat' ((first | apply ah | apply al | apply ao | apply av | refine aq rfl ?_ | apply ai | apply af | apply ab | apply ak mixed | apply ap mixed | (with_reducible first | refine ac ?_ | refine ar ?_ | refine aw ?_) | refine ae (h1) ?_ ?_ | simp (disch := omega) only [aW, aF, aK, aL, bg, zI, zH] | (refine aa ?_ ?_ <;> intro hc <;> (try simp only [hc]) <;> try simp at hc) | (with_reducible refine ⟨?_, ?_⟩; (focus ((repeat' with_reducible refine ⟨?_, ?_⟩) <;> first | exact trivial | assumption | (simp; done) | (simp only [zA] at *; omega) | omega | (simp [fs]; done) | exact ax))) | (with_reducible intro x hx) | omega) <;> (try simp only [ce, aR, Nat.reduceBEq, reduceIte, Nat.reduceAdd, reduceCtorEq, ne_eq, fw, fd]))
 refine aM (ι := {i : Nat // i ≤ xs.length}) (fun i => ([(1, L (bo xs)), (3, .ptr 0 0 0 1), (6, .ptr 1 0 0 1), (14, .int .i64 xs.length), (15, .int .i64 i.1)], [Vb (s1 i.1) (bI bad 8 iX xs i.1), Vb [] false])) (fun i => xs.length - i.1) ⟨0, by omega⟩ ?_ ?_
 ·refine aC [0, 1] (by rfl) (by simp) (by simp [fg]) (by simp [fg])
 rintro ⟨i, hi⟩ hk
 dsimp only at hk ⊢
 by_cases hlt : i < xs.length
 ·have c1 : ((i : Int) < (xs.length : Int)) = True := by simp; omega
  obtain ⟨y, hy⟩ : ∃ y, xs[i]? = some y := ⟨_, zD hlt⟩
  have hr := dj hy
  have hb : bI bad 8 iX xs (i + 1) = (bI bad 8 iX xs i || iX y) := cm hy
  have hm := hf.2 y (zE hy)
  unfold tx at hm
  obtain ⟨W1, W2, v0, v1, v2⟩ := (r1 i y hy).2
  repeat' ((first | apply ah | apply al | apply ao | apply av | refine aq rfl ?_ | apply ai | apply af | apply ab | apply ak mixed | apply ap mixed | (with_reducible first | refine ac ?_ | refine ar ?_ | refine aw ?_) | refine ae (v0) ?_ ?_ | refine ae (v1) ?_ ?_ | refine ae (v2) ?_ ?_ | simp (disch := omega) only [aW] | (refine aa ?_ ?_ <;> intro hc <;> (try simp only [hc]) <;> try simp at hc) | (with_reducible refine ⟨?_, ?_⟩; (focus ((repeat' with_reducible refine ⟨?_, ?_⟩) <;> first | exact trivial | assumption | (simp; done) | (simp only [zA] at *; omega) | omega | (simp [fs]; done) | exact ax))) | (with_reducible intro x hx) | omega) <;> (try simp only [aR, c1, hr, Nat.reduceBEq, reduceIte, Nat.reduceAdd, fw, fd]))
  refine hk ⟨i + 1, by omega⟩ _ _ (by dsimp only; omega) ?_
  dsimp only
  rw [hb]
  unfold iX
  simp only [← zQ]
  refine aC [0, 1] (by rfl) (by simp) (by simp [fg]) (by simp [fg])
 have c1 : ((i : Int) < (xs.length : Int)) = False := by simp; omega
 obtain rfl : i = xs.length := by omega
 clear hk hlt hi
 rw [← t1, y1]
 repeat' ((first | apply ah | apply al | apply ao | apply av | refine aq rfl ?_ | apply ai | apply af | apply ab | apply ak mixed | apply ap mixed | (with_reducible first | refine ac ?_ | refine ar ?_ | refine aw ?_) | simp (disch := omega) only [aW, aF, aK, aL, bg, zI, zH] | (refine aa ?_ ?_ <;> intro hc <;> (try simp only [hc]) <;> try simp at hc) | (with_reducible refine ⟨?_, ?_⟩; (focus ((repeat' with_reducible refine ⟨?_, ?_⟩) <;> first | exact trivial | assumption | (simp; done) | (simp only [zA] at *; omega) | omega | (simp [fs]; done) | exact ax))) | (with_reducible intro x hx) | omega) <;> (try simp only [c1, Nat.reduceBEq, reduceIte, Nat.reduceAdd, fw, fd]))
set_option maxHeartbeats 4000000 in
set_option maxRecDepth 8000 in
theorem yh (S : List UInt8) (bad : Bool) (q : Qu) (hf : vw q) (hl : (S ++ pj q).length ≤ 1099511627776) :
  nZ 67 [.agg q.cells] S bad (vn q) (pj q) := by
 unfold vw at hf
 unfold pj at hl
 simp only [zB] at hl
 obtain ⟨S1, h1, c1, g1⟩ := bM S bad q.a hf.1 (by omega)
 rw [zR] at h1 c1
 obtain ⟨S2, h2, c2, g2⟩ := bM S1 bad q.b hf.2.1 (by omega)
 rw [zR] at h2 c2
 obtain ⟨S3, h3, c3, g3⟩ := bN S2 bad q.long 10080 hf.2.2.1 (by omega) (by omega)
 obtain ⟨b3, d3⟩ : ∃ b3, b3 = (bad || decide (10080 < uI q.long)) := ⟨_, rfl⟩
 rw [← d3] at h3 c3
 obtain ⟨S4, h4, c4, g4⟩ := bN S3 b3 q.grid 1440 hf.2.2.2.1 (by omega) (by omega)
 obtain ⟨b4, d4⟩ : ∃ b4, b4 = (b3 || decide (1440 < uI q.grid)) := ⟨_, rfl⟩
 rw [← d4] at h4 c4
 have u5 := dA (k := q.must.length) (by have := hf.2.2.2.2.1.1; omega)
 obtain ⟨Q5, h5, p5, q5⟩ := bN S4 b4 q.must.length 64 (by have := hf.2.2.2.2.1.1; constructor <;> omega) (by omega) (by omega)
 rw [u5] at h5 p5 q5
 obtain ⟨s5, z5, ⟨c5, g5⟩, r5⟩ := eg (x := nH) (e := nO) (Rel := uF) hf.2.2.2.2.1.2 (by rw [zB]; omega) p5 q5 exMu
 rw [← z5, ← cD (x := nH)] at h5
 obtain ⟨b5, d5⟩ : ∃ b5, b5 = (b4 || bn nH 64 q.must) := ⟨_, rfl⟩
 have y5 : bI b4 64 nH q.must q.must.length = b5 := by rw [df, d5]
 rw [← d5] at c5
 obtain ⟨S5, t5⟩ : ∃ S5, S5 = s5 q.must.length := ⟨_, rfl⟩
 rw [← t5] at c5 g5
 have u6 := dA (k := q.may.length) (by have := hf.2.2.2.2.2.1.1; omega)
 obtain ⟨Q6, h6, p6, q6⟩ := bN S5 b5 q.may.length 16 (by have := hf.2.2.2.2.2.1.1; constructor <;> omega) (by omega) (by omega)
 rw [u6] at h6 p6 q6
 obtain ⟨s6, z6, ⟨c6, g6⟩, r6⟩ := eg (x := nN) (e := mX) (Rel := xQ) hf.2.2.2.2.2.1.2 (by rw [zB]; omega) p6 q6 exWa
 rw [← z6, ← cD (x := nN)] at h6
 obtain ⟨b6, d6⟩ : ∃ b6, b6 = (b5 || bn nN 16 q.may) := ⟨_, rfl⟩
 have y6 : bI b5 16 nN q.may q.may.length = b6 := by rw [df, d6]
 rw [← d6] at c6
 obtain ⟨S6, t6⟩ : ∃ S6, S6 = s6 q.may.length := ⟨_, rfl⟩
 rw [← t6] at c6 g6
 obtain ⟨S7, h7, c7, g7⟩ := bN S6 b6 q.seats 100 hf.2.2.2.2.2.2.1 (by omega) (by omega)
 obtain ⟨b7, d7⟩ : ∃ b7, b7 = (b6 || decide (100 < uI q.seats)) := ⟨_, rfl⟩
 rw [← d7] at h7 c7
 have u8 := dA (k := q.apart.length) (by have := hf.2.2.2.2.2.2.2.1.1; omega)
 obtain ⟨Q8, h8, p8, q8⟩ := bN S7 b7 q.apart.length 32 (by have := hf.2.2.2.2.2.2.2.1.1; constructor <;> omega) (by omega) (by omega)
 rw [u8] at h8 p8 q8
 obtain ⟨s8, z8, ⟨c8, g8⟩, r8⟩ := eg (x := nJ) (e := mT) (Rel := xN) hf.2.2.2.2.2.2.2.1.2 (by rw [zB]; omega) p8 q8 exPa
 rw [← z8, ← cD (x := nJ)] at h8
 obtain ⟨b8, d8⟩ : ∃ b8, b8 = (b7 || bn nJ 32 q.apart) := ⟨_, rfl⟩
 have y8 : bI b7 32 nJ q.apart q.apart.length = b8 := by rw [df, d8]
 rw [← d8] at c8
 obtain ⟨S8, t8⟩ : ∃ S8, S8 = s8 q.apart.length := ⟨_, rfl⟩
 rw [← t8] at c8 g8
 obtain ⟨S9, h9, c9, g9⟩ := ti S8 b8 q.prefer hf.2.2.2.2.2.2.2.2 (by rw [zB]; omega)
 obtain ⟨b9, d9⟩ : ∃ b9, b9 = (b8 || pc 8 q.prefer) := ⟨_, rfl⟩
 rw [← d9] at h9 c9
 have eb : (bad || vn q) = b9 := by rw [d9, d8, d7, d6, d5, d4, d3]; simp only [vn, zQ]
 refine ⟨S9, ?_, fun h => ?_, by unfold pj; (try simp only [zB]); omega⟩
 rotate_left
 ·rw [eb] at h
  have k9 := h
  have k8 := k9
  rw [d9, zM] at k8
  replace k8 := k8.1
  have k7 := k8
  rw [d8, zM] at k7
  replace k7 := k7.1
  have k6 := k7
  rw [d7, zM] at k6
  replace k6 := k6.1
  have k5 := k6
  rw [d6, zM] at k5
  replace k5 := k5.1
  have k4 := k5
  rw [d5, zM] at k4
  replace k4 := k4.1
  have k3 := k4
  rw [d4, zM] at k3
  replace k3 := k3.1
  have k2 := k3
  rw [d3, zM] at k2
  replace k2 := k2.1
  have k1 := k2
  rw [c9 k9, c8 k8, c7 k7, c6 k6, c5 k5, c4 k4, c3 k3, c2 k2, c1 k1]
  simp only [pj, zJ]
 rw [eb]
 clear eb c1 c2 c3 c4 c5 c6 c7 c8 c9 d3 d4 d5 d6 d7 d8 d9
 unfold Qu.cells
 refine bf Tryz.func67 low67 (by simp [c67]) ?_
 simp only [c67]
 repeat' ((first | apply ah | apply al | apply ao | apply av | refine aq rfl ?_ | apply ai | apply af | apply ab | apply ak mixed | apply ap mixed | (with_reducible first | refine ac ?_ | refine ar ?_ | refine aw ?_) | refine ae (h1) ?_ ?_ | refine ae (h2) ?_ ?_ | refine ae (h3) ?_ ?_ | refine ae (h4) ?_ ?_ | refine ae (h5) ?_ ?_ | refine ae (h6) ?_ ?_ | refine ae (h7) ?_ ?_ | refine ae (h8) ?_ ?_ | refine ae (h9) ?_ ?_ | simp (disch := omega) only [aW, aF, aK, aL, bg, zI, zH] | (refine aa ?_ ?_ <;> intro hc <;> (try simp only [hc]) <;> try simp at hc) | (with_reducible refine ⟨?_, ?_⟩; (focus ((repeat' with_reducible refine ⟨?_, ?_⟩) <;> first | exact trivial | assumption | (simp; done) | (simp only [zA] at *; omega) | omega | (simp [fs]; done) | exact ax))) | (with_reducible intro x hx) | omega) <;> (try simp only [ce, aI, Nat.reduceBEq, reduceIte, Nat.reduceAdd, reduceCtorEq, ne_eq, fw, fd]))
 refine aM (ι := {i : Nat // i ≤ q.must.length}) (fun i => ([(2, .ptr 0 0 0 1), (3, .ptr 1 0 0 1), (4, .ptr 2 0 0 1), (29, .int .i64 q.must.length), (30, .int .i64 i.1)], [Vb (s5 i.1) (bI b4 64 nH q.must i.1), Va 9 [.int .i64 q.a, .int .i64 q.b, .int .i64 q.long, .int .i64 q.grid, L (aJ .u32 q.must), L (aV .u32 .i64 q.may), .int .i64 q.seats, L (aV .u32 .u32 q.apart), L (bo q.prefer)], Vb [] false])) (fun i => q.must.length - i.1) ⟨0, by omega⟩ ?_ ?_
 ·refine aC [0, 1, 2] (by rfl) (by simp) (by simp [fg]) (by simp [fg])
 rintro ⟨i, hi⟩ hk
 dsimp only at hk ⊢
 by_cases hlt : i < q.must.length
 ·have c1 : ((i : Int) < (q.must.length : Int)) = True := by simp; omega
  obtain ⟨y, hy⟩ : ∃ y, q.must[i]? = some y := ⟨_, zD hlt⟩
  have hr := bS (k := .u32) hy
  have hb : bI b4 64 nH q.must (i + 1) = (bI b4 64 nH q.must i || nH y) := cm hy
  have hm := hf.2.2.2.2.1.2 y (zE hy)
  unfold vt at hm
  have v0 := (r5 i y hy).2
  unfold uF at v0
  have o0 : IntKind.u64.wrap y = y := by rw [dm]; have := hm; omega
  repeat' ((first | apply ah | apply al | apply ao | apply av | refine aq rfl ?_ | apply ai | apply af | apply ab | apply ak mixed | apply ap mixed | (with_reducible first | refine ac ?_ | refine ar ?_ | refine aw ?_) | refine ae (v0) ?_ ?_ | simp (disch := omega) only [aW] | (refine aa ?_ ?_ <;> intro hc <;> (try simp only [hc]) <;> try simp at hc) | (with_reducible refine ⟨?_, ?_⟩; (focus ((repeat' with_reducible refine ⟨?_, ?_⟩) <;> first | exact trivial | assumption | (simp; done) | (simp only [zA] at *; omega) | omega | (simp [fs]; done) | exact ax))) | (with_reducible intro x hx) | omega) <;> (try simp only [aI, c1, hr, o0, Nat.reduceBEq, reduceIte, Nat.reduceAdd, fw, fd]))
  refine hk ⟨i + 1, by omega⟩ _ _ (by dsimp only; omega) ?_
  dsimp only
  rw [hb]
  unfold nH
  rw [zR]
  refine aC [0, 1, 2] (by rfl) (by simp) (by simp [fg]) (by simp [fg])
 have c1 : ((i : Int) < (q.must.length : Int)) = False := by simp; omega
 obtain rfl : i = q.must.length := by omega
 clear hk hlt hi
 rw [← t5, y5]
 repeat' ((first | apply ah | apply al | apply ao | apply av | refine aq rfl ?_ | apply ai | apply af | apply ab | apply ak mixed | apply ap mixed | (with_reducible first | refine ac ?_ | refine ar ?_ | refine aw ?_) | refine ae (h6) ?_ ?_ | refine ae (h7) ?_ ?_ | refine ae (h8) ?_ ?_ | refine ae (h9) ?_ ?_ | simp (disch := omega) only [aW, aF, aK, aL, bg, zI, zH] | (refine aa ?_ ?_ <;> intro hc <;> (try simp only [hc]) <;> try simp at hc) | (with_reducible refine ⟨?_, ?_⟩; (focus ((repeat' with_reducible refine ⟨?_, ?_⟩) <;> first | exact trivial | assumption | (simp; done) | (simp only [zA] at *; omega) | omega | (simp [fs]; done) | exact ax))) | (with_reducible intro x hx) | omega) <;> (try simp only [aD, c1, Nat.reduceBEq, reduceIte, Nat.reduceAdd, fw, fd]))
 refine aM (ι := {i : Nat // i ≤ q.may.length}) (fun i => ([(2, .ptr 0 0 0 1), (3, .ptr 1 0 0 1), (4, .ptr 2 0 0 1), (49, .int .i64 q.may.length), (50, .int .i64 i.1)], [Vb (s6 i.1) (bI b5 16 nN q.may i.1), Va 9 [.int .i64 q.a, .int .i64 q.b, .int .i64 q.long, .int .i64 q.grid, L (aJ .u32 q.must), L (aV .u32 .i64 q.may), .int .i64 q.seats, L (aV .u32 .u32 q.apart), L (bo q.prefer)], Vb [] false])) (fun i => q.may.length - i.1) ⟨0, by omega⟩ ?_ ?_
 ·refine aC [0, 1, 2] (by rfl) (by simp) (by simp [fg]) (by simp [fg])
 rintro ⟨i, hi⟩ hk
 dsimp only at hk ⊢
 by_cases hlt : i < q.may.length
 ·have c1 : ((i : Int) < (q.may.length : Int)) = True := by simp; omega
  obtain ⟨y, hy⟩ : ∃ y, q.may[i]? = some y := ⟨_, zD hlt⟩
  have hr := bu (k := .u32) (m := .i64) hy
  have hb : bI b5 16 nN q.may (i + 1) = (bI b5 16 nN q.may i || nN y) := cm hy
  have hm := hf.2.2.2.2.2.1.2 y (zE hy)
  unfold vC at hm
  obtain ⟨W1, v0, v1⟩ := (r6 i y hy).2
  have o0 : IntKind.u64.wrap y.1 = y.1 := by rw [dm]; have := hm.1; omega
  repeat' ((first | apply ah | apply al | apply ao | apply av | refine aq rfl ?_ | apply ai | apply af | apply ab | apply ak mixed | apply ap mixed | (with_reducible first | refine ac ?_ | refine ar ?_ | refine aw ?_) | refine ae (v0) ?_ ?_ | refine ae (v1) ?_ ?_ | simp (disch := omega) only [aW] | (refine aa ?_ ?_ <;> intro hc <;> (try simp only [hc]) <;> try simp at hc) | (with_reducible refine ⟨?_, ?_⟩; (focus ((repeat' with_reducible refine ⟨?_, ?_⟩) <;> first | exact trivial | assumption | (simp; done) | (simp only [zA] at *; omega) | omega | (simp [fs]; done) | exact ax))) | (with_reducible intro x hx) | omega) <;> (try simp only [aD, c1, hr, o0, Nat.reduceBEq, reduceIte, Nat.reduceAdd, fw, fd]))
  refine hk ⟨i + 1, by omega⟩ _ _ (by dsimp only; omega) ?_
  dsimp only
  rw [hb]
  unfold nN
  refine aC [0, 1, 2] (by rfl) (by simp) (by simp [fg]) (by simp [fg])
 have c1 : ((i : Int) < (q.may.length : Int)) = False := by simp; omega
 obtain rfl : i = q.may.length := by omega
 clear hk hlt hi
 rw [← t6, y6]
 repeat' ((first | apply ah | apply al | apply ao | apply av | refine aq rfl ?_ | apply ai | apply af | apply ab | apply ak mixed | apply ap mixed | (with_reducible first | refine ac ?_ | refine ar ?_ | refine aw ?_) | refine ae (h7) ?_ ?_ | refine ae (h8) ?_ ?_ | refine ae (h9) ?_ ?_ | simp (disch := omega) only [aW, aF, aK, aL, bg, zI, zH] | (refine aa ?_ ?_ <;> intro hc <;> (try simp only [hc]) <;> try simp at hc) | (with_reducible refine ⟨?_, ?_⟩; (focus ((repeat' with_reducible refine ⟨?_, ?_⟩) <;> first | exact trivial | assumption | (simp; done) | (simp only [zA] at *; omega) | omega | (simp [fs]; done) | exact ax))) | (with_reducible intro x hx) | omega) <;> (try simp only [aD, c1, Nat.reduceBEq, reduceIte, Nat.reduceAdd, reduceCtorEq, fw, fd]))
 refine aM (ι := {i : Nat // i ≤ q.apart.length}) (fun i => ([(2, .ptr 0 0 0 1), (3, .ptr 1 0 0 1), (4, .ptr 2 0 0 1), (80, .int .i64 q.apart.length), (81, .int .i64 i.1)], [Vb (s8 i.1) (bI b7 32 nJ q.apart i.1), Va 9 [.int .i64 q.a, .int .i64 q.b, .int .i64 q.long, .int .i64 q.grid, L (aJ .u32 q.must), L (aV .u32 .i64 q.may), .int .i64 q.seats, L (aV .u32 .u32 q.apart), L (bo q.prefer)], Vb [] false])) (fun i => q.apart.length - i.1) ⟨0, by omega⟩ ?_ ?_
 ·refine aC [0, 1, 2] (by rfl) (by simp) (by simp [fg]) (by simp [fg])
 rintro ⟨i, hi⟩ hk
 dsimp only at hk ⊢
 by_cases hlt : i < q.apart.length
 ·have c1 : ((i : Int) < (q.apart.length : Int)) = True := by simp; omega
  obtain ⟨y, hy⟩ : ∃ y, q.apart[i]? = some y := ⟨_, zD hlt⟩
  have hr := bu (k := .u32) (m := .u32) hy
  have hb : bI b7 32 nJ q.apart (i + 1) = (bI b7 32 nJ q.apart i || nJ y) := cm hy
  have hm := hf.2.2.2.2.2.2.2.1.2 y (zE hy)
  unfold vv at hm
  obtain ⟨W1, v0, v1⟩ := (r8 i y hy).2
  have o0 : IntKind.u64.wrap y.1 = y.1 := by rw [dm]; have := hm.1; omega
  have o1 : IntKind.u64.wrap y.2 = y.2 := by rw [dm]; have := hm.2; omega
  repeat' ((first | apply ah | apply al | apply ao | apply av | refine aq rfl ?_ | apply ai | apply af | apply ab | apply ak mixed | apply ap mixed | (with_reducible first | refine ac ?_ | refine ar ?_ | refine aw ?_) | refine ae (v0) ?_ ?_ | refine ae (v1) ?_ ?_ | simp (disch := omega) only [aW] | (refine aa ?_ ?_ <;> intro hc <;> (try simp only [hc]) <;> try simp at hc) | (with_reducible refine ⟨?_, ?_⟩; (focus ((repeat' with_reducible refine ⟨?_, ?_⟩) <;> first | exact trivial | assumption | (simp; done) | (simp only [zA] at *; omega) | omega | (simp [fs]; done) | exact ax))) | (with_reducible intro x hx) | omega) <;> (try simp only [aD, c1, hr, o0, o1, Nat.reduceBEq, reduceIte, Nat.reduceAdd, fw, fd]))
  refine hk ⟨i + 1, by omega⟩ _ _ (by dsimp only; omega) ?_
  dsimp only
  rw [hb]
  unfold nJ
  rw [zR]
  refine aC [0, 1, 2] (by rfl) (by simp) (by simp [fg]) (by simp [fg])
 have c1 : ((i : Int) < (q.apart.length : Int)) = False := by simp; omega
 obtain rfl : i = q.apart.length := by omega
 clear hk hlt hi
 rw [← t8, y8]
 repeat' ((first | apply ah | apply al | apply ao | apply av | refine aq rfl ?_ | apply ai | apply af | apply ab | apply ak mixed | apply ap mixed | (with_reducible first | refine ac ?_ | refine ar ?_ | refine aw ?_) | refine ae (h9) ?_ ?_ | simp (disch := omega) only [aW, aF, aK, aL, bg, zI, zH] | (refine aa ?_ ?_ <;> intro hc <;> (try simp only [hc]) <;> try simp at hc) | (with_reducible refine ⟨?_, ?_⟩; (focus ((repeat' with_reducible refine ⟨?_, ?_⟩) <;> first | exact trivial | assumption | (simp; done) | (simp only [zA] at *; omega) | omega | (simp [fs]; done) | exact ax))) | (with_reducible intro x hx) | omega) <;> (try simp only [c1, Nat.reduceBEq, reduceIte, Nat.reduceAdd, fw, fd]))
end Go.Proofs.YtgefljdclekadaaGreat

namespace Go.Proofs.YtgefljdclekadaaGreat
open Go Go.Vi
def xP (y : Int × Int) (b : Bool) (S S2 : List UInt8) : Prop := ∃ T1, aP Tryz.prog 24 [Bd S b, .int .u64 y.1] (Bd T1 b) ∧ aP Tryz.prog 23 [Bd T1 b, .int .i64 y.2, .int .i64 40] (Bd S2 (b || decide (40 < uI y.2)))
theorem exVo (y : Int × Int) (hy : vB y) (S : List UInt8) (b : Bool) (hl : S.length ≤ 1099511627776) : ∃ S2, xP y b S S2 ∧ ((b || nM y) = false → S2 = S ++ mW y) ∧ S2.length ≤ S.length + (mW y).length := by
 unfold vB at hy
 have w0 := bv (cy y.1)
 obtain ⟨U1, a0, c0, l0⟩ := bU S b y.1 ⟨hy.1.1, by have := hy.1.2; omega⟩ (by omega)
 rw [zR] at a0 c0
 have w1 := bv (cy y.2)
 obtain ⟨U2, a1, c1, l1⟩ := bN U1 b y.2 40 hy.2 (by omega) (by omega)
 refine ⟨U2, ⟨U1, a0, a1⟩, fun h => ?_, by simp only [mW, zB]; omega⟩
 unfold nM at h
 have h1 := h
 have h0 := (zM.1 h1).1
 rw [c1 h1, c0 h0]
 simp only [mW, zJ]
set_option maxHeartbeats 4000000 in
set_option maxRecDepth 8000 in
theorem bPoll (S : List UInt8) (bad : Bool) (p : Po) (hf : tw p) (hl : (S ++ gz p).length ≤ 1099511627776) :
  nZ 28 [.agg p.row] S bad (im p) (gz p) := by
 unfold tw at hf
 unfold gz at hl
 simp only [zB] at hl
 obtain ⟨S1, h1, c1, g1⟩ := bU S bad p.id ⟨hf.1.1, by have := hf.1.2; omega⟩ (by omega)
 rw [zR] at h1 c1
 obtain ⟨S2, h2, c2, g2⟩ := bU S1 bad p.owner ⟨hf.2.1.1, by have := hf.2.1.2; omega⟩ (by omega)
 rw [zR] at h2 c2
 obtain ⟨S3, h3, c3, g3⟩ := yh S2 bad p.qu hf.2.2.1 (by rw [zB]; omega)
 obtain ⟨b3, d3⟩ : ∃ b3, b3 = (bad || vn p.qu) := ⟨_, rfl⟩
 rw [← d3] at h3 c3
 obtain ⟨S4, h4, c4, g4⟩ := mQ S3 b3 p.slots 40 (by omega) hf.2.2.2.1.1 hf.2.2.2.1.2 (by rw [zB]; omega)
 obtain ⟨b4, d4⟩ : ∃ b4, b4 = (b3 || bn pe 40 p.slots) := ⟨_, rfl⟩
 rw [← d4] at h4 c4
 have u5 := dA (k := p.votes.length) (by have := hf.2.2.2.2.1.1; omega)
 obtain ⟨Q5, h5, p5, q5⟩ := bN S4 b4 p.votes.length 4096 (by have := hf.2.2.2.2.1.1; constructor <;> omega) (by omega) (by omega)
 rw [u5] at h5 p5 q5
 obtain ⟨s5, z5, ⟨c5, g5⟩, r5⟩ := eg (x := nM) (e := mW) (Rel := xP) hf.2.2.2.2.1.2 (by rw [zB]; omega) p5 q5 exVo
 rw [← z5, ← cD (x := nM)] at h5
 obtain ⟨b5, d5⟩ : ∃ b5, b5 = (b4 || bn nM 4096 p.votes) := ⟨_, rfl⟩
 have y5 : bI b4 4096 nM p.votes p.votes.length = b5 := by rw [df, d5]
 rw [← d5] at c5
 obtain ⟨S5, t5⟩ : ∃ S5, S5 = s5 p.votes.length := ⟨_, rfl⟩
 rw [← t5] at c5 g5
 obtain ⟨S6, h6, c6, g6⟩ := bM S5 b5 p.til hf.2.2.2.2.2.1 (by omega)
 rw [zR] at h6 c6
 obtain ⟨S7, h7, c7, g7⟩ := bN S6 b5 p.state 4 hf.2.2.2.2.2.2.1 (by omega) (by omega)
 obtain ⟨b7, d7⟩ : ∃ b7, b7 = (b5 || decide (4 < uI p.state)) := ⟨_, rfl⟩
 rw [← d7] at h7 c7
 obtain ⟨S8, h8, c8, g8⟩ := bN S7 b7 p.winner 40 hf.2.2.2.2.2.2.2 (by omega) (by omega)
 obtain ⟨b8, d8⟩ : ∃ b8, b8 = (b7 || decide (40 < uI p.winner)) := ⟨_, rfl⟩
 rw [← d8] at h8 c8
 have eb : (bad || im p) = b8 := by rw [d8, d7, d5, d4, d3]; simp only [im, zQ]
 refine ⟨S8, ?_, fun h => ?_, by unfold gz; (try simp only [zB]); omega⟩
 rotate_left
 ·rw [eb] at h
  have k8 := h
  have k7 := k8
  rw [d8, zM] at k7
  replace k7 := k7.1
  have k6 := k7
  rw [d7, zM] at k6
  replace k6 := k6.1
  have k5 := k6
  have k4 := k5
  rw [d5, zM] at k4
  replace k4 := k4.1
  have k3 := k4
  rw [d4, zM] at k3
  replace k3 := k3.1
  have k2 := k3
  rw [d3, zM] at k2
  replace k2 := k2.1
  have k1 := k2
  rw [c8 k8, c7 k7, c6 k6, c5 k5, c4 k4, c3 k3, c2 k2, c1 k1]
  simp only [gz, zJ]
 rw [eb]
 clear eb c1 c2 c3 c4 c5 c6 c7 c8 d3 d4 d5 d7 d8
 unfold Po.row
 unfold Qu.cells at h3
 have oa : IntKind.u64.wrap p.id = p.id := by rw [dm]; have := hf.1; omega
 have ob : IntKind.u64.wrap p.owner = p.owner := by rw [dm]; have := hf.2.1; omega
 refine bf Tryz.func28 low28 (by simp [c28]) ?_
 simp only [c28]
 repeat' ((first | apply ah | apply al | apply ao | apply av | refine aq rfl ?_ | apply ai | apply af | apply ab | apply ak mixed | apply ap mixed | (with_reducible first | refine ac ?_ | refine aw ?_) | refine ae (h1) ?_ ?_ | refine ae (h2) ?_ ?_ | refine ae (h3) ?_ ?_ | refine ae (h4) ?_ ?_ | refine ae (h5) ?_ ?_ | refine ae (h6) ?_ ?_ | refine ae (h7) ?_ ?_ | refine ae (h8) ?_ ?_ | simp (disch := omega) only [aW, aF, aK, aL, bg, zI, zH] | (refine aa ?_ ?_ <;> intro hc <;> (try simp only [hc]) <;> try simp at hc) | (with_reducible refine ⟨?_, ?_⟩; (focus ((repeat' with_reducible refine ⟨?_, ?_⟩) <;> first | exact trivial | assumption | (simp; done) | (simp only [zA] at *; omega) | omega | (simp [fs]; done) | exact ax))) | (with_reducible intro x hx) | omega) <;> (try simp only [ce, aD, oa, ob, Nat.reduceBEq, reduceIte, Nat.reduceAdd, Nat.reduceLeDiff, reduceCtorEq, ne_eq, fw, fd]))
 refine aM (ι := {i : Nat // i ≤ p.votes.length}) (fun i => ([(2, .ptr 0 0 0 1), (3, .ptr 1 0 0 1), (4, .ptr 2 0 0 1), (27, .int .i64 p.votes.length), (28, .int .i64 i.1)], [Vb (s5 i.1) (bI b4 4096 nM p.votes i.1), Va 16 [.int .u32 p.id, .int .u32 p.owner, .int .i64 p.qu.a, .int .i64 p.qu.b, .int .i64 p.qu.long, .int .i64 p.qu.grid, L (aJ .u32 p.qu.must), L (aV .u32 .i64 p.qu.may), .int .i64 p.qu.seats, L (aV .u32 .u32 p.qu.apart), L (bo p.qu.prefer), L (aJ .i64 p.slots), L (aV .u32 .i64 p.votes), .int .i64 p.til, .int .i64 p.state, .int .i64 p.winner], Vb [] false])) (fun i => p.votes.length - i.1) ⟨0, by omega⟩ ?_ ?_
 ·refine aC [0, 1, 2] (by rfl) (by simp) (by simp [fg]) (by simp [fg])
 rintro ⟨i, hi⟩ hk
 dsimp only at hk ⊢
 by_cases hlt : i < p.votes.length
 ·have c1 : ((i : Int) < (p.votes.length : Int)) = True := by simp; omega
  obtain ⟨y, hy⟩ : ∃ y, p.votes[i]? = some y := ⟨_, zD hlt⟩
  have hr := bu (k := .u32) (m := .i64) hy
  have hb : bI b4 4096 nM p.votes (i + 1) = (bI b4 4096 nM p.votes i || nM y) := cm hy
  have hm := hf.2.2.2.2.1.2 y (zE hy)
  unfold vB at hm
  obtain ⟨W1, v0, v1⟩ := (r5 i y hy).2
  have o0 : IntKind.u64.wrap y.1 = y.1 := by rw [dm]; have := hm.1; omega
  repeat' ((first | apply ah | apply al | apply ao | apply av | refine aq rfl ?_ | apply ai | apply af | apply ab | apply ak mixed | apply ap mixed | (with_reducible first | refine ac ?_ | refine aw ?_) | refine ae (v0) ?_ ?_ | refine ae (v1) ?_ ?_ | simp (disch := omega) only [aW] | (refine aa ?_ ?_ <;> intro hc <;> (try simp only [hc]) <;> try simp at hc) | (with_reducible refine ⟨?_, ?_⟩; (focus ((repeat' with_reducible refine ⟨?_, ?_⟩) <;> first | exact trivial | assumption | (simp; done) | (simp only [zA] at *; omega) | omega | (simp [fs]; done) | exact ax))) | (with_reducible intro x hx) | omega) <;> (try simp only [aD, c1, hr, o0, Nat.reduceBEq, reduceIte, Nat.reduceAdd, fw, fd]))
  refine hk ⟨i + 1, by omega⟩ _ _ (by dsimp only; omega) ?_
  dsimp only
  rw [hb]
  unfold nM
  refine aC [0, 1, 2] (by rfl) (by simp) (by simp [fg]) (by simp [fg])
 have c1 : ((i : Int) < (p.votes.length : Int)) = False := by simp; omega
 obtain rfl : i = p.votes.length := by omega
 clear hk hlt hi
 rw [← t5, y5]
 repeat' ((first | apply ah | apply al | apply ao | apply av | refine aq rfl ?_ | apply ai | apply af | apply ab | apply ak mixed | apply ap mixed | (with_reducible first | refine ac ?_ | refine aw ?_) | refine ae (h6) ?_ ?_ | refine ae (h7) ?_ ?_ | refine ae (h8) ?_ ?_ | simp (disch := omega) only [aW, aF, aK, aL, bg, zI, zH] | (refine aa ?_ ?_ <;> intro hc <;> (try simp only [hc]) <;> try simp at hc) | (with_reducible refine ⟨?_, ?_⟩; (focus ((repeat' with_reducible refine ⟨?_, ?_⟩) <;> first | exact trivial | assumption | (simp; done) | (simp only [zA] at *; omega) | omega | (simp [fs]; done) | exact ax))) | (with_reducible intro x hx) | omega) <;> (try simp only [c1, Nat.reduceBEq, reduceIte, Nat.reduceAdd, fw, fd]))
end Go.Proofs.YtgefljdclekadaaGreat
