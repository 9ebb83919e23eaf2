import Derived.Test.YtgefljdclekadaaGreatWMD
import Derived.Test.YtgefljdclekadaaGreatVi25
import Derived.Test.YtgefljdclekadaaGreatVi30
set_option linter.unusedVariables false
set_option linter.unusedSimpArgs false
namespace Go.Proofs.YtgefljdclekadaaGreat
open Go Go.Vi
def fY (l : List (Int × Int × Int)) : List (List D) := l.map fun x => [.int .u32 x.1, .int .u64 x.2.1, .int .u64 x.2.2]
theorem bH {l : List (Int × Int × Int)} : (fY l).length = l.length := by simp [fY]
theorem uW {l : List (Int × Int × Int)} {i : Nat} {x : Int × Int × Int} (h : l[i]? = some x) : (fY l)[i]? = some [.int .u32 x.1, .int .u64 x.2.1, .int .u64 x.2.2] := by simp [fY, h]
abbrev Bx (c : Nat) : Ob := ⟨true, false, false, false, 1, [[.ptr c 0 0 1]], some 0⟩
def aY {α : Type} (e : α → List UInt8) (l : List α) : List UInt8 := bl l.length ++ l.flatMap e
def bn {α : Type} (x : α → Bool) (most : Nat) (l : List α) : Bool := decide (most < l.length) || l.any x
theorem fS {α : Type} (e : α → List UInt8) {l : List α} {i : Nat} {y : α} (h : l[i]? = some y) : (l.take (i + 1)).flatMap e = (l.take i).flatMap e ++ e y := by
 have : l.take (i + 1) = l.take i ++ [y] := by rw [List.take_add_one, h]; rfl
 rw [this]; simp
theorem gw {α : Type} (f : α → Bool) {l : List α} {i : Nat} {y : α} (h : l[i]? = some y) : (l.take (i + 1)).any f = ((l.take i).any f || f y) := by
 have : l.take (i + 1) = l.take i ++ [y] := by rw [List.take_add_one, h]; rfl
 rw [this]; simp
theorem lV {α : Type} (e : α → List UInt8) (l : List α) (i : Nat) : ((l.take i).flatMap e).length ≤ (l.flatMap e).length := by
 have h : l.flatMap e = (l.take i).flatMap e ++ (l.drop i).flatMap e := by rw [← List.flatMap_append, List.take_append_drop]
 rw [h, zB]; omega
set_option maxHeartbeats 4000000 in
theorem f8 {α : Type} {F g n b : Nat} {fn : Func} {z : List D} {rw_ : α → List D} {e : α → List UInt8} {x : α → Bool} {f : α → Prop} (hF : Tryz.prog.funcs[F]? = some fn) (hL : aH Tryz.prog fn = some (du n b (some n) z)) (hg8 : g < bB) (hnp : 0 < n)
  (hz : z.length = n) (hrl : ∀ a, (rw_ a).length = n) (hz1 : z.all D.one = true) (hz2 : z.all D.pt1 = true) (hr1 : ∀ a, (rw_ a).all D.one = true) (hr2 : ∀ a, (rw_ a).all D.pt1 = true) (hsp : ∀ a, splice z 0 (rw_ a) = rw_ a)
  (hel : ∀ (l : List UInt8) (bad : Bool) (a : α), f a → (l ++ e a).length ≤ 1099511627776 → az Tryz.prog g [.ptr 0 0 0 1, .ptr 1 0 0 1] [Va n (rw_ a), Bx 2, Cw 3 bad, Ww 4 l.length, ba true 1 true (r8 l)] (.tup []) [Va n (rw_ a), Bx 2, Cw 3 (bad || x a), Ww 4 (l ++ e a).length, ba true 1 true (r8 (l ++ e a))])
  (l : List UInt8) (bad : Bool) (sz : Nat) (R : List D) (j most : Nat) (xs : List α) (hR : R[j]? = some (L (xs.map rw_))) (hm : most < 9223372036854775808) (hxl : xs.length ≤ 140737488351232) (hx : ∀ x ∈ xs, f x) (hl : (l ++ aY e xs).length ≤ 1099511627776) :
  az Tryz.prog F [.ptr 0 0 0 1, .ptr 3 0 j 1, .int .i64 most, .fn g [.ptr 4 0 0 1]] [Cw 1 bad, Ww 2 l.length, ba true 1 true (r8 l), Va sz R, Bx 0] (.tup [])
   [Cw 1 (bad || bn x most xs), Ww 2 (l ++ aY e xs).length, ba true 1 true (r8 (l ++ aY e xs)), Va sz R, Bx 0] := by
 refine aS hF hL (by simp [du]) ?_
 simp only [du]
 have ui : uI (xs.length : Int) = xs.length := by unfold uI; omega
 have hll : l.length ≤ 1099511627776 := by rw [zB] at hl; omega
 have hn := kJ l bad 1 [.int .u64 xs.length] 0 most xs.length rfl (by omega) (by omega) hll
 rw [ui] at hn
 obtain ⟨l0, e0⟩ : ∃ l0, l0 = l ++ bl xs.length := ⟨_, rfl⟩
 obtain ⟨b0, f0⟩ : ∃ b0, b0 = (bad || decide (most < xs.length)) := ⟨_, rfl⟩
 have el : l ++ aY e xs = l0 ++ xs.flatMap e := by rw [e0]; simp [aY]
 have eb : (bad || bn x most xs) = (b0 || xs.any x) := by rw [f0]; simp [bn, zQ]
 rw [el] at hl
 rw [el, eb]
 rw [← e0, ← f0] at hn
 clear el eb f0
 repeat' ((first | apply ah | apply al | apply ao | apply av | refine aq rfl ?_ | apply ai | apply af | apply ab | apply ak mixed | apply ap mixed | (with_reducible first | refine ac ?_ | refine au ?_ | refine bp ?_ | refine aA (f := .c (.fn 53 [])) ?_ | refine aB (f := .c (.fn 53 [])) ?_ | refine ar ?_ | refine aw ?_ | refine am (hn) (by simp) ?_) | simp (disch := omega) only [aF] | (with_reducible refine aU rfl rfl ?_ ?_; (focus ((try simp only [Wr, be, aI, aD, aR, bH, reduceIte, Nat.sub_zero, fw]) <;> ((repeat' (with_reducible refine And.intro ?_ ?_)) <;> first | exact trivial | assumption | (simp; done) | (simp only [zA] at *; omega) | omega | (simp [fs]; done) | first | exact ax | (intro x hx; subst hx; exact ⟨k1, k2⟩) | (intro x hx; subst hx; exact k1))))) | ((first | refine aj ?_ ?_ | refine aa ?_ ?_) <;> intro hc <;> (try simp only [hc]) <;> try simp at hc) | (with_reducible refine ⟨?_, ?_⟩; (focus ((repeat' with_reducible refine ⟨?_, ?_⟩) <;> first | exact trivial | assumption | (simp; done) | (simp only [zA] at *; omega) | omega | (simp [fs]; done) | first | exact ax | (intro x hx; subst hx; exact ⟨k1, k2⟩) | (intro x hx; subst hx; exact k1)))) | (with_reducible intro x hx) | omega) <;> (try simp only [hR, Nat.reduceBEq, reduceIte, Nat.reduceEqDiff, Nat.reduceAdd, Nat.reduceSub, Nat.reduceLT, reduceCtorEq, cond_false, ne_eq, fw, fd]))
 refine aM (ι := {i : Nat // i ≤ xs.length}) (fun i => ([(1, .ptr 3 0 j 1), (3, .fn g [.ptr 4 0 0 1]), (29, .int .i64 xs.length), (30, .int .i64 i.1)], [Cw 1 (b0 || (xs.take i.1).any x), Ww 2 (l0 ++ (xs.take i.1).flatMap e).length, ba true 1 true (r8 (l0 ++ (xs.take i.1).flatMap e)), Va sz R, Bx 0])) (fun i => xs.length - i.1) ⟨0, by omega⟩ ?_ ?_
 ·simp only [List.take_zero, List.flatMap_nil, List.any_nil, zR, List.append_nil]
  refine aC [0, 1, 2, 3, 4] (by rfl) (by simp) (by simp [fg]) (by simp [fg])
  skip
 rintro ⟨i, hi⟩ hk
 dsimp only at hk ⊢
 by_cases hlt : i < xs.length
 ·have c1 : ((i : Int) < (xs.length : Int)) = True := by simp; omega
  obtain ⟨y, hg⟩ : ∃ y, xs[i]? = some y := ⟨_, zD hlt⟩
  have hr : (xs.map rw_)[i]? = some (rw_ y) := by rw [List.getElem?_map, hg]; rfl
  have hxf := hx y (zE hg)
  have hfm := fS e hg
  have han := gw x hg
  have hle := lV e xs (i + 1)
  obtain ⟨li, ei⟩ : ∃ li, li = l0 ++ (xs.take i).flatMap e := ⟨_, rfl⟩
  obtain ⟨bi, fi⟩ : ∃ bi, bi = (b0 || (xs.take i).any x) := ⟨_, rfl⟩
  have ej : l0 ++ (xs.take (i + 1)).flatMap e = li ++ e y := by rw [ei, hfm, zJ]
  have fj : (b0 || (xs.take (i + 1)).any x) = (bi || x y) := by rw [fi, han, zQ]
  have hlj : (li ++ e y).length ≤ 1099511627776 := by rw [← ej]; simp only [zB] at hl ⊢; omega
  have hw := hel li bi y hxf hlj
  rw [← ei, ← fi]
  obtain ⟨lj, el⟩ : ∃ lj, lj = li ++ e y := ⟨_, rfl⟩
  obtain ⟨bj, fl⟩ : ∃ bj, bj = (bi || x y) := ⟨_, rfl⟩
  rw [← el, ← fl] at hw
  rw [← el] at ej
  rw [← fl] at fj
  have g2 : lj.length ≤ 1099511627776 := by rw [el]; exact hlj
  have g1 : li.length ≤ lj.length := by rw [el, zB]; omega
  clear el fl ei fi
  have k1 := hrl y
  have k2 := hr1 y
  have k3 := hr2 y
  have k4 := hsp y
  have k5 : (rw_ y).take n = rw_ y := by rw [← k1]; exact List.take_length
  generalize rw_ y = ry at hw hr k1 k2 k3 k4 k5
  have hdz : z.drop n = [] := by rw [← hz]; exact List.drop_length
  have hzn : (z = []) = False := eq_false (fun h => by rw [h] at hz; simp at hz; omega)
  repeat' ((first | apply ah | apply al | apply ao | apply av | refine aq rfl ?_ | apply ai | apply af | apply ab | apply ak mixed | apply ap mixed | (with_reducible first | refine ac ?_ | refine au ?_ | refine bp ?_ | refine aA (f := .t 39) ?_ | refine aB (f := .t 39) ?_ | refine ar ?_ | refine aw ?_ | refine am (hw) (hb := hg8) (by simp) ?_) | simp (disch := omega) only [aW] | (with_reducible refine aU rfl rfl ?_ ?_; (focus ((try simp only [Wr, be, aI, aD, aR, bH, reduceIte, Nat.sub_zero, fw]) <;> ((repeat' (with_reducible refine And.intro ?_ ?_)) <;> first | exact trivial | assumption | (simp; done) | (simp only [zA] at *; omega) | omega | (simp [fs]; done) | first | exact ax | (intro x hx; subst hx; exact ⟨k1, k2⟩) | (intro x hx; subst hx; exact k1))))) | ((first | refine aj ?_ ?_ | refine aa ?_ ?_) <;> intro hc <;> (try simp only [hc]) <;> try simp at hc) | (with_reducible refine ⟨?_, ?_⟩; (focus ((repeat' with_reducible refine ⟨?_, ?_⟩) <;> first | exact trivial | assumption | (simp; done) | (simp only [zA] at *; omega) | omega | (simp [fs]; done) | first | exact ax | (intro x hx; subst hx; exact ⟨k1, k2⟩) | (intro x hx; subst hx; exact k1)))) | (with_reducible intro x hx) | omega) <;> (try simp only [hR, c1, hr, hz, hzn, hdz, hz2, k1, k2, k3, k5, Nat.reduceBEq, reduceIte, Nat.reduceEqDiff, Nat.reduceAdd, Nat.reduceSub, Nat.reduceLT, reduceCtorEq, ne_eq, fw, fd]))
  refine hk ⟨i + 1, by omega⟩ _ _ (by dsimp only; omega) ?_
  dsimp only
  rw [ej, fj]
  refine aC [0, 1, 2, 3, 4] (by rfl) (by simp) (by simp [fg]) (by simp [fg])
  skip
 ·have c1 : ((i : Int) < (xs.length : Int)) = False := by simp; omega
  obtain rfl : i = xs.length := by omega
  rw [List.take_length]
  repeat' ((first | apply ah | apply al | apply ao | apply av | refine aq rfl ?_ | apply ai | apply af | apply ab | apply ak mixed | apply ap mixed | (with_reducible first | refine ac ?_ | refine au ?_ | refine bp ?_ | refine ar ?_ | refine aw ?_) | simp (disch := omega) only [aW, aF, aK, aL, bg, zI, zH] | (with_reducible refine aU rfl rfl ?_ ?_; (focus ((try simp only [Wr, be, aI, aD, aR, bH, reduceIte, Nat.sub_zero, fw]) <;> ((repeat' (with_reducible refine And.intro ?_ ?_)) <;> first | exact trivial | assumption | (simp; done) | (simp only [zA] at *; omega) | omega | (simp [fs]; done) | first | exact ax | (intro x hx; subst hx; exact ⟨k1, k2⟩) | (intro x hx; subst hx; exact k1))))) | ((first | refine aj ?_ ?_ | refine aa ?_ ?_) <;> intro hc <;> (try simp only [hc]) <;> try simp at hc) | (with_reducible refine ⟨?_, ?_⟩; (focus ((repeat' with_reducible refine ⟨?_, ?_⟩) <;> first | exact trivial | assumption | (simp; done) | (simp only [zA] at *; omega) | omega | (simp [fs]; done) | first | exact ax | (intro x hx; subst hx; exact ⟨k1, k2⟩) | (intro x hx; subst hx; exact k1)))) | (with_reducible intro x hx) | omega) <;> (try simp only [c1, Nat.reduceBEq, reduceIte, fH, bh, cf, fw]))
  refine ay [0, 1, 2, 3, 4] (by rfl) (by simp) (by simp [fg])
  skip
set_option maxHeartbeats 4000000 in
theorem ji {F g b : Nat} {fn : Func} {kk : IntKind} {e : Int → List UInt8} {x : Int → Bool} {f : Int → Prop} (hF : Tryz.prog.funcs[F]? = some fn) (hL : aH Tryz.prog fn = some (du 1 b none [.int kk 0])) (hg8 : g < bB)
  (hel : ∀ (l : List UInt8) (bad : Bool) (a : Int), f a → (l ++ e a).length ≤ 1099511627776 → az Tryz.prog g [.ptr 0 0 0 1, .ptr 1 0 0 1] [Va 1 [.int kk a], Bx 2, Cw 3 bad, Ww 4 l.length, ba true 1 true (r8 l)] (.tup []) [Va 1 [.int kk a], Bx 2, Cw 3 (bad || x a), Ww 4 (l ++ e a).length, ba true 1 true (r8 (l ++ e a))])
  (l : List UInt8) (bad : Bool) (sz : Nat) (R : List D) (j most : Nat) (xs : List Int) (hR : R[j]? = some (L (aJ kk xs))) (hm : most < 9223372036854775808) (hxl : xs.length ≤ 140737488351232) (hx : ∀ x ∈ xs, f x) (hl : (l ++ aY e xs).length ≤ 1099511627776) :
  az Tryz.prog F [.ptr 0 0 0 1, .ptr 3 0 j 1, .int .i64 most, .fn g [.ptr 4 0 0 1]] [Cw 1 bad, Ww 2 l.length, ba true 1 true (r8 l), Va sz R, Bx 0] (.tup [])
   [Cw 1 (bad || bn x most xs), Ww 2 (l ++ aY e xs).length, ba true 1 true (r8 (l ++ aY e xs)), Va sz R, Bx 0] := by
 refine aS hF hL (by simp [du]) ?_
 simp only [du]
 have ui : uI (xs.length : Int) = xs.length := by unfold uI; omega
 have hll : l.length ≤ 1099511627776 := by rw [zB] at hl; omega
 have hn := kJ l bad 1 [.int .u64 xs.length] 0 most xs.length rfl (by omega) (by omega) hll
 rw [ui] at hn
 obtain ⟨l0, e0⟩ : ∃ l0, l0 = l ++ bl xs.length := ⟨_, rfl⟩
 obtain ⟨b0, f0⟩ : ∃ b0, b0 = (bad || decide (most < xs.length)) := ⟨_, rfl⟩
 have el : l ++ aY e xs = l0 ++ xs.flatMap e := by rw [e0]; simp [aY]
 have eb : (bad || bn x most xs) = (b0 || xs.any x) := by rw [f0]; simp [bn, zQ]
 rw [el] at hl
 rw [el, eb]
 rw [← e0, ← f0] at hn
 clear el eb f0
 repeat' ((first | apply ah | apply al | apply ao | apply av | refine aq rfl ?_ | apply ai | apply af | apply ab | apply ak mixed | apply ap mixed | (with_reducible first | refine ac ?_ | refine au ?_ | refine bp ?_ | refine aA (f := .c (.fn 53 [])) ?_ | refine aB (f := .c (.fn 53 [])) ?_ | refine ar ?_ | refine aw ?_ | refine am (hn) (by simp) ?_) | simp (disch := omega) only [aF] | (with_reducible refine aU rfl rfl ?_ ?_; (focus ((try simp only [Wr, be, aI, aD, aR, bH, reduceIte, Nat.sub_zero, fw]) <;> ((repeat' (with_reducible refine And.intro ?_ ?_)) <;> first | exact trivial | assumption | (simp; done) | (simp only [zA] at *; omega) | omega | (simp [fs]; done) | first | exact ax | (intro x hx; subst hx; exact ⟨k1, k2⟩) | (intro x hx; subst hx; exact k1))))) | ((first | refine aj ?_ ?_ | refine aa ?_ ?_) <;> intro hc <;> (try simp only [hc]) <;> try simp at hc) | (with_reducible refine ⟨?_, ?_⟩; (focus ((repeat' with_reducible refine ⟨?_, ?_⟩) <;> first | exact trivial | assumption | (simp; done) | (simp only [zA] at *; omega) | omega | (simp [fs]; done) | first | exact ax | (intro x hx; subst hx; exact ⟨k1, k2⟩) | (intro x hx; subst hx; exact k1)))) | (with_reducible intro x hx) | omega) <;> (try simp only [aI, hR, Nat.reduceBEq, reduceIte, Nat.reduceEqDiff, Nat.reduceAdd, Nat.reduceSub, Nat.reduceLT, reduceCtorEq, cond_false, ne_eq, fw, fd]))
 refine aM (ι := {i : Nat // i ≤ xs.length}) (fun i => ([(1, .ptr 3 0 j 1), (3, .fn g [.ptr 4 0 0 1]), (29, .int .i64 xs.length), (30, .int .i64 i.1)], [Cw 1 (b0 || (xs.take i.1).any x), Ww 2 (l0 ++ (xs.take i.1).flatMap e).length, ba true 1 true (r8 (l0 ++ (xs.take i.1).flatMap e)), Va sz R, Bx 0])) (fun i => xs.length - i.1) ⟨0, by omega⟩ ?_ ?_
 ·simp only [List.take_zero, List.flatMap_nil, List.any_nil, zR, List.append_nil]
  refine aC [0, 1, 2, 3, 4] (by rfl) (by simp) (by simp [fg]) (by simp [fg])
  skip
 rintro ⟨i, hi⟩ hk
 dsimp only at hk ⊢
 by_cases hlt : i < xs.length
 ·have c1 : ((i : Int) < (xs.length : Int)) = True := by simp; omega
  obtain ⟨y, hg⟩ : ∃ y, xs[i]? = some y := ⟨_, zD hlt⟩
  have hr := bS (k := kk) hg
  have hxf := hx y (zE hg)
  have hfm := fS e hg
  have han := gw x hg
  have hle := lV e xs (i + 1)
  obtain ⟨li, ei⟩ : ∃ li, li = l0 ++ (xs.take i).flatMap e := ⟨_, rfl⟩
  obtain ⟨bi, fi⟩ : ∃ bi, bi = (b0 || (xs.take i).any x) := ⟨_, rfl⟩
  have ej : l0 ++ (xs.take (i + 1)).flatMap e = li ++ e y := by rw [ei, hfm, zJ]
  have fj : (b0 || (xs.take (i + 1)).any x) = (bi || x y) := by rw [fi, han, zQ]
  have hlj : (li ++ e y).length ≤ 1099511627776 := by rw [← ej]; simp only [zB] at hl ⊢; omega
  have hw := hel li bi y hxf hlj
  rw [← ei, ← fi]
  obtain ⟨lj, el⟩ : ∃ lj, lj = li ++ e y := ⟨_, rfl⟩
  obtain ⟨bj, fl⟩ : ∃ bj, bj = (bi || x y) := ⟨_, rfl⟩
  rw [← el, ← fl] at hw
  rw [← el] at ej
  rw [← fl] at fj
  have g2 : lj.length ≤ 1099511627776 := by rw [el]; exact hlj
  have g1 : li.length ≤ lj.length := by rw [el, zB]; omega
  clear el fl ei fi
  repeat' ((first | apply ah | apply al | apply ao | apply av | refine aq rfl ?_ | apply ai | apply af | apply ab | apply ak mixed | apply ap mixed | (with_reducible first | refine ac ?_ | refine au ?_ | refine bp ?_ | refine aA (f := .t 39) ?_ | refine aB (f := .t 39) ?_ | refine ar ?_ | refine aw ?_ | refine am (hw) (hb := hg8) (by simp) ?_) | simp (disch := omega) only [aW] | (with_reducible refine aU rfl rfl ?_ ?_; (focus ((try simp only [Wr, be, aI, aD, aR, bH, reduceIte, Nat.sub_zero, fw]) <;> ((repeat' (with_reducible refine And.intro ?_ ?_)) <;> first | exact trivial | assumption | (simp; done) | (simp only [zA] at *; omega) | omega | (simp [fs]; done) | first | exact ax | (intro x hx; subst hx; exact ⟨k1, k2⟩) | (intro x hx; subst hx; exact k1))))) | ((first | refine aj ?_ ?_ | refine aa ?_ ?_) <;> intro hc <;> (try simp only [hc]) <;> try simp at hc) | (with_reducible refine ⟨?_, ?_⟩; (focus ((repeat' with_reducible refine ⟨?_, ?_⟩) <;> first | exact trivial | assumption | (simp; done) | (simp only [zA] at *; omega) | omega | (simp [fs]; done) | first | exact ax | (intro x hx; subst hx; exact ⟨k1, k2⟩) | (intro x hx; subst hx; exact k1)))) | (with_reducible intro x hx) | omega) <;> (try simp only [aI, hR, c1, hr, Nat.reduceBEq, reduceIte, Nat.reduceEqDiff, Nat.reduceAdd, Nat.reduceSub, Nat.reduceLT, reduceCtorEq, ne_eq, fw, fd]))
  refine hk ⟨i + 1, by omega⟩ _ _ (by dsimp only; omega) ?_
  dsimp only
  rw [ej, fj]
  refine aC [0, 1, 2, 3, 4] (by rfl) (by simp) (by simp [fg]) (by simp [fg])
  skip
 ·have c1 : ((i : Int) < (xs.length : Int)) = False := by simp; omega
  obtain rfl : i = xs.length := by omega
  rw [List.take_length]
  repeat' ((first | apply ah | apply al | apply ao | apply av | refine aq rfl ?_ | apply ai | apply af | apply ab | apply ak mixed | apply ap mixed | (with_reducible first | refine ac ?_ | refine au ?_ | refine bp ?_ | refine ar ?_ | refine aw ?_) | simp (disch := omega) only [aW, aF, aK, aL, bg, zI, zH] | (with_reducible refine aU rfl rfl ?_ ?_; (focus ((try simp only [Wr, be, aI, aD, aR, bH, reduceIte, Nat.sub_zero, fw]) <;> ((repeat' (with_reducible refine And.intro ?_ ?_)) <;> first | exact trivial | assumption | (simp; done) | (simp only [zA] at *; omega) | omega | (simp [fs]; done) | first | exact ax | (intro x hx; subst hx; exact ⟨k1, k2⟩) | (intro x hx; subst hx; exact k1))))) | ((first | refine aj ?_ ?_ | refine aa ?_ ?_) <;> intro hc <;> (try simp only [hc]) <;> try simp at hc) | (with_reducible refine ⟨?_, ?_⟩; (focus ((repeat' with_reducible refine ⟨?_, ?_⟩) <;> first | exact trivial | assumption | (simp; done) | (simp only [zA] at *; omega) | omega | (simp [fs]; done) | first | exact ax | (intro x hx; subst hx; exact ⟨k1, k2⟩) | (intro x hx; subst hx; exact k1)))) | (with_reducible intro x hx) | omega) <;> (try simp only [c1, Nat.reduceBEq, reduceIte, fH, bh, cf, fw]))
  refine ay [0, 1, 2, 3, 4] (by rfl) (by simp) (by simp [fg])
  skip
def mV (x : Int × Int) : List UInt8 := bl (zz x.1) ++ bl (zz x.2)
def nL (x : Int × Int) : Bool := decide (x.2 < (-900) ∨ 900 < x.2)
def xy (x : Int × Int) : List D := [.int .i64 x.1, .int .i64 x.2]
def vA (x : Int × Int) : Prop := dv x.1 ∧ dv x.2
theorem yL (l : List UInt8) (bad : Bool) (x : Int × Int) (hx : vA x) (hl : (l ++ mV x).length ≤ 1099511627776) :
  az Tryz.prog 138 [.ptr 0 0 0 1, .ptr 1 0 0 1] [Va 2 (xy x), Bx 2, Cw 3 bad, Ww 4 l.length, ba true 1 true (r8 l)] (.tup [])
   [Va 2 (xy x), Bx 2, Cw 3 (bad || nL x), Ww 4 (l ++ mV x).length, ba true 1 true (r8 (l ++ mV x))] := by
 refine aS Tryz.func138 low138 (by simp [c138]) ?_
 simp only [c138]
 unfold vA at hx
 obtain ⟨l1, e1⟩ : ∃ l1, l1 = l ++ bl (zz x.1) := ⟨_, rfl⟩
 obtain ⟨l2, e2⟩ : ∃ l2, l2 = l1 ++ bl (zz x.2) := ⟨_, rfl⟩
 obtain ⟨b2, d2⟩ : ∃ b2, b2 = (bad || decide (x.2 < (-900) ∨ 900 < x.2)) := ⟨_, rfl⟩
 have el : l ++ mV x = l2 := by rw [e2, e1]; simp [mV]
 have eb : (bad || nL x) = b2 := by rw [d2]; simp [nL]
 rw [el] at hl
 rw [el, eb]
 have g1 : l1.length ≤ l2.length := by rw [e2, zB]; omega
 have g0 : l.length ≤ l1.length := by rw [e1, zB]; omega
 have h1 := cr l bad 2 (xy x) 0 x.1 rfl hx.1 (by omega)
 rw [← e1] at h1
 have h2 := nA l1 bad 2 (xy x) 1 x.2 (-900) 900 rfl hx.2 (by omega)
 rw [← e2, ← d2] at h2
 clear e1 e2 d2 el eb
 repeat' ((first | apply ah | apply ai | apply af | apply ap mixed | (with_reducible first | refine au ?_ | refine aA (f := .c (.fn 56 [])) ?_ | refine aA (f := .c (.fn 136 [])) ?_ | refine aw ?_ | refine am (h1) (by simp) ?_ | refine am (h2) (by simp) ?_) | (with_reducible refine ⟨?_, ?_⟩; (focus ((repeat' with_reducible refine ⟨?_, ?_⟩) <;> first | exact trivial | assumption | (simp; done) | (simp only [zA] at *; omega) | omega | (simp [fs]; done) | first | exact ax | (intro x hx; subst hx; exact ⟨k1, k2⟩) | (intro x hx; subst hx; exact k1)))) | (with_reducible intro x hx) | omega) <;> (try simp only [Nat.reduceBEq, reduceIte, Nat.reduceEqDiff, Nat.reduceAdd, Nat.reduceSub, Nat.reduceLT, reduceCtorEq, Int.reduceNeg, fw, fd]))
 refine ay [0, 1, 2, 3, 4] (by rfl) (by simp) (by simp [fg])
theorem xc (l : List UInt8) (bad : Bool) (sz : Nat) (R : List D) (j most : Nat) (xs : List (Int × Int)) (hR : R[j]? = some (L (aV .i64 .i64 xs))) (hm : most < 9223372036854775808) (hxl : xs.length ≤ 140737488351232) (hx : ∀ x ∈ xs, vA x) (hl : (l ++ aY mV xs).length ≤ 1099511627776) :
  az Tryz.prog 137 [.ptr 0 0 0 1, .ptr 3 0 j 1, .int .i64 most, .fn 138 [.ptr 4 0 0 1]] [Cw 1 bad, Ww 2 l.length, ba true 1 true (r8 l), Va sz R, Bx 0] (.tup [])
   [Cw 1 (bad || bn nL most xs), Ww 2 (l ++ aY mV xs).length, ba true 1 true (r8 (l ++ aY mV xs)), Va sz R, Bx 0] :=
 f8 (rw_ := xy) Tryz.func137 low137 (by decide) (by decide) rfl (fun _ => rfl) rfl rfl (fun _ => rfl) (fun _ => rfl) (fun _ => rfl) (fun l bad a => yL l bad a) l bad sz R j most xs hR hm hxl hx hl
def lR (x : Int × Int × Int) : List UInt8 := bl (uI x.1) ++ (bl (uI x.2.1) ++ bl (uI x.2.2))
def iX (x : Int × Int × Int) : Bool := (decide (127 < uI x.1) || (decide (1440 < uI x.2.1) || decide (1440 < uI x.2.2)))
def vS (x : Int × Int × Int) : List D := [.int .i64 x.1, .int .i64 x.2.1, .int .i64 x.2.2]
def tx (x : Int × Int × Int) : Prop := dv x.1 ∧ dv x.2.1 ∧ dv x.2.2
theorem yF (l : List UInt8) (bad : Bool) (x : Int × Int × Int) (hx : tx x) (hl : (l ++ lR x).length ≤ 1099511627776) :
  az Tryz.prog 140 [.ptr 0 0 0 1, .ptr 1 0 0 1] [Va 3 (vS x), Bx 2, Cw 3 bad, Ww 4 l.length, ba true 1 true (r8 l)] (.tup [])
   [Va 3 (vS x), Bx 2, Cw 3 (bad || iX x), Ww 4 (l ++ lR x).length, ba true 1 true (r8 (l ++ lR x))] := by
 refine aS Tryz.func140 low140 (by simp [c140]) ?_
 simp only [c140]
 unfold tx at hx
 obtain ⟨l1, e1⟩ : ∃ l1, l1 = l ++ bl (uI x.1) := ⟨_, rfl⟩
 obtain ⟨b1, d1⟩ : ∃ b1, b1 = (bad || decide (127 < uI x.1)) := ⟨_, rfl⟩
 obtain ⟨l2, e2⟩ : ∃ l2, l2 = l1 ++ bl (uI x.2.1) := ⟨_, rfl⟩
 obtain ⟨b2, d2⟩ : ∃ b2, b2 = (b1 || decide (1440 < uI x.2.1)) := ⟨_, rfl⟩
 obtain ⟨l3, e3⟩ : ∃ l3, l3 = l2 ++ bl (uI x.2.2) := ⟨_, rfl⟩
 obtain ⟨b3, d3⟩ : ∃ b3, b3 = (b2 || decide (1440 < uI x.2.2)) := ⟨_, rfl⟩
 have el : l ++ lR x = l3 := by rw [e3, e2, e1]; simp [lR]
 have eb : (bad || iX x) = b3 := by rw [d3, d2, d1]; simp [iX, zQ]
 rw [el] at hl
 rw [el, eb]
 have g2 : l2.length ≤ l3.length := by rw [e3, zB]; omega
 have g1 : l1.length ≤ l2.length := by rw [e2, zB]; omega
 have g0 : l.length ≤ l1.length := by rw [e1, zB]; omega
 have h1 := cA l bad 3 (vS x) 0 127 x.1 rfl hx.1 (by omega) (by omega)
 rw [← e1, ← d1] at h1
 have h2 := cA l1 b1 3 (vS x) 1 1440 x.2.1 rfl hx.2.1 (by omega) (by omega)
 rw [← e2, ← d2] at h2
 have h3 := cA l2 b2 3 (vS x) 2 1440 x.2.2 rfl hx.2.2 (by omega) (by omega)
 rw [← e3, ← d3] at h3
 clear e1 e2 e3 d1 d2 d3 el eb
 repeat' ((first | apply ah | apply ai | apply af | apply ap mixed | (with_reducible first | refine au ?_ | refine aA (f := .c (.fn 57 [])) ?_ | refine aw ?_ | refine am (h1) (by simp) ?_ | refine am (h2) (by simp) ?_ | refine am (h3) (by simp) ?_) | (with_reducible refine ⟨?_, ?_⟩; (focus ((repeat' with_reducible refine ⟨?_, ?_⟩) <;> first | exact trivial | assumption | (simp; done) | (simp only [zA] at *; omega) | omega | (simp [fs]; done) | first | exact ax | (intro x hx; subst hx; exact ⟨k1, k2⟩) | (intro x hx; subst hx; exact k1)))) | (with_reducible intro x hx) | omega) <;> (try simp only [Nat.reduceBEq, reduceIte, Nat.reduceEqDiff, Nat.reduceAdd, Nat.reduceSub, Nat.reduceLT, reduceCtorEq, fw, fd]))
 refine ay [0, 1, 2, 3, 4] (by rfl) (by simp) (by simp [fg])
theorem wX (l : List UInt8) (bad : Bool) (sz : Nat) (R : List D) (j most : Nat) (xs : List (Int × Int × Int)) (hR : R[j]? = some (L (bo xs))) (hm : most < 9223372036854775808) (hxl : xs.length ≤ 140737488351232) (hx : ∀ x ∈ xs, tx x) (hl : (l ++ aY lR xs).length ≤ 1099511627776) :
  az Tryz.prog 139 [.ptr 0 0 0 1, .ptr 3 0 j 1, .int .i64 most, .fn 140 [.ptr 4 0 0 1]] [Cw 1 bad, Ww 2 l.length, ba true 1 true (r8 l), Va sz R, Bx 0] (.tup [])
   [Cw 1 (bad || bn iX most xs), Ww 2 (l ++ aY lR xs).length, ba true 1 true (r8 (l ++ aY lR xs)), Va sz R, Bx 0] :=
 f8 (rw_ := vS) Tryz.func139 low139 (by decide) (by decide) rfl (fun _ => rfl) rfl rfl (fun _ => rfl) (fun _ => rfl) (fun _ => rfl) (fun l bad a => yF l bad a) l bad sz R j most xs hR hm hxl hx hl
def nP (x : Int) : List UInt8 := bl (uI x)
def nI (x : Int) : Bool := decide (109937 < uI x)
def cOf (x : Int) : List D := [.int .i64 x]
def vu (x : Int) : Prop := dv x
theorem yz (l : List UInt8) (bad : Bool) (x : Int) (hx : vu x) (hl : (l ++ nP x).length ≤ 1099511627776) :
  az Tryz.prog 121 [.ptr 0 0 0 1, .ptr 1 0 0 1] [Va 1 (cOf x), Bx 2, Cw 3 bad, Ww 4 l.length, ba true 1 true (r8 l)] (.tup [])
   [Va 1 (cOf x), Bx 2, Cw 3 (bad || nI x), Ww 4 (l ++ nP x).length, ba true 1 true (r8 (l ++ nP x))] := by
 refine aS Tryz.func121 low121 (by simp [c121]) ?_
 simp only [c121]
 unfold vu at hx
 obtain ⟨l1, e1⟩ : ∃ l1, l1 = l ++ bl (uI x) := ⟨_, rfl⟩
 obtain ⟨b1, d1⟩ : ∃ b1, b1 = (bad || decide (109937 < uI x)) := ⟨_, rfl⟩
 have el : l ++ nP x = l1 := by rw [e1]; simp [nP]
 have eb : (bad || nI x) = b1 := by rw [d1]; simp [nI]
 rw [el] at hl
 rw [el, eb]
 have g0 : l.length ≤ l1.length := by rw [e1, zB]; omega
 have h1 := cA l bad 1 (cOf x) 0 109937 x rfl hx (by omega) (by omega)
 rw [← e1, ← d1] at h1
 clear e1 d1 el eb
 repeat' ((first | apply ah | apply ai | apply af | apply ak mixed | (with_reducible first | refine au ?_ | refine aB (f := .c (.fn 57 [])) ?_ | refine ar ?_ | refine am (h1) (by simp) ?_) | (with_reducible refine ⟨?_, ?_⟩; (focus ((repeat' with_reducible refine ⟨?_, ?_⟩) <;> first | exact trivial | assumption | (simp; done) | (simp only [zA] at *; omega) | omega | (simp [fs]; done) | first | exact ax | (intro x hx; subst hx; exact ⟨k1, k2⟩) | (intro x hx; subst hx; exact k1)))) | (with_reducible intro x hx) | omega) <;> (try simp only [Nat.reduceBEq, reduceIte, Nat.reduceEqDiff, Nat.reduceAdd, Nat.reduceSub, Nat.reduceLT, reduceCtorEq, fw, fd]))
 refine ay [0, 1, 2, 3, 4] (by rfl) (by simp) (by simp [fg])
theorem wP (l : List UInt8) (bad : Bool) (sz : Nat) (R : List D) (j most : Nat) (xs : List Int) (hR : R[j]? = some (L (aJ .i64 xs))) (hm : most < 9223372036854775808) (hxl : xs.length ≤ 140737488351232) (hx : ∀ x ∈ xs, vu x) (hl : (l ++ aY nP xs).length ≤ 1099511627776) :
  az Tryz.prog 120 [.ptr 0 0 0 1, .ptr 3 0 j 1, .int .i64 most, .fn 121 [.ptr 4 0 0 1]] [Cw 1 bad, Ww 2 l.length, ba true 1 true (r8 l), Va sz R, Bx 0] (.tup [])
   [Cw 1 (bad || bn nI most xs), Ww 2 (l ++ aY nP xs).length, ba true 1 true (r8 (l ++ aY nP xs)), Va sz R, Bx 0] :=
 ji (kk := .i64) Tryz.func120 low120 (by decide) (fun l bad a => yz l bad a) l bad sz R j most xs hR hm hxl hx hl
def nQ (x : Int) : List UInt8 := bl (zz x)
def nK (x : Int) : Bool := decide (x < (-400) ∨ 400 < x)
def cSm (x : Int) : List D := [.int .i64 x]
def vz (x : Int) : Prop := dv x
theorem yH (l : List UInt8) (bad : Bool) (x : Int) (hx : vz x) (hl : (l ++ nQ x).length ≤ 1099511627776) :
  az Tryz.prog 144 [.ptr 0 0 0 1, .ptr 1 0 0 1] [Va 1 (cSm x), Bx 2, Cw 3 bad, Ww 4 l.length, ba true 1 true (r8 l)] (.tup [])
   [Va 1 (cSm x), Bx 2, Cw 3 (bad || nK x), Ww 4 (l ++ nQ x).length, ba true 1 true (r8 (l ++ nQ x))] := by
 refine aS Tryz.func144 low144 (by simp [c144]) ?_
 simp only [c144]
 unfold vz at hx
 obtain ⟨l1, e1⟩ : ∃ l1, l1 = l ++ bl (zz x) := ⟨_, rfl⟩
 obtain ⟨b1, d1⟩ : ∃ b1, b1 = (bad || decide (x < (-400) ∨ 400 < x)) := ⟨_, rfl⟩
 have el : l ++ nQ x = l1 := by rw [e1]; simp [nQ]
 have eb : (bad || nK x) = b1 := by rw [d1]; simp [nK]
 rw [el] at hl
 rw [el, eb]
 have g0 : l.length ≤ l1.length := by rw [e1, zB]; omega
 have h1 := nA l bad 1 (cSm x) 0 x (-400) 400 rfl hx (by omega)
 rw [← e1, ← d1] at h1
 clear e1 d1 el eb
 repeat' ((first | apply ah | apply ai | apply af | apply ak mixed | (with_reducible first | refine au ?_ | refine aB (f := .c (.fn 136 [])) ?_ | refine ar ?_ | refine am (h1) (by simp) ?_) | (with_reducible refine ⟨?_, ?_⟩; (focus ((repeat' with_reducible refine ⟨?_, ?_⟩) <;> first | exact trivial | assumption | (simp; done) | (simp only [zA] at *; omega) | omega | (simp [fs]; done) | first | exact ax | (intro x hx; subst hx; exact ⟨k1, k2⟩) | (intro x hx; subst hx; exact k1)))) | (with_reducible intro x hx) | omega) <;> (try simp only [Nat.reduceBEq, reduceIte, Nat.reduceEqDiff, Nat.reduceAdd, Nat.reduceSub, Nat.reduceLT, reduceCtorEq, Int.reduceNeg, fw, fd]))
 refine ay [0, 1, 2, 3, 4] (by rfl) (by simp) (by simp [fg])
theorem wZ (l : List UInt8) (bad : Bool) (sz : Nat) (R : List D) (j most : Nat) (xs : List Int) (hR : R[j]? = some (L (aJ .i64 xs))) (hm : most < 9223372036854775808) (hxl : xs.length ≤ 140737488351232) (hx : ∀ x ∈ xs, vz x) (hl : (l ++ aY nQ xs).length ≤ 1099511627776) :
  az Tryz.prog 120 [.ptr 0 0 0 1, .ptr 3 0 j 1, .int .i64 most, .fn 144 [.ptr 4 0 0 1]] [Cw 1 bad, Ww 2 l.length, ba true 1 true (r8 l), Va sz R, Bx 0] (.tup [])
   [Cw 1 (bad || bn nK most xs), Ww 2 (l ++ aY nQ xs).length, ba true 1 true (r8 (l ++ aY nQ xs)), Va sz R, Bx 0] :=
 ji (kk := .i64) Tryz.func120 low120 (by decide) (fun l bad a => yH l bad a) l bad sz R j most xs hR hm hxl hx hl
def mS (x : Int × Int) : List UInt8 := bl (zz x.1) ++ bl (uI x.2)
def nG (x : Int × Int) : Bool := (decide (x.1 < (-5) ∨ 5 < x.1) || decide (6 < uI x.2))
def xt (x : Int × Int) : List D := [.int .i64 x.1, .int .i64 x.2]
def vp (x : Int × Int) : Prop := dv x.1 ∧ dv x.2
theorem yo (l : List UInt8) (bad : Bool) (x : Int × Int) (hx : vp x) (hl : (l ++ mS x).length ≤ 1099511627776) :
  az Tryz.prog 143 [.ptr 0 0 0 1, .ptr 1 0 0 1] [Va 2 (xt x), Bx 2, Cw 3 bad, Ww 4 l.length, ba true 1 true (r8 l)] (.tup [])
   [Va 2 (xt x), Bx 2, Cw 3 (bad || nG x), Ww 4 (l ++ mS x).length, ba true 1 true (r8 (l ++ mS x))] := by
 refine aS Tryz.func143 low143 (by simp [c143]) ?_
 simp only [c143]
 unfold vp at hx
 obtain ⟨l1, e1⟩ : ∃ l1, l1 = l ++ bl (zz x.1) := ⟨_, rfl⟩
 obtain ⟨b1, d1⟩ : ∃ b1, b1 = (bad || decide (x.1 < (-5) ∨ 5 < x.1)) := ⟨_, rfl⟩
 obtain ⟨l2, e2⟩ : ∃ l2, l2 = l1 ++ bl (uI x.2) := ⟨_, rfl⟩
 obtain ⟨b2, d2⟩ : ∃ b2, b2 = (b1 || decide (6 < uI x.2)) := ⟨_, rfl⟩
 have el : l ++ mS x = l2 := by rw [e2, e1]; simp [mS]
 have eb : (bad || nG x) = b2 := by rw [d2, d1]; simp [nG, zQ]
 rw [el] at hl
 rw [el, eb]
 have g1 : l1.length ≤ l2.length := by rw [e2, zB]; omega
 have g0 : l.length ≤ l1.length := by rw [e1, zB]; omega
 have h1 := nA l bad 2 (xt x) 0 x.1 (-5) 5 rfl hx.1 (by omega)
 rw [← e1, ← d1] at h1
 have h2 := cA l1 b1 2 (xt x) 1 6 x.2 rfl hx.2 (by omega) (by omega)
 rw [← e2, ← d2] at h2
 clear e1 e2 d1 d2 el eb
 repeat' ((first | apply ah | apply ai | apply af | apply ap mixed | (with_reducible first | refine au ?_ | refine aA (f := .c (.fn 136 [])) ?_ | refine aA (f := .c (.fn 57 [])) ?_ | refine aw ?_ | refine am (h1) (by simp) ?_ | refine am (h2) (by simp) ?_) | (with_reducible refine ⟨?_, ?_⟩; (focus ((repeat' with_reducible refine ⟨?_, ?_⟩) <;> first | exact trivial | assumption | (simp; done) | (simp only [zA] at *; omega) | omega | (simp [fs]; done) | first | exact ax | (intro x hx; subst hx; exact ⟨k1, k2⟩) | (intro x hx; subst hx; exact k1)))) | (with_reducible intro x hx) | omega) <;> (try simp only [Nat.reduceBEq, reduceIte, Nat.reduceEqDiff, Nat.reduceAdd, Nat.reduceSub, Nat.reduceLT, reduceCtorEq, Int.reduceNeg, fw, fd]))
 refine ay [0, 1, 2, 3, 4] (by rfl) (by simp) (by simp [fg])
theorem wE (l : List UInt8) (bad : Bool) (sz : Nat) (R : List D) (j most : Nat) (xs : List (Int × Int)) (hR : R[j]? = some (L (aV .i64 .i64 xs))) (hm : most < 9223372036854775808) (hxl : xs.length ≤ 140737488351232) (hx : ∀ x ∈ xs, vp x) (hl : (l ++ aY mS xs).length ≤ 1099511627776) :
  az Tryz.prog 142 [.ptr 0 0 0 1, .ptr 3 0 j 1, .int .i64 most, .fn 143 [.ptr 4 0 0 1]] [Cw 1 bad, Ww 2 l.length, ba true 1 true (r8 l), Va sz R, Bx 0] (.tup [])
   [Cw 1 (bad || bn nG most xs), Ww 2 (l ++ aY mS xs).length, ba true 1 true (r8 (l ++ aY mS xs)), Va sz R, Bx 0] :=
 f8 (rw_ := xt) Tryz.func142 low142 (by decide) (by decide) rfl (fun _ => rfl) rfl rfl (fun _ => rfl) (fun _ => rfl) (fun _ => rfl) (fun l bad a => yo l bad a) l bad sz R j most xs hR hm hxl hx hl
def pg (x : Int) : List UInt8 := bl (zz x)
def vF (x : Int) : Bool := false
def cEx (x : Int) : List D := [.int .i64 x]
def xE (x : Int) : Prop := dv x
theorem yv (l : List UInt8) (bad : Bool) (x : Int) (hx : xE x) (hl : (l ++ pg x).length ≤ 1099511627776) :
  az Tryz.prog 123 [.ptr 0 0 0 1, .ptr 1 0 0 1] [Va 1 (cEx x), Bx 2, Cw 3 bad, Ww 4 l.length, ba true 1 true (r8 l)] (.tup [])
   [Va 1 (cEx x), Bx 2, Cw 3 (bad || vF x), Ww 4 (l ++ pg x).length, ba true 1 true (r8 (l ++ pg x))] := by
 refine aS Tryz.func123 low123 (by simp [c123]) ?_
 simp only [c123]
 unfold xE at hx
 obtain ⟨l1, e1⟩ : ∃ l1, l1 = l ++ bl (zz x) := ⟨_, rfl⟩
 have el : l ++ pg x = l1 := by rw [e1]; simp [pg]
 have eb : (bad || vF x) = bad := by simp [vF]
 rw [el] at hl
 rw [el, eb]
 have g0 : l.length ≤ l1.length := by rw [e1, zB]; omega
 have h1 := cr l bad 1 (cEx x) 0 x rfl hx (by omega)
 rw [← e1] at h1
 clear e1 el eb
 repeat' ((first | apply ah | apply ai | apply af | apply ak mixed | (with_reducible first | refine au ?_ | refine aB (f := .c (.fn 56 [])) ?_ | refine ar ?_ | refine am (h1) (by simp) ?_) | (with_reducible refine ⟨?_, ?_⟩; (focus ((repeat' with_reducible refine ⟨?_, ?_⟩) <;> first | exact trivial | assumption | (simp; done) | (simp only [zA] at *; omega) | omega | (simp [fs]; done) | first | exact ax | (intro x hx; subst hx; exact ⟨k1, k2⟩) | (intro x hx; subst hx; exact k1)))) | (with_reducible intro x hx) | omega) <;> (try simp only [Nat.reduceBEq, reduceIte, Nat.reduceEqDiff, Nat.reduceAdd, Nat.reduceSub, Nat.reduceLT, reduceCtorEq, fw, fd]))
 refine ay [0, 1, 2, 3, 4] (by rfl) (by simp) (by simp [fg])
theorem wK (l : List UInt8) (bad : Bool) (sz : Nat) (R : List D) (j most : Nat) (xs : List Int) (hR : R[j]? = some (L (aJ .i64 xs))) (hm : most < 9223372036854775808) (hxl : xs.length ≤ 140737488351232) (hx : ∀ x ∈ xs, xE x) (hl : (l ++ aY pg xs).length ≤ 1099511627776) :
  az Tryz.prog 104 [.ptr 0 0 0 1, .ptr 3 0 j 1, .int .i64 most, .fn 123 [.ptr 4 0 0 1]] [Cw 1 bad, Ww 2 l.length, ba true 1 true (r8 l), Va sz R, Bx 0] (.tup [])
   [Cw 1 (bad || bn vF most xs), Ww 2 (l ++ aY pg xs).length, ba true 1 true (r8 (l ++ aY pg xs)), Va sz R, Bx 0] :=
 ji (kk := .i64) Tryz.func104 low104 (by decide) (fun l bad a => yv l bad a) l bad sz R j most xs hR hm hxl hx hl
def ph (x : Int) : List UInt8 := bl (zz x)
def vG (x : Int) : Bool := false
def cPl (x : Int) : List D := [.int .i64 x]
def xF (x : Int) : Prop := dv x
theorem yD (l : List UInt8) (bad : Bool) (x : Int) (hx : xF x) (hl : (l ++ ph x).length ≤ 1099511627776) :
  az Tryz.prog 124 [.ptr 0 0 0 1, .ptr 1 0 0 1] [Va 1 (cPl x), Bx 2, Cw 3 bad, Ww 4 l.length, ba true 1 true (r8 l)] (.tup [])
   [Va 1 (cPl x), Bx 2, Cw 3 (bad || vG x), Ww 4 (l ++ ph x).length, ba true 1 true (r8 (l ++ ph x))] := by
 refine aS Tryz.func124 low124 (by simp [c124]) ?_
 simp only [c124]
 unfold xF at hx
 obtain ⟨l1, e1⟩ : ∃ l1, l1 = l ++ bl (zz x) := ⟨_, rfl⟩
 have el : l ++ ph x = l1 := by rw [e1]; simp [ph]
 have eb : (bad || vG x) = bad := by simp [vG]
 rw [el] at hl
 rw [el, eb]
 have g0 : l.length ≤ l1.length := by rw [e1, zB]; omega
 have h1 := cr l bad 1 (cPl x) 0 x rfl hx (by omega)
 rw [← e1] at h1
 clear e1 el eb
 repeat' ((first | apply ah | apply ai | apply af | apply ak mixed | (with_reducible first | refine au ?_ | refine aB (f := .c (.fn 56 [])) ?_ | refine ar ?_ | refine am (h1) (by simp) ?_) | (with_reducible refine ⟨?_, ?_⟩; (focus ((repeat' with_reducible refine ⟨?_, ?_⟩) <;> first | exact trivial | assumption | (simp; done) | (simp only [zA] at *; omega) | omega | (simp [fs]; done) | first | exact ax | (intro x hx; subst hx; exact ⟨k1, k2⟩) | (intro x hx; subst hx; exact k1)))) | (with_reducible intro x hx) | omega) <;> (try simp only [Nat.reduceBEq, reduceIte, Nat.reduceEqDiff, Nat.reduceAdd, Nat.reduceSub, Nat.reduceLT, reduceCtorEq, fw, fd]))
 refine ay [0, 1, 2, 3, 4] (by rfl) (by simp) (by simp [fg])
theorem wT (l : List UInt8) (bad : Bool) (sz : Nat) (R : List D) (j most : Nat) (xs : List Int) (hR : R[j]? = some (L (aJ .i64 xs))) (hm : most < 9223372036854775808) (hxl : xs.length ≤ 140737488351232) (hx : ∀ x ∈ xs, xF x) (hl : (l ++ aY ph xs).length ≤ 1099511627776) :
  az Tryz.prog 104 [.ptr 0 0 0 1, .ptr 3 0 j 1, .int .i64 most, .fn 124 [.ptr 4 0 0 1]] [Cw 1 bad, Ww 2 l.length, ba true 1 true (r8 l), Va sz R, Bx 0] (.tup [])
   [Cw 1 (bad || bn vG most xs), Ww 2 (l ++ aY ph xs).length, ba true 1 true (r8 (l ++ aY ph xs)), Va sz R, Bx 0] :=
 ji (kk := .i64) Tryz.func104 low104 (by decide) (fun l bad a => yD l bad a) l bad sz R j most xs hR hm hxl hx hl
def mR (x : Int × Int × Int) : List UInt8 := bl (zz x.1) ++ (bl (zz x.2.1) ++ bl (uI x.2.2))
def nF (x : Int × Int × Int) : Bool := decide (10080 < uI x.2.2)
def vQ (x : Int × Int × Int) : List D := [.int .i64 x.1, .int .i64 x.2.1, .int .i64 x.2.2]
def vo (x : Int × Int × Int) : Prop := dv x.1 ∧ dv x.2.1 ∧ dv x.2.2
theorem ym (l : List UInt8) (bad : Bool) (x : Int × Int × Int) (hx : vo x) (hl : (l ++ mR x).length ≤ 1099511627776) :
  az Tryz.prog 126 [.ptr 0 0 0 1, .ptr 1 0 0 1] [Va 3 (vQ x), Bx 2, Cw 3 bad, Ww 4 l.length, ba true 1 true (r8 l)] (.tup [])
   [Va 3 (vQ x), Bx 2, Cw 3 (bad || nF x), Ww 4 (l ++ mR x).length, ba true 1 true (r8 (l ++ mR x))] := by
 refine aS Tryz.func126 low126 (by simp [c126]) ?_
 simp only [c126]
 unfold vo at hx
 obtain ⟨l1, e1⟩ : ∃ l1, l1 = l ++ bl (zz x.1) := ⟨_, rfl⟩
 obtain ⟨l2, e2⟩ : ∃ l2, l2 = l1 ++ bl (zz x.2.1) := ⟨_, rfl⟩
 obtain ⟨l3, e3⟩ : ∃ l3, l3 = l2 ++ bl (uI x.2.2) := ⟨_, rfl⟩
 obtain ⟨b3, d3⟩ : ∃ b3, b3 = (bad || decide (10080 < uI x.2.2)) := ⟨_, rfl⟩
 have el : l ++ mR x = l3 := by rw [e3, e2, e1]; simp [mR]
 have eb : (bad || nF x) = b3 := by rw [d3]; simp [nF]
 rw [el] at hl
 rw [el, eb]
 have g2 : l2.length ≤ l3.length := by rw [e3, zB]; omega
 have g1 : l1.length ≤ l2.length := by rw [e2, zB]; omega
 have g0 : l.length ≤ l1.length := by rw [e1, zB]; omega
 have h1 := cr l bad 3 (vQ x) 0 x.1 rfl hx.1 (by omega)
 rw [← e1] at h1
 have h2 := cr l1 bad 3 (vQ x) 1 x.2.1 rfl hx.2.1 (by omega)
 rw [← e2] at h2
 have h3 := cA l2 bad 3 (vQ x) 2 10080 x.2.2 rfl hx.2.2 (by omega) (by omega)
 rw [← e3, ← d3] at h3
 clear e1 e2 e3 d3 el eb
 repeat' ((first | apply ah | apply ai | apply af | apply ap mixed | (with_reducible first | refine au ?_ | refine aA (f := .c (.fn 56 [])) ?_ | refine aA (f := .c (.fn 57 [])) ?_ | refine aw ?_ | refine am (h1) (by simp) ?_ | refine am (h2) (by simp) ?_ | refine am (h3) (by simp) ?_) | (with_reducible refine ⟨?_, ?_⟩; (focus ((repeat' with_reducible refine ⟨?_, ?_⟩) <;> first | exact trivial | assumption | (simp; done) | (simp only [zA] at *; omega) | omega | (simp [fs]; done) | first | exact ax | (intro x hx; subst hx; exact ⟨k1, k2⟩) | (intro x hx; subst hx; exact k1)))) | (with_reducible intro x hx) | omega) <;> (try simp only [Nat.reduceBEq, reduceIte, Nat.reduceEqDiff, Nat.reduceAdd, Nat.reduceSub, Nat.reduceLT, reduceCtorEq, fw, fd]))
 refine ay [0, 1, 2, 3, 4] (by rfl) (by simp) (by simp [fg])
theorem wC (l : List UInt8) (bad : Bool) (sz : Nat) (R : List D) (j most : Nat) (xs : List (Int × Int × Int)) (hR : R[j]? = some (L (bo xs))) (hm : most < 9223372036854775808) (hxl : xs.length ≤ 140737488351232) (hx : ∀ x ∈ xs, vo x) (hl : (l ++ aY mR xs).length ≤ 1099511627776) :
  az Tryz.prog 125 [.ptr 0 0 0 1, .ptr 3 0 j 1, .int .i64 most, .fn 126 [.ptr 4 0 0 1]] [Cw 1 bad, Ww 2 l.length, ba true 1 true (r8 l), Va sz R, Bx 0] (.tup [])
   [Cw 1 (bad || bn nF most xs), Ww 2 (l ++ aY mR xs).length, ba true 1 true (r8 (l ++ aY mR xs)), Va sz R, Bx 0] :=
 f8 (rw_ := vQ) Tryz.func125 low125 (by decide) (by decide) rfl (fun _ => rfl) rfl rfl (fun _ => rfl) (fun _ => rfl) (fun _ => rfl) (fun l bad a => ym l bad a) l bad sz R j most xs hR hm hxl hx hl
def nO (x : Int) : List UInt8 := bl (uI x)
def nH (x : Int) : Bool := false
def cMu (x : Int) : List D := [.int .u32 x]
def vt (x : Int) : Prop := (0 ≤ x ∧ x ≤ 4294967295)
theorem yx (l : List UInt8) (bad : Bool) (x : Int) (hx : vt x) (hl : (l ++ nO x).length ≤ 1099511627776) :
  az Tryz.prog 128 [.ptr 0 0 0 1, .ptr 1 0 0 1] [Va 1 (cMu x), Bx 2, Cw 3 bad, Ww 4 l.length, ba true 1 true (r8 l)] (.tup [])
   [Va 1 (cMu x), Bx 2, Cw 3 (bad || nH x), Ww 4 (l ++ nO x).length, ba true 1 true (r8 (l ++ nO x))] := by
 refine aS Tryz.func128 low128 (by simp [c128]) ?_
 simp only [c128]
 unfold vt at hx
 obtain ⟨l1, e1⟩ : ∃ l1, l1 = l ++ bl (uI x) := ⟨_, rfl⟩
 have el : l ++ nO x = l1 := by rw [e1]; simp [nO]
 have eb : (bad || nH x) = bad := by simp [nH]
 rw [el] at hl
 rw [el, eb]
 have g0 : l.length ≤ l1.length := by rw [e1, zB]; omega
 have h1 := fh l bad 1 (cMu x) 0 x rfl hx (by omega)
 rw [← e1] at h1
 clear e1 el eb
 repeat' ((first | apply ah | apply ai | apply af | apply ak mixed | (with_reducible first | refine au ?_ | refine aB (f := .c (.fn 78 [])) ?_ | refine ar ?_ | refine am (h1) (by simp) ?_) | (with_reducible refine ⟨?_, ?_⟩; (focus ((repeat' with_reducible refine ⟨?_, ?_⟩) <;> first | exact trivial | assumption | (simp; done) | (simp only [zA] at *; omega) | omega | (simp [fs]; done) | first | exact ax | (intro x hx; subst hx; exact ⟨k1, k2⟩) | (intro x hx; subst hx; exact k1)))) | (with_reducible intro x hx) | omega) <;> (try simp only [Nat.reduceBEq, reduceIte, Nat.reduceEqDiff, Nat.reduceAdd, Nat.reduceSub, Nat.reduceLT, reduceCtorEq, fw, fd]))
 refine ay [0, 1, 2, 3, 4] (by rfl) (by simp) (by simp [fg])
theorem wN (l : List UInt8) (bad : Bool) (sz : Nat) (R : List D) (j most : Nat) (xs : List Int) (hR : R[j]? = some (L (aJ .u32 xs))) (hm : most < 9223372036854775808) (hxl : xs.length ≤ 140737488351232) (hx : ∀ x ∈ xs, vt x) (hl : (l ++ aY nO xs).length ≤ 1099511627776) :
  az Tryz.prog 127 [.ptr 0 0 0 1, .ptr 3 0 j 1, .int .i64 most, .fn 128 [.ptr 4 0 0 1]] [Cw 1 bad, Ww 2 l.length, ba true 1 true (r8 l), Va sz R, Bx 0] (.tup [])
   [Cw 1 (bad || bn nH most xs), Ww 2 (l ++ aY nO xs).length, ba true 1 true (r8 (l ++ aY nO xs)), Va sz R, Bx 0] :=
 ji (kk := .u32) Tryz.func127 low127 (by decide) (fun l bad a => yx l bad a) l bad sz R j most xs hR hm hxl hx hl
def mX (x : Int × Int) : List UInt8 := bl (uI x.1) ++ bl (uI x.2)
def nN (x : Int × Int) : Bool := decide (1000 < uI x.2)
def xA (x : Int × Int) : List D := [.int .u32 x.1, .int .i64 x.2]
def vC (x : Int × Int) : Prop := (0 ≤ x.1 ∧ x.1 ≤ 4294967295) ∧ dv x.2
theorem yP (l : List UInt8) (bad : Bool) (x : Int × Int) (hx : vC x) (hl : (l ++ mX x).length ≤ 1099511627776) :
  az Tryz.prog 130 [.ptr 0 0 0 1, .ptr 1 0 0 1] [Va 2 (xA x), Bx 2, Cw 3 bad, Ww 4 l.length, ba true 1 true (r8 l)] (.tup [])
   [Va 2 (xA x), Bx 2, Cw 3 (bad || nN x), Ww 4 (l ++ mX x).length, ba true 1 true (r8 (l ++ mX x))] := by
 refine aS Tryz.func130 low130 (by simp [c130]) ?_
 simp only [c130]
 unfold vC at hx
 obtain ⟨l1, e1⟩ : ∃ l1, l1 = l ++ bl (uI x.1) := ⟨_, rfl⟩
 obtain ⟨l2, e2⟩ : ∃ l2, l2 = l1 ++ bl (uI x.2) := ⟨_, rfl⟩
 obtain ⟨b2, d2⟩ : ∃ b2, b2 = (bad || decide (1000 < uI x.2)) := ⟨_, rfl⟩
 have el : l ++ mX x = l2 := by rw [e2, e1]; simp [mX]
 have eb : (bad || nN x) = b2 := by rw [d2]; simp [nN]
 rw [el] at hl
 rw [el, eb]
 have g1 : l1.length ≤ l2.length := by rw [e2, zB]; omega
 have g0 : l.length ≤ l1.length := by rw [e1, zB]; omega
 have h1 := fh l bad 2 (xA x) 0 x.1 rfl hx.1 (by omega)
 rw [← e1] at h1
 have h2 := cA l1 bad 2 (xA x) 1 1000 x.2 rfl hx.2 (by omega) (by omega)
 rw [← e2, ← d2] at h2
 clear e1 e2 d2 el eb
 repeat' ((first | apply ah | apply ai | apply af | apply ap mixed | (with_reducible first | refine au ?_ | refine aA (f := .c (.fn 78 [])) ?_ | refine aA (f := .c (.fn 57 [])) ?_ | refine aw ?_ | refine am (h1) (by simp) ?_ | refine am (h2) (by simp) ?_) | (with_reducible refine ⟨?_, ?_⟩; (focus ((repeat' with_reducible refine ⟨?_, ?_⟩) <;> first | exact trivial | assumption | (simp; done) | (simp only [zA] at *; omega) | omega | (simp [fs]; done) | first | exact ax | (intro x hx; subst hx; exact ⟨k1, k2⟩) | (intro x hx; subst hx; exact k1)))) | (with_reducible intro x hx) | omega) <;> (try simp only [Nat.reduceBEq, reduceIte, Nat.reduceEqDiff, Nat.reduceAdd, Nat.reduceSub, Nat.reduceLT, reduceCtorEq, fw, fd]))
 refine ay [0, 1, 2, 3, 4] (by rfl) (by simp) (by simp [fg])
theorem xi (l : List UInt8) (bad : Bool) (sz : Nat) (R : List D) (j most : Nat) (xs : List (Int × Int)) (hR : R[j]? = some (L (aV .u32 .i64 xs))) (hm : most < 9223372036854775808) (hxl : xs.length ≤ 140737488351232) (hx : ∀ x ∈ xs, vC x) (hl : (l ++ aY mX xs).length ≤ 1099511627776) :
  az Tryz.prog 129 [.ptr 0 0 0 1, .ptr 3 0 j 1, .int .i64 most, .fn 130 [.ptr 4 0 0 1]] [Cw 1 bad, Ww 2 l.length, ba true 1 true (r8 l), Va sz R, Bx 0] (.tup [])
   [Cw 1 (bad || bn nN most xs), Ww 2 (l ++ aY mX xs).length, ba true 1 true (r8 (l ++ aY mX xs)), Va sz R, Bx 0] :=
 f8 (rw_ := xA) Tryz.func129 low129 (by decide) (by decide) rfl (fun _ => rfl) rfl rfl (fun _ => rfl) (fun _ => rfl) (fun _ => rfl) (fun l bad a => yP l bad a) l bad sz R j most xs hR hm hxl hx hl
def mT (x : Int × Int) : List UInt8 := bl (uI x.1) ++ bl (uI x.2)
def nJ (x : Int × Int) : Bool := false
def xx (x : Int × Int) : List D := [.int .u32 x.1, .int .u32 x.2]
def vv (x : Int × Int) : Prop := (0 ≤ x.1 ∧ x.1 ≤ 4294967295) ∧ (0 ≤ x.2 ∧ x.2 ≤ 4294967295)
theorem yB (l : List UInt8) (bad : Bool) (x : Int × Int) (hx : vv x) (hl : (l ++ mT x).length ≤ 1099511627776) :
  az Tryz.prog 132 [.ptr 0 0 0 1, .ptr 1 0 0 1] [Va 2 (xx x), Bx 2, Cw 3 bad, Ww 4 l.length, ba true 1 true (r8 l)] (.tup [])
   [Va 2 (xx x), Bx 2, Cw 3 (bad || nJ x), Ww 4 (l ++ mT x).length, ba true 1 true (r8 (l ++ mT x))] := by
 refine aS Tryz.func132 low132 (by simp [c132]) ?_
 simp only [c132]
 unfold vv at hx
 obtain ⟨l1, e1⟩ : ∃ l1, l1 = l ++ bl (uI x.1) := ⟨_, rfl⟩
 obtain ⟨l2, e2⟩ : ∃ l2, l2 = l1 ++ bl (uI x.2) := ⟨_, rfl⟩
 have el : l ++ mT x = l2 := by rw [e2, e1]; simp [mT]
 have eb : (bad || nJ x) = bad := by simp [nJ]
 rw [el] at hl
 rw [el, eb]
 have g1 : l1.length ≤ l2.length := by rw [e2, zB]; omega
 have g0 : l.length ≤ l1.length := by rw [e1, zB]; omega
 have h1 := fh l bad 2 (xx x) 0 x.1 rfl hx.1 (by omega)
 rw [← e1] at h1
 have h2 := fh l1 bad 2 (xx x) 1 x.2 rfl hx.2 (by omega)
 rw [← e2] at h2
 clear e1 e2 el eb
 repeat' ((first | apply ah | apply ai | apply af | apply ap mixed | (with_reducible first | refine au ?_ | refine aA (f := .c (.fn 78 [])) ?_ | refine aw ?_ | refine am (h1) (by simp) ?_ | refine am (h2) (by simp) ?_) | (with_reducible refine ⟨?_, ?_⟩; (focus ((repeat' with_reducible refine ⟨?_, ?_⟩) <;> first | exact trivial | assumption | (simp; done) | (simp only [zA] at *; omega) | omega | (simp [fs]; done) | first | exact ax | (intro x hx; subst hx; exact ⟨k1, k2⟩) | (intro x hx; subst hx; exact k1)))) | (with_reducible intro x hx) | omega) <;> (try simp only [Nat.reduceBEq, reduceIte, Nat.reduceEqDiff, Nat.reduceAdd, Nat.reduceSub, Nat.reduceLT, reduceCtorEq, fw, fd]))
 refine ay [0, 1, 2, 3, 4] (by rfl) (by simp) (by simp [fg])
theorem wR (l : List UInt8) (bad : Bool) (sz : Nat) (R : List D) (j most : Nat) (xs : List (Int × Int)) (hR : R[j]? = some (L (aV .u32 .u32 xs))) (hm : most < 9223372036854775808) (hxl : xs.length ≤ 140737488351232) (hx : ∀ x ∈ xs, vv x) (hl : (l ++ aY mT xs).length ≤ 1099511627776) :
  az Tryz.prog 131 [.ptr 0 0 0 1, .ptr 3 0 j 1, .int .i64 most, .fn 132 [.ptr 4 0 0 1]] [Cw 1 bad, Ww 2 l.length, ba true 1 true (r8 l), Va sz R, Bx 0] (.tup [])
   [Cw 1 (bad || bn nJ most xs), Ww 2 (l ++ aY mT xs).length, ba true 1 true (r8 (l ++ aY mT xs)), Va sz R, Bx 0] :=
 f8 (rw_ := xx) Tryz.func131 low131 (by decide) (by decide) rfl (fun _ => rfl) rfl rfl (fun _ => rfl) (fun _ => rfl) (fun _ => rfl) (fun l bad a => yB l bad a) l bad sz R j most xs hR hm hxl hx hl
def pm (x : Int) : List UInt8 := bl (zz x)
def pe (x : Int) : Bool := false
def cTs (x : Int) : List D := [.int .i64 x]
def xG (x : Int) : Prop := dv x
theorem yJ (l : List UInt8) (bad : Bool) (x : Int) (hx : xG x) (hl : (l ++ pm x).length ≤ 1099511627776) :
  az Tryz.prog 105 [.ptr 0 0 0 1, .ptr 1 0 0 1] [Va 1 (cTs x), Bx 2, Cw 3 bad, Ww 4 l.length, ba true 1 true (r8 l)] (.tup [])
   [Va 1 (cTs x), Bx 2, Cw 3 (bad || pe x), Ww 4 (l ++ pm x).length, ba true 1 true (r8 (l ++ pm x))] := by
 refine aS Tryz.func105 low105 (by simp [c105]) ?_
 simp only [c105]
 unfold xG at hx
 obtain ⟨l1, e1⟩ : ∃ l1, l1 = l ++ bl (zz x) := ⟨_, rfl⟩
 have el : l ++ pm x = l1 := by rw [e1]; simp [pm]
 have eb : (bad || pe x) = bad := by simp [pe]
 rw [el] at hl
 rw [el, eb]
 have g0 : l.length ≤ l1.length := by rw [e1, zB]; omega
 have h1 := cr l bad 1 (cTs x) 0 x rfl hx (by omega)
 rw [← e1] at h1
 clear e1 el eb
 repeat' ((first | apply ah | apply ai | apply af | apply ak mixed | (with_reducible first | refine au ?_ | refine aB (f := .c (.fn 56 [])) ?_ | refine ar ?_ | refine am (h1) (by simp) ?_) | (with_reducible refine ⟨?_, ?_⟩; (focus ((repeat' with_reducible refine ⟨?_, ?_⟩) <;> first | exact trivial | assumption | (simp; done) | (simp only [zA] at *; omega) | omega | (simp [fs]; done) | first | exact ax | (intro x hx; subst hx; exact ⟨k1, k2⟩) | (intro x hx; subst hx; exact k1)))) | (with_reducible intro x hx) | omega) <;> (try simp only [Nat.reduceBEq, reduceIte, Nat.reduceEqDiff, Nat.reduceAdd, Nat.reduceSub, Nat.reduceLT, reduceCtorEq, fw, fd]))
 refine ay [0, 1, 2, 3, 4] (by rfl) (by simp) (by simp [fg])
theorem xa (l : List UInt8) (bad : Bool) (sz : Nat) (R : List D) (j most : Nat) (xs : List Int) (hR : R[j]? = some (L (aJ .i64 xs))) (hm : most < 9223372036854775808) (hxl : xs.length ≤ 140737488351232) (hx : ∀ x ∈ xs, xG x) (hl : (l ++ aY pm xs).length ≤ 1099511627776) :
  az Tryz.prog 104 [.ptr 0 0 0 1, .ptr 3 0 j 1, .int .i64 most, .fn 105 [.ptr 4 0 0 1]] [Cw 1 bad, Ww 2 l.length, ba true 1 true (r8 l), Va sz R, Bx 0] (.tup [])
   [Cw 1 (bad || bn pe most xs), Ww 2 (l ++ aY pm xs).length, ba true 1 true (r8 (l ++ aY pm xs)), Va sz R, Bx 0] :=
 ji (kk := .i64) Tryz.func104 low104 (by decide) (fun l bad a => yJ l bad a) l bad sz R j most xs hR hm hxl hx hl
def mW (x : Int × Int) : List UInt8 := bl (uI x.1) ++ bl (uI x.2)
def nM (x : Int × Int) : Bool := decide (40 < uI x.2)
def xz (x : Int × Int) : List D := [.int .u32 x.1, .int .i64 x.2]
def vB (x : Int × Int) : Prop := (0 ≤ x.1 ∧ x.1 ≤ 4294967295) ∧ dv x.2
theorem yN (l : List UInt8) (bad : Bool) (x : Int × Int) (hx : vB x) (hl : (l ++ mW x).length ≤ 1099511627776) :
  az Tryz.prog 107 [.ptr 0 0 0 1, .ptr 1 0 0 1] [Va 2 (xz x), Bx 2, Cw 3 bad, Ww 4 l.length, ba true 1 true (r8 l)] (.tup [])
   [Va 2 (xz x), Bx 2, Cw 3 (bad || nM x), Ww 4 (l ++ mW x).length, ba true 1 true (r8 (l ++ mW x))] := by
 refine aS Tryz.func107 low107 (by simp [c107]) ?_
 simp only [c107]
 unfold vB at hx
 obtain ⟨l1, e1⟩ : ∃ l1, l1 = l ++ bl (uI x.1) := ⟨_, rfl⟩
 obtain ⟨l2, e2⟩ : ∃ l2, l2 = l1 ++ bl (uI x.2) := ⟨_, rfl⟩
 obtain ⟨b2, d2⟩ : ∃ b2, b2 = (bad || decide (40 < uI x.2)) := ⟨_, rfl⟩
 have el : l ++ mW x = l2 := by rw [e2, e1]; simp [mW]
 have eb : (bad || nM x) = b2 := by rw [d2]; simp [nM]
 rw [el] at hl
 rw [el, eb]
 have g1 : l1.length ≤ l2.length := by rw [e2, zB]; omega
 have g0 : l.length ≤ l1.length := by rw [e1, zB]; omega
 have h1 := fh l bad 2 (xz x) 0 x.1 rfl hx.1 (by omega)
 rw [← e1] at h1
 have h2 := cA l1 bad 2 (xz x) 1 40 x.2 rfl hx.2 (by omega) (by omega)
 rw [← e2, ← d2] at h2
 clear e1 e2 d2 el eb
 repeat' ((first | apply ah | apply ai | apply af | apply ap mixed | (with_reducible first | refine au ?_ | refine aA (f := .c (.fn 78 [])) ?_ | refine aA (f := .c (.fn 57 [])) ?_ | refine aw ?_ | refine am (h1) (by simp) ?_ | refine am (h2) (by simp) ?_) | (with_reducible refine ⟨?_, ?_⟩; (focus ((repeat' with_reducible refine ⟨?_, ?_⟩) <;> first | exact trivial | assumption | (simp; done) | (simp only [zA] at *; omega) | omega | (simp [fs]; done) | first | exact ax | (intro x hx; subst hx; exact ⟨k1, k2⟩) | (intro x hx; subst hx; exact k1)))) | (with_reducible intro x hx) | omega) <;> (try simp only [Nat.reduceBEq, reduceIte, Nat.reduceEqDiff, Nat.reduceAdd, Nat.reduceSub, Nat.reduceLT, reduceCtorEq, fw, fd]))
 refine ay [0, 1, 2, 3, 4] (by rfl) (by simp) (by simp [fg])
theorem xg (l : List UInt8) (bad : Bool) (sz : Nat) (R : List D) (j most : Nat) (xs : List (Int × Int)) (hR : R[j]? = some (L (aV .u32 .i64 xs))) (hm : most < 9223372036854775808) (hxl : xs.length ≤ 140737488351232) (hx : ∀ x ∈ xs, vB x) (hl : (l ++ aY mW xs).length ≤ 1099511627776) :
  az Tryz.prog 106 [.ptr 0 0 0 1, .ptr 3 0 j 1, .int .i64 most, .fn 107 [.ptr 4 0 0 1]] [Cw 1 bad, Ww 2 l.length, ba true 1 true (r8 l), Va sz R, Bx 0] (.tup [])
   [Cw 1 (bad || bn nM most xs), Ww 2 (l ++ aY mW xs).length, ba true 1 true (r8 (l ++ aY mW xs)), Va sz R, Bx 0] :=
 f8 (rw_ := xz) Tryz.func106 low106 (by decide) (by decide) rfl (fun _ => rfl) rfl rfl (fun _ => rfl) (fun _ => rfl) (fun _ => rfl) (fun l bad a => yN l bad a) l bad sz R j most xs hR hm hxl hx hl
def lQ (x : Int × Int × Int) : List UInt8 := bl (uI x.1) ++ (bl (uI x.2.1) ++ bl (uI x.2.2))
def mH (x : Int × Int × Int) : Bool := false
def vR (x : Int × Int × Int) : List D := [.int .u32 x.1, .int .u64 x.2.1, .int .u64 x.2.2]
def vq (x : Int × Int × Int) : Prop := (0 ≤ x.1 ∧ x.1 ≤ 4294967295) ∧ (0 ≤ x.2.1 ∧ x.2.1 ≤ 18446744073709551615) ∧ (0 ≤ x.2.2 ∧ x.2.2 ≤ 18446744073709551615)
theorem yq (l : List UInt8) (bad : Bool) (x : Int × Int × Int) (hx : vq x) (hl : (l ++ lQ x).length ≤ 1099511627776) :
  az Tryz.prog 77 [.ptr 0 0 0 1, .ptr 1 0 0 1] [Va 3 (vR x), Bx 2, Cw 3 bad, Ww 4 l.length, ba true 1 true (r8 l)] (.tup [])
   [Va 3 (vR x), Bx 2, Cw 3 (bad || mH x), Ww 4 (l ++ lQ x).length, ba true 1 true (r8 (l ++ lQ x))] := by
 refine aS Tryz.func77 low77 (by simp [c77]) ?_
 simp only [c77]
 unfold vq at hx
 obtain ⟨l1, e1⟩ : ∃ l1, l1 = l ++ bl (uI x.1) := ⟨_, rfl⟩
 obtain ⟨l2, e2⟩ : ∃ l2, l2 = l1 ++ bl (uI x.2.1) := ⟨_, rfl⟩
 obtain ⟨l3, e3⟩ : ∃ l3, l3 = l2 ++ bl (uI x.2.2) := ⟨_, rfl⟩
 have el : l ++ lQ x = l3 := by rw [e3, e2, e1]; simp [lQ]
 have eb : (bad || mH x) = bad := by simp [mH]
 rw [el] at hl
 rw [el, eb]
 have g2 : l2.length ≤ l3.length := by rw [e3, zB]; omega
 have g1 : l1.length ≤ l2.length := by rw [e2, zB]; omega
 have g0 : l.length ≤ l1.length := by rw [e1, zB]; omega
 have h1 := fh l bad 3 (vR x) 0 x.1 rfl hx.1 (by omega)
 rw [← e1] at h1
 have h2 := qO l1 bad 3 (vR x) 1 x.2.1 rfl hx.2.1 (by omega)
 rw [← e2] at h2
 have h3 := qO l2 bad 3 (vR x) 2 x.2.2 rfl hx.2.2 (by omega)
 rw [← e3] at h3
 clear e1 e2 e3 el eb
 repeat' ((first | apply ah | apply ai | apply af | apply ap mixed | (with_reducible first | refine au ?_ | refine aA (f := .c (.fn 78 [])) ?_ | refine aA (f := .c (.fn 53 [])) ?_ | refine aw ?_ | refine am (h1) (by simp) ?_ | refine am (h2) (by simp) ?_ | refine am (h3) (by simp) ?_) | (with_reducible refine ⟨?_, ?_⟩; (focus ((repeat' with_reducible refine ⟨?_, ?_⟩) <;> first | exact trivial | assumption | (simp; done) | (simp only [zA] at *; omega) | omega | (simp [fs]; done) | first | exact ax | (intro x hx; subst hx; exact ⟨k1, k2⟩) | (intro x hx; subst hx; exact k1)))) | (with_reducible intro x hx) | omega) <;> (try simp only [Nat.reduceBEq, reduceIte, Nat.reduceEqDiff, Nat.reduceAdd, Nat.reduceSub, Nat.reduceLT, reduceCtorEq, fw, fd]))
 refine ay [0, 1, 2, 3, 4] (by rfl) (by simp) (by simp [fg])
theorem wG (l : List UInt8) (bad : Bool) (sz : Nat) (R : List D) (j most : Nat) (xs : List (Int × Int × Int)) (hR : R[j]? = some (L (fY xs))) (hm : most < 9223372036854775808) (hxl : xs.length ≤ 140737488351232) (hx : ∀ x ∈ xs, vq x) (hl : (l ++ aY lQ xs).length ≤ 1099511627776) :
  az Tryz.prog 76 [.ptr 0 0 0 1, .ptr 3 0 j 1, .int .i64 most, .fn 77 [.ptr 4 0 0 1]] [Cw 1 bad, Ww 2 l.length, ba true 1 true (r8 l), Va sz R, Bx 0] (.tup [])
   [Cw 1 (bad || bn mH most xs), Ww 2 (l ++ aY lQ xs).length, ba true 1 true (r8 (l ++ aY lQ xs)), Va sz R, Bx 0] :=
 f8 (rw_ := vR) Tryz.func76 low76 (by decide) (by decide) rfl (fun _ => rfl) rfl rfl (fun _ => rfl) (fun _ => rfl) (fun _ => rfl) (fun l bad a => yq l bad a) l bad sz R j most xs hR hm hxl hx hl
end Go.Proofs.YtgefljdclekadaaGreat

namespace Go.Proofs.YtgefljdclekadaaGreat
open Go Go.Vi
structure Rs where
 l : List UInt8
 rb : Bool
 cb : Bool
def aN (m : Nat) (s : Rs) : Nat × Rs := ((dc m s.l s.rb).1, ⟨(dc m s.l s.rb).2.1, (dc m s.l s.rb).2.2, s.cb⟩)
def cB (s : Rs) : Int × Rs := (eK (dc 18446744073709551615 s.l s.rb).1, ⟨(dc 18446744073709551615 s.l s.rb).2.1, (dc 18446744073709551615 s.l s.rb).2.2, s.cb⟩)
def ik (lo hi : Int) (s : Rs) : Int × Rs := (eK (dc 18446744073709551615 s.l s.rb).1, ⟨(dc 18446744073709551615 s.l s.rb).2.1, (dc 18446744073709551615 s.l s.rb).2.2, s.cb || decide (eK (dc 18446744073709551615 s.l s.rb).1 < lo ∨ hi < eK (dc 18446744073709551615 s.l s.rb).1)⟩)
def nv (s : Rs) : Bool × Rs := (decide ((dc 1 s.l s.rb).1 = 1), ⟨(dc 1 s.l s.rb).2.1, (dc 1 s.l s.rb).2.2, s.cb⟩)
theorem aQ (m : Nat) (hm : m < 18446744073709551616) (s : Rs) : (aN m s).2.l.length ≤ s.l.length ∧ (aN m s).1 ≤ m := by
 have := fp m s.l s.rb hm
 exact ⟨this.2, this.1⟩
theorem cv (s : Rs) : (cB s).2.l.length ≤ s.l.length := (fp 18446744073709551615 s.l s.rb (by omega)).2
theorem gK (lo hi : Int) (s : Rs) : (ik lo hi s).2.l.length ≤ s.l.length := (fp 18446744073709551615 s.l s.rb (by omega)).2
theorem nw (s : Rs) : (nv s).2.l.length ≤ s.l.length := (fp 1 s.l s.rb (by omega)).2
def dz {α : Type} (re : Rs → α × Rs) : Nat → Rs → List α → List α × Rs
 | 0, s, a => (a, s)
 | k + 1, s, a => if (re s).2.rb = true ∨ (re s).2.cb = true then (a, (re s).2) else dz re k (re s).2 (a ++ [(re s).1])
def aG {α : Type} (re : Rs → α × Rs) (most : Nat) (s : Rs) : List α × Rs := dz re (aN most s).1 (aN most s).2 []
set_option maxHeartbeats 8000000 in
theorem fZ {α : Type} {F g n b : Nat} {fn : Func} {z : List D} {rw_ : α → List D} {re : Rs → α × Rs} (hF : Tryz.prog.funcs[F]? = some fn) (hL : aH Tryz.prog fn = some (du n b (some n) z)) (hg8 : g < bB) (hnp : 0 < n) (hbb : b ≤ 1000)
  (hz : z.length = n) (hrl : ∀ a, (rw_ a).length = n) (hz1 : z.all D.one = true) (hz2 : z.all D.pt1 = true) (hr1 : ∀ a, (rw_ a).all D.one = true) (hr2 : ∀ a, (rw_ a).all D.pt1 = true) (hn1 : ∀ a, (rw_ a).map D.norm1 = rw_ a)
  (hre : ∀ s, (re s).2.l.length ≤ s.l.length)
  (hel : ∀ s : Rs, s.l.length ≤ 1099511627776 → az Tryz.prog g [.ptr 0 0 0 1, .ptr 1 0 0 1] [Va n z, Bx 2, Cr 3 s.cb, Rd s.l s.rb] (.tup []) [Va n (rw_ (re s).1), Bx 2, Cr 3 (re s).2.cb, Rd (re s).2.l (re s).2.rb])
  (s : Rs) (sz : Nat) (R : List D) (j most : Nat) (hR : R[j]? = some (.list (some true) true [])) (hz0 : R.length = sz) (hm : most < 1000000) (hl : s.l.length ≤ 1099511627776) :
  az Tryz.prog F [.ptr 0 0 0 1, .ptr 2 0 j 1, .int .i64 most, .fn g [.ptr 3 0 0 1]] [Cr 1 s.cb, Rd s.l s.rb, Va sz R, Bx 0] (.tup [])
   [Cr 1 (aG re most s).2.cb, Rd (aG re most s).2.l (aG re most s).2.rb, Va sz (R.set j (L ((aG re most s).1.map rw_))), Bx 0] := by
 refine aS hF hL (by simp [du]) ?_
 simp only [du]
 have hzn : (z = []) = False := eq_false (fun h => by rw [h] at hz; simp at hz; omega)
 have hn : az Tryz.prog 53 [.ptr 0 0 0 1, .ptr 2 0 0 1, .int .u64 most] [Cr 1 s.cb, Rd s.l s.rb, Va 1 [.int .u64 0]] (.tup []) [Cr 1 (aN most s).2.cb, Rd (aN most s).2.l (aN most s).2.rb, Va 1 [.int .u64 (aN most s).1]] := gI s.l s.rb s.cb 1 [.int .u64 0] 0 most rfl (by omega) (by omega) hl
 obtain ⟨X, hX⟩ : ∃ X, aG re most s = X := ⟨_, rfl⟩
 rw [hX]
 unfold aG at hX
 obtain ⟨g1, g2⟩ := aQ most (by omega) s
 generalize aN most s = q at hn hX g1 g2
 obtain ⟨cnt, s0⟩ := q
 dsimp only at hn hX g1 g2
 have hj : j < R.length := (zG.1 hR).1
 have z0 : (((0 : Nat) : Int)) = 0 := rfl
 refine iA 2 rfl rfl fun hpt => ?_
 have hpt : ∀ x ∈ R, x.pt1 = true := fun x hx => hpt R (by simp) x hx
 have own1 : ∀ d : D, (R.set j d)[j]? = some d := fun d => by rw [List.getElem?_set_self hj]
 have own2 : ∀ d e : D, (R.set j d).take j ++ [e] ++ (R.set j d).drop (j + 1) = R.set j e := fun d e => by
  rw [kU (by rw [zF]; exact hj), List.set_set]
 have pl5 : ∀ (σ : List Ob) (k m : Nat), bV (cg true [0, 1, 2, 3, 5] σ) (R.set j (.own 5 0 k m n none)) = some (R.set j (.own 4 0 k m n none)) := fun σ k m => eC hpt rfl
 have pl4 : ∀ (σ : List Ob) (k m : Nat), bV (cg true [0, 1, 2, 3, 4] σ) (R.set j (.own 4 0 k m n none)) = some (R.set j (.own 4 0 k m n none)) := fun σ k m => eC hpt rfl
 have plL : ∀ (σ : List Ob) (rows : List (List D)), bV (cg true [0, 1, 2, 3] σ) (R.set j (.list none false rows)) = some (R.set j (.list none false rows)) := fun σ rows => jW hpt rfl
 have allL : ∀ rows : List (List D), (R.set j (.list none false rows)).all D.pt1 = true := fun rows => jM hpt rfl
 have hz' : (j + 1 ≤ sz) = True := eq_true (by omega)
 repeat' ((first | apply ah | apply al | apply ao | apply av | refine aq rfl ?_ | apply ai | apply af | apply ab | apply ak mixed | apply ap mixed | (with_reducible first | refine ac ?_ | refine au ?_ | refine bp ?_ | refine aA (f := .c (.fn 53 [])) ?_ | refine aB (f := .c (.fn 53 [])) ?_ | refine ar ?_ | refine aw ?_ | refine am (hn) (by simp) ?_) | simp (disch := omega) only [aF] | (with_reducible refine aU rfl rfl ?_ ?_; (focus ((try simp only [Wr, be, aI, aD, aR, bH, reduceIte, Nat.sub_zero, fw]) <;> ((repeat' (with_reducible refine And.intro ?_ ?_)) <;> first | exact trivial | assumption | (simp; done) | (simp only [zA] at *; omega) | omega | (simp [fs]; done) | first | exact ax | (intro x hx; subst hx; simp only [D.cells, D.ok]; exact ⟨k1, k2⟩) | (intro x hx; subst hx; exact k1))))) | ((first | refine aj ?_ ?_ | refine aa ?_ ?_) <;> intro hc <;> (try simp only [hc]) <;> try simp at hc) | (with_reducible refine ⟨?_, ?_⟩; (focus ((repeat' with_reducible refine ⟨?_, ?_⟩) <;> first | exact trivial | assumption | (simp; done) | (simp only [zA] at *; omega) | omega | (simp [fs]; done) | first | exact ax | (intro x hx; subst hx; simp only [D.cells, D.ok]; exact ⟨k1, k2⟩) | (intro x hx; subst hx; exact k1)))) | (with_reducible intro x hx) | omega) <;> (try simp only [hR, z0, Nat.reduceBEq, reduceIte, Nat.reduceEqDiff, Nat.reduceAdd, Nat.reduceSub, Nat.reduceLT, reduceCtorEq, cond_false, ne_eq, fw, fd]))
 refine ck (gq (l := 2) (j := 0) (i := j) (b := true) n true hnp rfl rfl rfl rfl hR) ?_
 refine aM (ι := {p : Nat × Rs × List α // dz re p.1 p.2.1 p.2.2 = X ∧ p.2.2.length + p.1 = cnt ∧ p.2.1.l.length ≤ s0.l.length}) (fun p => ([(0, .ptr 0 0 0 1), (1, .ptr 2 0 j 1), (3, .fn g [.ptr 3 0 0 1]), (42, .int .u64 cnt), (43, .int .u64 p.1.2.2.length)],
  [Cr 1 p.1.2.1.cb, Rd p.1.2.1.l p.1.2.1.rb, ⟨true, false, false, false, sz, [R.set j (.own 4 0 p.1.2.2.length p.1.2.2.length n none)], some 0⟩, Bx 0, ba true n true (p.1.2.2.map rw_)])) (fun p => p.1.1) ⟨(cnt, s0, []), hX, by simp, Nat.le_refl _⟩ ?_ ?_
 ·simp only [zL, List.map_nil]
  refine aC [0, 1, 2, 3, 5] (by rfl) (by simp) (by simp [pl5, fg]) (by simp [fg])
  skip
 rintro ⟨⟨k, s1, xs⟩, hk1, hk2, hk3⟩ hk
 dsimp only at hk1 hk2 hk3 hk ⊢
 have fin : ∀ (env : bK) (ys : List α) (s2 : Rs) (ex : List Ob), iz [Cr 1 s.cb, Rd s.l s.rb, Va sz R, Bx 0] env (Cr 1 s2.cb :: Rd s2.l s2.rb :: ⟨true, false, false, false, sz, [R.set j (.own 4 0 ys.length ys.length n none)], some 0⟩ :: Bx 0 :: ba true n true (ys.map rw_) :: ex) env
   (Cr 1 s2.cb :: Rd s2.l s2.rb :: ⟨true, false, false, false, sz, [R.set j (L (ys.map rw_))], some 0⟩ :: Bx 0 :: { ba true n true (ys.map rw_) with fz := true } :: ex) := fun env ys s2 ex => by
  refine iz.trans (fQ 4) ?_
  have := gO (base := [Cr 1 s.cb, Rd s.l s.rb, Va sz R, Bx 0]) (env := env) (σ := Cr 1 s2.cb :: Rd s2.l s2.rb :: ⟨true, false, false, false, sz, [R.set j (.own 4 0 ys.length ys.length n none)], some 0⟩ :: Bx 0 :: { ba true n true (ys.map rw_) with fz := true } :: ex) (l := 2) (j := 0) (i := j) (m := 4) (rows := ys.map rw_) rfl rfl rfl rfl (own1 _) rfl rfl (by
   rw [dl]
   show lg (some _) _ _ _ = _
   rw [dk]
   simp [ep, eo, zA, eH])
  simp only [List.set_cons_zero, List.set_cons_succ, List.set_set] at this
  exact this
 by_cases hlt : 0 < k
 ·obtain ⟨k, rfl⟩ : ∃ k', k = k' + 1 := ⟨k - 1, by omega⟩
  have c1 : (((xs.length : Nat) : Int) < ((cnt : Nat) : Int)) = True := by simp; omega
  have he := hel s1 (by omega)
  have hle := hre s1
  have hmul : (xs.length + 1) * b ≤ 140737488355328 := Nat.le_trans (Nat.mul_le_mul (show xs.length + 1 ≤ 1000000 by omega) hbb) (by decide)
  unfold dz at hk1
  generalize re s1 = q at he hk1 hle
  obtain ⟨v, s2⟩ := q
  dsimp only at he hk1 hle
  have k1 := hrl v
  have k2 := hr1 v
  have k3 := hr2 v
  have k5 : (rw_ v).take n = rw_ v := by rw [← k1]; exact List.take_length
  have k6 := hn1 v
  have hu : xs.map rw_ ++ [rw_ v] = (xs ++ [v]).map rw_ := by simp
  generalize hrv : rw_ v = rv at he k1 k2 k3 k5 k6 hu
  by_cases hb : s2.rb = true ∨ s2.cb = true
  ·rw [if_pos hb] at hk1
   rw [← hk1]
   obtain ⟨l2, rb2, cb2⟩ := s2
   dsimp only at he hb ⊢
   cases rb2
   ·obtain rfl : cb2 = true := by simpa using hb
    repeat' ((first | apply ah | apply al | apply ao | apply av | refine aq rfl ?_ | apply af | apply ab | apply ak mixed | apply ap mixed | (with_reducible first | refine ac ?_ | refine au ?_ | refine bp ?_ | refine aA (f := .t 45) ?_ | refine aB (f := .t 45) ?_ | refine ar ?_ | refine aw ?_ | refine am (he) (hb := hg8) (by simp) ?_) | refine ae (cZ _ _) ?_ ?_ | simp (disch := omega) only [aW, aF, aK, aL, bg, zI, zH] | (with_reducible refine aU rfl rfl ?_ ?_; (focus ((try simp only [Wr, be, aI, aD, aR, bH, reduceIte, Nat.sub_zero, fw]) <;> ((repeat' (with_reducible refine And.intro ?_ ?_)) <;> first | exact trivial | assumption | (simp; done) | (simp only [zA] at *; omega) | omega | (simp [fs]; done) | first | exact ax | (intro x hx; subst hx; simp only [D.cells, D.ok]; exact ⟨k1, k2⟩) | (intro x hx; subst hx; exact k1))))) | ((first | refine aj ?_ ?_ | refine aa ?_ ?_) <;> intro hc <;> (try simp only [hc]) <;> try simp at hc) | (with_reducible refine ⟨?_, ?_⟩; (focus ((repeat' with_reducible refine ⟨?_, ?_⟩) <;> first | exact trivial | assumption | (simp; done) | (simp only [zA] at *; omega) | omega | (simp [fs]; done) | first | exact ax | (intro x hx; subst hx; simp only [D.cells, D.ok]; exact ⟨k1, k2⟩) | (intro x hx; subst hx; exact k1)))) | (with_reducible intro x hx) | omega) <;> (try simp only [c1, hz, hzn, hz2, Nat.reduceBEq, reduceIte, Nat.reduceEqDiff, Nat.reduceAdd, Nat.reduceSub, Nat.reduceLT, reduceCtorEq, cond_false, ne_eq, fw, fd]))
    refine ck (fin _ xs ⟨l2, false, true⟩ [Va n rv]) ?_
    repeat' ((first | apply ah | apply al | apply ao | apply av | refine aq rfl ?_ | apply ai | apply af | apply ab | apply ak mixed | apply ap mixed | (with_reducible first | refine ac ?_ | refine au ?_ | refine bp ?_ | refine ar ?_ | refine aw ?_) | simp (disch := omega) only [aW, aF, aK, aL, bg, zI, zH] | (with_reducible refine aU rfl rfl ?_ ?_; (focus ((try simp only [Wr, be, aI, aD, aR, bH, reduceIte, Nat.sub_zero, fw]) <;> ((repeat' (with_reducible refine And.intro ?_ ?_)) <;> first | exact trivial | assumption | (simp; done) | (simp only [zA] at *; omega) | omega | (simp [fs]; done) | first | exact ax | (intro x hx; subst hx; simp only [D.cells, D.ok]; exact ⟨k1, k2⟩) | (intro x hx; subst hx; exact k1))))) | ((first | refine aj ?_ ?_ | refine aa ?_ ?_) <;> intro hc <;> (try simp only [hc]) <;> try simp at hc) | (with_reducible refine ⟨?_, ?_⟩; (focus ((repeat' with_reducible refine ⟨?_, ?_⟩) <;> first | exact trivial | assumption | (simp; done) | (simp only [zA] at *; omega) | omega | (simp [fs]; done) | first | exact ax | (intro x hx; subst hx; simp only [D.cells, D.ok]; exact ⟨k1, k2⟩) | (intro x hx; subst hx; exact k1)))) | (with_reducible intro x hx) | omega) <;> (try simp only [cf, fw]))
    refine ay [0, 1, 2, 3] (by rfl) (by simp) (by simp [plL, allL, fg])
   ·repeat' ((first | apply ah | apply al | apply ao | apply av | refine aq rfl ?_ | apply af | apply ab | apply ak mixed | apply ap mixed | (with_reducible first | refine ac ?_ | refine au ?_ | refine bp ?_ | refine aA (f := .t 45) ?_ | refine aB (f := .t 45) ?_ | refine ar ?_ | refine aw ?_ | refine am (he) (hb := hg8) (by simp) ?_) | refine ae (cZ _ _) ?_ ?_ | simp (disch := omega) only [aW, aF, aK, aL, bg, zI, zH] | (with_reducible refine aU rfl rfl ?_ ?_; (focus ((try simp only [Wr, be, aI, aD, aR, bH, reduceIte, Nat.sub_zero, fw]) <;> ((repeat' (with_reducible refine And.intro ?_ ?_)) <;> first | exact trivial | assumption | (simp; done) | (simp only [zA] at *; omega) | omega | (simp [fs]; done) | first | exact ax | (intro x hx; subst hx; simp only [D.cells, D.ok]; exact ⟨k1, k2⟩) | (intro x hx; subst hx; exact k1))))) | ((first | refine aj ?_ ?_ | refine aa ?_ ?_) <;> intro hc <;> (try simp only [hc]) <;> try simp at hc) | (with_reducible refine ⟨?_, ?_⟩; (focus ((repeat' with_reducible refine ⟨?_, ?_⟩) <;> first | exact trivial | assumption | (simp; done) | (simp only [zA] at *; omega) | omega | (simp [fs]; done) | first | exact ax | (intro x hx; subst hx; simp only [D.cells, D.ok]; exact ⟨k1, k2⟩) | (intro x hx; subst hx; exact k1)))) | (with_reducible intro x hx) | omega) <;> (try simp only [c1, hz, hzn, hz2, Nat.reduceBEq, reduceIte, Nat.reduceEqDiff, Nat.reduceAdd, Nat.reduceSub, Nat.reduceLT, reduceCtorEq, cond_true, ne_eq, fw, fd]))
    refine ck (fin _ xs ⟨l2, true, cb2⟩ [Va n rv]) ?_
    repeat' ((first | apply ah | apply al | apply ao | apply av | refine aq rfl ?_ | apply ai | apply af | apply ab | apply ak mixed | apply ap mixed | (with_reducible first | refine ac ?_ | refine au ?_ | refine bp ?_ | refine ar ?_ | refine aw ?_) | simp (disch := omega) only [aW, aF, aK, aL, bg, zI, zH] | (with_reducible refine aU rfl rfl ?_ ?_; (focus ((try simp only [Wr, be, aI, aD, aR, bH, reduceIte, Nat.sub_zero, fw]) <;> ((repeat' (with_reducible refine And.intro ?_ ?_)) <;> first | exact trivial | assumption | (simp; done) | (simp only [zA] at *; omega) | omega | (simp [fs]; done) | first | exact ax | (intro x hx; subst hx; simp only [D.cells, D.ok]; exact ⟨k1, k2⟩) | (intro x hx; subst hx; exact k1))))) | ((first | refine aj ?_ ?_ | refine aa ?_ ?_) <;> intro hc <;> (try simp only [hc]) <;> try simp at hc) | (with_reducible refine ⟨?_, ?_⟩; (focus ((repeat' with_reducible refine ⟨?_, ?_⟩) <;> first | exact trivial | assumption | (simp; done) | (simp only [zA] at *; omega) | omega | (simp [fs]; done) | first | exact ax | (intro x hx; subst hx; simp only [D.cells, D.ok]; exact ⟨k1, k2⟩) | (intro x hx; subst hx; exact k1)))) | (with_reducible intro x hx) | omega) <;> (try simp only [cf, fw]))
    refine ay [0, 1, 2, 3] (by rfl) (by simp) (by simp [plL, allL, fg])
  ·rw [if_neg hb] at hk1
   obtain ⟨l2, rb2, cb2⟩ := s2
   dsimp only at he hb hle hk1 ⊢
   obtain ⟨rfl, rfl⟩ : rb2 = false ∧ cb2 = false := by simpa using hb
   repeat' ((first | apply ah | apply al | apply ao | apply av | refine aq rfl ?_ | apply ai | apply af | apply ab | apply ak mixed | apply ap mixed | (with_reducible first | refine ac ?_ | refine au ?_ | refine bp ?_ | refine aA (f := .t 45) ?_ | refine aB (f := .t 45) ?_ | refine ar ?_ | refine aw ?_ | refine am (he) (hb := hg8) (by simp) ?_) | refine ae (cZ _ _) ?_ ?_ | simp (disch := omega) only [aF] | (with_reducible refine aU rfl rfl ?_ ?_; (focus ((try simp only [Wr, be, aI, aD, aR, bH, reduceIte, Nat.sub_zero, fw]) <;> ((repeat' (with_reducible refine And.intro ?_ ?_)) <;> first | exact trivial | assumption | (simp; done) | (simp only [zA] at *; omega) | omega | (simp [fs]; done) | first | exact ax | (intro x hx; subst hx; simp only [D.cells, D.ok]; exact ⟨k1, k2⟩) | (intro x hx; subst hx; exact k1))))) | ((first | refine aj ?_ ?_ | refine aa ?_ ?_) <;> intro hc <;> (try simp only [hc]) <;> try simp at hc) | (with_reducible refine ⟨?_, ?_⟩; (focus ((repeat' with_reducible refine ⟨?_, ?_⟩) <;> first | exact trivial | assumption | (simp; done) | omega | (simp [fs]; done) | first | exact ax | (intro x hx; subst hx; simp only [D.cells, D.ok]; exact ⟨k1, k2⟩) | (intro x hx; subst hx; exact k1)))) | (with_reducible intro x hx) | omega) <;> (try simp only [c1, own1, own2, hz', hu, hz, hzn, hz2, k1, k3, k5, k6, Nat.reduceBEq, reduceIte, Nat.reduceEqDiff, Nat.reduceAdd, Nat.reduceSub, Nat.reduceLT, Nat.reduceLeDiff, reduceCtorEq, cond_false, ne_eq, fw, fd]))
   refine hk ⟨(k, ⟨l2, false, false⟩, xs ++ [v]), hk1, by rw [zB, zK, zL]; omega, by dsimp only; omega⟩ _ _ (by dsimp only; omega) ?_
   dsimp only
   simp only [zB, zK, zL]
   refine aC [0, 1, 2, 3, 4] (by rfl) (by simp) (by simp [pl4, fg]) (by simp [fg])
   skip
 ·obtain rfl : k = 0 := by omega
  have c1 : (((xs.length : Nat) : Int) < ((cnt : Nat) : Int)) = False := by simp; omega
  unfold dz at hk1
  rw [← hk1]
  dsimp only
  refine ck (fin _ xs s1 []) ?_
  repeat' ((first | apply ah | apply al | apply ao | apply av | refine aq rfl ?_ | apply ai | apply af | apply ab | apply ak mixed | apply ap mixed | (with_reducible first | refine ac ?_ | refine au ?_ | refine bp ?_ | refine ar ?_ | refine aw ?_) | simp (disch := omega) only [aW, aF, aK, aL, bg, zI, zH] | (with_reducible refine aU rfl rfl ?_ ?_; (focus ((try simp only [Wr, be, aI, aD, aR, bH, reduceIte, Nat.sub_zero, fw]) <;> ((repeat' (with_reducible refine And.intro ?_ ?_)) <;> first | exact trivial | assumption | (simp; done) | (simp only [zA] at *; omega) | omega | (simp [fs]; done) | first | exact ax | (intro x hx; subst hx; exact ⟨k1, k2⟩) | (intro x hx; subst hx; exact k1))))) | ((first | refine aj ?_ ?_ | refine aa ?_ ?_) <;> intro hc <;> (try simp only [hc]) <;> try simp at hc) | (with_reducible refine ⟨?_, ?_⟩; (focus ((repeat' with_reducible refine ⟨?_, ?_⟩) <;> first | exact trivial | assumption | (simp; done) | (simp only [zA] at *; omega) | omega | (simp [fs]; done) | first | exact ax | (intro x hx; subst hx; exact ⟨k1, k2⟩) | (intro x hx; subst hx; exact k1)))) | (with_reducible intro x hx) | omega) <;> (try simp only [c1, Nat.reduceBEq, reduceIte, fH, bh, cf, fw]))
  refine ay [0, 1, 2, 3] (by rfl) (by simp) (by simp [plL, allL, fg])
  skip
set_option maxHeartbeats 8000000 in
theorem jh {F g b : Nat} {fn : Func} {kk : IntKind} {re : Rs → Int × Rs} (hF : Tryz.prog.funcs[F]? = some fn) (hL : aH Tryz.prog fn = some (du 1 b none [.int kk 0])) (hg8 : g < bB) (hbb : b ≤ 1000)
  (hre : ∀ s, (re s).2.l.length ≤ s.l.length)
  (hel : ∀ s : Rs, s.l.length ≤ 1099511627776 → az Tryz.prog g [.ptr 0 0 0 1, .ptr 1 0 0 1] [Va 1 [.int kk 0], Bx 2, Cr 3 s.cb, Rd s.l s.rb] (.tup []) [Va 1 [.int kk (re s).1], Bx 2, Cr 3 (re s).2.cb, Rd (re s).2.l (re s).2.rb])
  (s : Rs) (sz : Nat) (R : List D) (j most : Nat) (hR : R[j]? = some (.list (some true) true [])) (hz0 : R.length = sz) (hm : most < 1000000) (hl : s.l.length ≤ 1099511627776) :
  az Tryz.prog F [.ptr 0 0 0 1, .ptr 2 0 j 1, .int .i64 most, .fn g [.ptr 3 0 0 1]] [Cr 1 s.cb, Rd s.l s.rb, Va sz R, Bx 0] (.tup [])
   [Cr 1 (aG re most s).2.cb, Rd (aG re most s).2.l (aG re most s).2.rb, Va sz (R.set j (L (aJ kk (aG re most s).1))), Bx 0] := by
 refine aS hF hL (by simp [du]) ?_
 simp only [du]
 have hn : az Tryz.prog 53 [.ptr 0 0 0 1, .ptr 2 0 0 1, .int .u64 most] [Cr 1 s.cb, Rd s.l s.rb, Va 1 [.int .u64 0]] (.tup []) [Cr 1 (aN most s).2.cb, Rd (aN most s).2.l (aN most s).2.rb, Va 1 [.int .u64 (aN most s).1]] := gI s.l s.rb s.cb 1 [.int .u64 0] 0 most rfl (by omega) (by omega) hl
 obtain ⟨X, hX⟩ : ∃ X, aG re most s = X := ⟨_, rfl⟩
 rw [hX]
 unfold aG at hX
 obtain ⟨g1, g2⟩ := aQ most (by omega) s
 generalize aN most s = q at hn hX g1 g2
 obtain ⟨n, s0⟩ := q
 dsimp only at hn hX g1 g2
 have hj : j < R.length := (zG.1 hR).1
 have z0 : (((0 : Nat) : Int)) = 0 := rfl
 refine iA 2 rfl rfl fun hpt => ?_
 have hpt : ∀ x ∈ R, x.pt1 = true := fun x hx => hpt R (by simp) x hx
 have own1 : ∀ d : D, (R.set j d)[j]? = some d := fun d => by rw [List.getElem?_set_self hj]
 have own2 : ∀ d e : D, (R.set j d).take j ++ [e] ++ (R.set j d).drop (j + 1) = R.set j e := fun d e => by
  rw [kU (by rw [zF]; exact hj), List.set_set]
 have pl5 : ∀ (σ : List Ob) (k n : Nat), bV (cg true [0, 1, 2, 3, 5] σ) (R.set j (.own 5 0 k n 1 none)) = some (R.set j (.own 4 0 k n 1 none)) := fun σ k n => eC hpt rfl
 have pl4 : ∀ (σ : List Ob) (k n : Nat), bV (cg true [0, 1, 2, 3, 4] σ) (R.set j (.own 4 0 k n 1 none)) = some (R.set j (.own 4 0 k n 1 none)) := fun σ k n => eC hpt rfl
 have plL : ∀ (σ : List Ob) (rows : List (List D)), bV (cg true [0, 1, 2, 3] σ) (R.set j (.list none false rows)) = some (R.set j (.list none false rows)) := fun σ rows => jW hpt rfl
 have allL : ∀ rows : List (List D), (R.set j (.list none false rows)).all D.pt1 = true := fun rows => jM hpt rfl
 have hz' : (j + 1 ≤ sz) = True := eq_true (by omega)
 repeat' ((first | apply ah | apply al | apply ao | apply av | refine aq rfl ?_ | apply ai | apply af | apply ab | apply ak mixed | apply ap mixed | (with_reducible first | refine ac ?_ | refine au ?_ | refine bp ?_ | refine aA (f := .c (.fn 53 [])) ?_ | refine aB (f := .c (.fn 53 [])) ?_ | refine ar ?_ | refine aw ?_ | refine am (hn) (by simp) ?_) | simp (disch := omega) only [aF] | (with_reducible refine aU rfl rfl ?_ ?_; (focus ((try simp only [Wr, be, aI, aD, aR, bH, reduceIte, Nat.sub_zero, fw]) <;> ((repeat' (with_reducible refine And.intro ?_ ?_)) <;> first | exact trivial | assumption | (simp; done) | (simp only [zA] at *; omega) | omega | (simp [fs]; done) | first | exact ax | (intro x hx; subst hx; exact ⟨k1, k2⟩) | (intro x hx; subst hx; exact k1))))) | ((first | refine aj ?_ ?_ | refine aa ?_ ?_) <;> intro hc <;> (try simp only [hc]) <;> try simp at hc) | (with_reducible refine ⟨?_, ?_⟩; (focus ((repeat' with_reducible refine ⟨?_, ?_⟩) <;> first | exact trivial | assumption | (simp; done) | (simp only [zA] at *; omega) | omega | (simp [fs]; done) | first | exact ax | (intro x hx; subst hx; exact ⟨k1, k2⟩) | (intro x hx; subst hx; exact k1)))) | (with_reducible intro x hx) | omega) <;> (try simp only [hR, z0, Nat.reduceBEq, reduceIte, Nat.reduceEqDiff, Nat.reduceAdd, Nat.reduceSub, Nat.reduceLT, reduceCtorEq, cond_false, ne_eq, fw, fd]))
 refine ck (gq (l := 2) (j := 0) (i := j) (b := true) 1 true (by decide) rfl rfl rfl rfl hR) ?_
 refine aM (ι := {p : Nat × Rs × List Int // dz re p.1 p.2.1 p.2.2 = X ∧ p.2.2.length + p.1 = n ∧ p.2.1.l.length ≤ s0.l.length}) (fun p => ([(0, .ptr 0 0 0 1), (1, .ptr 2 0 j 1), (3, .fn g [.ptr 3 0 0 1]), (42, .int .u64 n), (43, .int .u64 p.1.2.2.length)],
  [Cr 1 p.1.2.1.cb, Rd p.1.2.1.l p.1.2.1.rb, ⟨true, false, false, false, sz, [R.set j (.own 4 0 p.1.2.2.length p.1.2.2.length 1 none)], some 0⟩, Bx 0, ba true 1 true (aJ kk p.1.2.2)])) (fun p => p.1.1) ⟨(n, s0, []), hX, by simp, Nat.le_refl _⟩ ?_ ?_
 ·simp only [zL, show aJ kk [] = [] from rfl]
  refine aC [0, 1, 2, 3, 5] (by rfl) (by simp) (by simp [pl5, fg]) (by simp [fg])
  skip
 rintro ⟨⟨k, s1, xs⟩, hk1, hk2, hk3⟩ hk
 dsimp only at hk1 hk2 hk3 hk ⊢
 have fin : ∀ (env : bK) (ys : List Int) (s2 : Rs) (ex : List Ob), iz [Cr 1 s.cb, Rd s.l s.rb, Va sz R, Bx 0] env (Cr 1 s2.cb :: Rd s2.l s2.rb :: ⟨true, false, false, false, sz, [R.set j (.own 4 0 ys.length ys.length 1 none)], some 0⟩ :: Bx 0 :: ba true 1 true (aJ kk ys) :: ex) env
   (Cr 1 s2.cb :: Rd s2.l s2.rb :: ⟨true, false, false, false, sz, [R.set j (L (aJ kk ys))], some 0⟩ :: Bx 0 :: { ba true 1 true (aJ kk ys) with fz := true } :: ex) := fun env ys s2 ex => by
  refine iz.trans (fQ 4) ?_
  have := gO (base := [Cr 1 s.cb, Rd s.l s.rb, Va sz R, Bx 0]) (env := env) (σ := Cr 1 s2.cb :: Rd s2.l s2.rb :: ⟨true, false, false, false, sz, [R.set j (.own 4 0 ys.length ys.length 1 none)], some 0⟩ :: Bx 0 :: { ba true 1 true (aJ kk ys) with fz := true } :: ex) (l := 2) (j := 0) (i := j) (m := 4) (rows := aJ kk ys) rfl rfl rfl rfl (own1 _) rfl rfl (by
   rw [dl]
   show lg (some _) _ _ _ = _
   rw [dk]
   simp [ep, eo, aI, eH])
  simp only [List.set_cons_zero, List.set_cons_succ, List.set_set] at this
  exact this
 by_cases hlt : 0 < k
 ·obtain ⟨k, rfl⟩ : ∃ k', k = k' + 1 := ⟨k - 1, by omega⟩
  have c1 : (((xs.length : Nat) : Int) < ((n : Nat) : Int)) = True := by simp; omega
  have he := hel s1 (by omega)
  have hle := hre s1
  have hmul : (xs.length + 1) * b ≤ 140737488355328 := Nat.le_trans (Nat.mul_le_mul (show xs.length + 1 ≤ 1000000 by omega) hbb) (by decide)
  unfold dz at hk1
  generalize re s1 = q at he hk1 hle
  obtain ⟨v, s2⟩ := q
  dsimp only at he hk1 hle
  by_cases hb : s2.rb = true ∨ s2.cb = true
  ·rw [if_pos hb] at hk1
   rw [← hk1]
   obtain ⟨l2, rb2, cb2⟩ := s2
   dsimp only at he hb ⊢
   cases rb2
   ·obtain rfl : cb2 = true := by simpa using hb
    repeat' ((first | apply ah | apply al | apply ao | apply av | refine aq rfl ?_ | apply af | apply ab | apply ak mixed | apply ap mixed | (with_reducible first | refine ac ?_ | refine au ?_ | refine bp ?_ | refine aA (f := .t 45) ?_ | refine aB (f := .t 45) ?_ | refine ar ?_ | refine aw ?_ | refine am (he) (hb := hg8) (by simp) ?_) | refine ae (cZ _ _) ?_ ?_ | simp (disch := omega) only [aW, aF, aK, aL, bg, zI, zH] | (with_reducible refine aU rfl rfl ?_ ?_; (focus ((try simp only [Wr, be, aI, aD, aR, bH, reduceIte, Nat.sub_zero, fw]) <;> ((repeat' (with_reducible refine And.intro ?_ ?_)) <;> first | exact trivial | assumption | (simp; done) | (simp only [zA] at *; omega) | omega | (simp [fs]; done) | first | exact ax | (intro x hx; subst hx; exact ⟨k1, k2⟩) | (intro x hx; subst hx; exact k1))))) | ((first | refine aj ?_ ?_ | refine aa ?_ ?_) <;> intro hc <;> (try simp only [hc]) <;> try simp at hc) | (with_reducible refine ⟨?_, ?_⟩; (focus ((repeat' with_reducible refine ⟨?_, ?_⟩) <;> first | exact trivial | assumption | (simp; done) | (simp only [zA] at *; omega) | omega | (simp [fs]; done) | first | exact ax | (intro x hx; subst hx; exact ⟨k1, k2⟩) | (intro x hx; subst hx; exact k1)))) | (with_reducible intro x hx) | omega) <;> (try simp only [c1, Nat.reduceBEq, reduceIte, Nat.reduceEqDiff, Nat.reduceAdd, Nat.reduceSub, Nat.reduceLT, reduceCtorEq, cond_false, ne_eq, fw, fd]))
    refine ck (fin _ xs ⟨l2, false, true⟩ [Va 1 [.int kk v]]) ?_
    repeat' ((first | apply ah | apply al | apply ao | apply av | refine aq rfl ?_ | apply ai | apply af | apply ab | apply ak mixed | apply ap mixed | (with_reducible first | refine ac ?_ | refine au ?_ | refine bp ?_ | refine ar ?_ | refine aw ?_) | simp (disch := omega) only [aW, aF, aK, aL, bg, zI, zH] | (with_reducible refine aU rfl rfl ?_ ?_; (focus ((try simp only [Wr, be, aI, aD, aR, bH, reduceIte, Nat.sub_zero, fw]) <;> ((repeat' (with_reducible refine And.intro ?_ ?_)) <;> first | exact trivial | assumption | (simp; done) | (simp only [zA] at *; omega) | omega | (simp [fs]; done) | first | exact ax | (intro x hx; subst hx; exact ⟨k1, k2⟩) | (intro x hx; subst hx; exact k1))))) | ((first | refine aj ?_ ?_ | refine aa ?_ ?_) <;> intro hc <;> (try simp only [hc]) <;> try simp at hc) | (with_reducible refine ⟨?_, ?_⟩; (focus ((repeat' with_reducible refine ⟨?_, ?_⟩) <;> first | exact trivial | assumption | (simp; done) | (simp only [zA] at *; omega) | omega | (simp [fs]; done) | first | exact ax | (intro x hx; subst hx; exact ⟨k1, k2⟩) | (intro x hx; subst hx; exact k1)))) | (with_reducible intro x hx) | omega) <;> (try simp only [cf, fw]))
    refine ay [0, 1, 2, 3] (by rfl) (by simp) (by simp [plL, allL, fg])
   ·repeat' ((first | apply ah | apply al | apply ao | apply av | refine aq rfl ?_ | apply af | apply ab | apply ak mixed | apply ap mixed | (with_reducible first | refine ac ?_ | refine au ?_ | refine bp ?_ | refine aA (f := .t 45) ?_ | refine aB (f := .t 45) ?_ | refine ar ?_ | refine aw ?_ | refine am (he) (hb := hg8) (by simp) ?_) | refine ae (cZ _ _) ?_ ?_ | simp (disch := omega) only [aW, aF, aK, aL, bg, zI, zH] | (with_reducible refine aU rfl rfl ?_ ?_; (focus ((try simp only [Wr, be, aI, aD, aR, bH, reduceIte, Nat.sub_zero, fw]) <;> ((repeat' (with_reducible refine And.intro ?_ ?_)) <;> first | exact trivial | assumption | (simp; done) | (simp only [zA] at *; omega) | omega | (simp [fs]; done) | first | exact ax | (intro x hx; subst hx; exact ⟨k1, k2⟩) | (intro x hx; subst hx; exact k1))))) | ((first | refine aj ?_ ?_ | refine aa ?_ ?_) <;> intro hc <;> (try simp only [hc]) <;> try simp at hc) | (with_reducible refine ⟨?_, ?_⟩; (focus ((repeat' with_reducible refine ⟨?_, ?_⟩) <;> first | exact trivial | assumption | (simp; done) | (simp only [zA] at *; omega) | omega | (simp [fs]; done) | first | exact ax | (intro x hx; subst hx; exact ⟨k1, k2⟩) | (intro x hx; subst hx; exact k1)))) | (with_reducible intro x hx) | omega) <;> (try simp only [c1, Nat.reduceBEq, reduceIte, Nat.reduceEqDiff, Nat.reduceAdd, Nat.reduceSub, Nat.reduceLT, reduceCtorEq, cond_true, ne_eq, fw, fd]))
    refine ck (fin _ xs ⟨l2, true, cb2⟩ [Va 1 [.int kk v]]) ?_
    repeat' ((first | apply ah | apply al | apply ao | apply av | refine aq rfl ?_ | apply ai | apply af | apply ab | apply ak mixed | apply ap mixed | (with_reducible first | refine ac ?_ | refine au ?_ | refine bp ?_ | refine ar ?_ | refine aw ?_) | simp (disch := omega) only [aW, aF, aK, aL, bg, zI, zH] | (with_reducible refine aU rfl rfl ?_ ?_; (focus ((try simp only [Wr, be, aI, aD, aR, bH, reduceIte, Nat.sub_zero, fw]) <;> ((repeat' (with_reducible refine And.intro ?_ ?_)) <;> first | exact trivial | assumption | (simp; done) | (simp only [zA] at *; omega) | omega | (simp [fs]; done) | first | exact ax | (intro x hx; subst hx; exact ⟨k1, k2⟩) | (intro x hx; subst hx; exact k1))))) | ((first | refine aj ?_ ?_ | refine aa ?_ ?_) <;> intro hc <;> (try simp only [hc]) <;> try simp at hc) | (with_reducible refine ⟨?_, ?_⟩; (focus ((repeat' with_reducible refine ⟨?_, ?_⟩) <;> first | exact trivial | assumption | (simp; done) | (simp only [zA] at *; omega) | omega | (simp [fs]; done) | first | exact ax | (intro x hx; subst hx; exact ⟨k1, k2⟩) | (intro x hx; subst hx; exact k1)))) | (with_reducible intro x hx) | omega) <;> (try simp only [cf, fw]))
    refine ay [0, 1, 2, 3] (by rfl) (by simp) (by simp [plL, allL, fg])
  ·rw [if_neg hb] at hk1
   obtain ⟨l2, rb2, cb2⟩ := s2
   dsimp only at he hb hle hk1 ⊢
   obtain ⟨rfl, rfl⟩ : rb2 = false ∧ cb2 = false := by simpa using hb
   have hu : aJ kk xs ++ [[.int kk v]] = aJ kk (xs ++ [v]) := by simp [aJ]
   repeat' ((first | apply ah | apply al | apply ao | apply av | refine aq rfl ?_ | apply ai | apply af | apply ab | apply ak mixed | apply ap mixed | (with_reducible first | refine ac ?_ | refine au ?_ | refine bp ?_ | refine aA (f := .t 45) ?_ | refine aB (f := .t 45) ?_ | refine ar ?_ | refine aw ?_ | refine am (he) (hb := hg8) (by simp) ?_) | refine ae (cZ _ _) ?_ ?_ | simp (disch := omega) only [aF] | (with_reducible refine aU rfl rfl ?_ ?_; (focus ((try simp only [Wr, be, aI, aD, aR, bH, reduceIte, Nat.sub_zero, fw]) <;> ((repeat' (with_reducible refine And.intro ?_ ?_)) <;> first | exact trivial | assumption | (simp; done) | (simp only [zA] at *; omega) | omega | (simp [fs]; done) | first | exact ax | (intro x hx; subst hx; exact ⟨k1, k2⟩) | (intro x hx; subst hx; exact k1))))) | ((first | refine aj ?_ ?_ | refine aa ?_ ?_) <;> intro hc <;> (try simp only [hc]) <;> try simp at hc) | (with_reducible refine ⟨?_, ?_⟩; (focus ((repeat' with_reducible refine ⟨?_, ?_⟩) <;> first | exact trivial | assumption | (simp; done) | omega | (simp [fs]; done) | first | exact ax | (intro x hx; subst hx; exact ⟨k1, k2⟩) | (intro x hx; subst hx; exact k1)))) | (with_reducible intro x hx) | omega) <;> (try simp only [aI, c1, own1, own2, hz', hu, Nat.reduceBEq, reduceIte, Nat.reduceEqDiff, Nat.reduceAdd, Nat.reduceSub, Nat.reduceLT, Nat.reduceLeDiff, reduceCtorEq, cond_false, ne_eq, fw, fd]))
   refine hk ⟨(k, ⟨l2, false, false⟩, xs ++ [v]), hk1, by rw [zB, zK, zL]; omega, by dsimp only; omega⟩ _ _ (by dsimp only; omega) ?_
   dsimp only
   simp only [zB, zK, zL]
   refine aC [0, 1, 2, 3, 4] (by rfl) (by simp) (by simp [pl4, fg]) (by simp [fg])
   skip
 ·obtain rfl : k = 0 := by omega
  have c1 : (((xs.length : Nat) : Int) < ((n : Nat) : Int)) = False := by simp; omega
  unfold dz at hk1
  rw [← hk1]
  dsimp only
  refine ck (fin _ xs s1 []) ?_
  repeat' ((first | apply ah | apply al | apply ao | apply av | refine aq rfl ?_ | apply ai | apply af | apply ab | apply ak mixed | apply ap mixed | (with_reducible first | refine ac ?_ | refine au ?_ | refine bp ?_ | refine ar ?_ | refine aw ?_) | simp (disch := omega) only [aW, aF, aK, aL, bg, zI, zH] | (with_reducible refine aU rfl rfl ?_ ?_; (focus ((try simp only [Wr, be, aI, aD, aR, bH, reduceIte, Nat.sub_zero, fw]) <;> ((repeat' (with_reducible refine And.intro ?_ ?_)) <;> first | exact trivial | assumption | (simp; done) | (simp only [zA] at *; omega) | omega | (simp [fs]; done) | first | exact ax | (intro x hx; subst hx; exact ⟨k1, k2⟩) | (intro x hx; subst hx; exact k1))))) | ((first | refine aj ?_ ?_ | refine aa ?_ ?_) <;> intro hc <;> (try simp only [hc]) <;> try simp at hc) | (with_reducible refine ⟨?_, ?_⟩; (focus ((repeat' with_reducible refine ⟨?_, ?_⟩) <;> first | exact trivial | assumption | (simp; done) | (simp only [zA] at *; omega) | omega | (simp [fs]; done) | first | exact ax | (intro x hx; subst hx; exact ⟨k1, k2⟩) | (intro x hx; subst hx; exact k1)))) | (with_reducible intro x hx) | omega) <;> (try simp only [c1, Nat.reduceBEq, reduceIte, fH, bh, cf, fw]))
  refine ay [0, 1, 2, 3] (by rfl) (by simp) (by simp [plL, allL, fg])
  skip
def nk (s : Rs) : (Int × Int) × Rs := ((((cB s).1 : Int), ((ik (-900) 900 (cB s).2).1 : Int)), (ik (-900) 900 (cB s).2).2)
theorem qg (s : Rs) : (nk s).2.l.length ≤ s.l.length := Nat.le_trans (gK _ _ _) (cv _)
theorem yK (s : Rs) (hl : s.l.length ≤ 1099511627776) :
  az Tryz.prog 138 [.ptr 0 0 0 1, .ptr 1 0 0 1] [Va 2 [.int .i64 0, .int .i64 0], Bx 2, Cr 3 s.cb, Rd s.l s.rb] (.tup [])
   [Va 2 (xy (nk s).1), Bx 2, Cr 3 (nk s).2.cb, Rd (nk s).2.l (nk s).2.rb] := by
 refine aS Tryz.func138 low138 (by simp [c138]) ?_
 simp only [c138]
 unfold nk
 have g1 := cv s
 have h1 : az Tryz.prog 56 [.ptr 0 0 0 1, .ptr 2 0 0 1] [Cr 1 s.cb, Rd s.l s.rb, Va 2 [.int .i64 0, .int .i64 0]] (.tup []) [Cr 1 (cB s).2.cb, Rd (cB s).2.l (cB s).2.rb, Va 2 [.int .i64 (cB s).1, .int .i64 0]] := cC s.l s.rb s.cb 2 [.int .i64 0, .int .i64 0] 0 rfl (by omega) (by omega)
 generalize cB s = q1 at h1 g1 ⊢
 obtain ⟨v1, s1⟩ := q1
 dsimp only at h1 g1 ⊢
 have g2 := gK (-900) 900 s1
 have h2 : az Tryz.prog 136 [.ptr 0 0 0 1, .ptr 2 0 1 1, .int .i64 (-900), .int .i64 900] [Cr 1 s1.cb, Rd s1.l s1.rb, Va 2 [.int .i64 v1, .int .i64 0]] (.tup []) [Cr 1 (ik (-900) 900 s1).2.cb, Rd (ik (-900) 900 s1).2.l (ik (-900) 900 s1).2.rb, Va 2 [.int .i64 v1, .int .i64 (ik (-900) 900 s1).1]] := nz s1.l s1.rb s1.cb 2 [.int .i64 v1, .int .i64 0] 1 (-900) 900 rfl (by omega) (by omega)
 generalize ik (-900) 900 s1 = q2 at h2 g2 ⊢
 obtain ⟨v2, s2⟩ := q2
 dsimp only at h2 g2 ⊢
 have hc : xy ((v1 : Int), (v2 : Int)) = [.int .i64 v1, .int .i64 v2] := rfl
 rw [hc]
 repeat' ((first | apply ah | apply ai | apply af | apply ap mixed | (with_reducible first | refine au ?_ | refine aA (f := .c (.fn 56 [])) ?_ | refine aA (f := .c (.fn 136 [])) ?_ | refine aw ?_ | refine am (h1) (by simp) ?_ | refine am (h2) (by simp) ?_) | (with_reducible refine ⟨?_, ?_⟩; (focus ((repeat' with_reducible refine ⟨?_, ?_⟩) <;> first | exact trivial | assumption | (simp; done) | (simp only [zA] at *; omega) | omega | (simp [fs]; done) | first | exact ax | (intro x hx; subst hx; exact ⟨k1, k2⟩) | (intro x hx; subst hx; exact k1)))) | (with_reducible intro x hx) | omega) <;> (try simp only [Nat.reduceBEq, reduceIte, Nat.reduceEqDiff, Nat.reduceAdd, Nat.reduceSub, Nat.reduceLT, reduceCtorEq, Int.reduceNeg, fw, fd]))
 refine ay [0, 1, 2, 3] (by rfl) (by simp) (by simp [fg])
theorem xb (s : Rs) (sz : Nat) (R : List D) (j most : Nat) (hR : R[j]? = some (.list (some true) true [])) (hz : R.length = sz) (hm : most < 1000000) (hl : s.l.length ≤ 1099511627776) :
  az Tryz.prog 137 [.ptr 0 0 0 1, .ptr 2 0 j 1, .int .i64 most, .fn 138 [.ptr 3 0 0 1]] [Cr 1 s.cb, Rd s.l s.rb, Va sz R, Bx 0] (.tup [])
   [Cr 1 (aG nk most s).2.cb, Rd (aG nk most s).2.l (aG nk most s).2.rb, Va sz (R.set j (L (aV .i64 .i64 (aG nk most s).1))), Bx 0] :=
 fZ (rw_ := xy) Tryz.func137 low137 (by decide) (by decide) (by decide) rfl (fun _ => rfl) rfl rfl (fun _ => rfl) (fun _ => rfl) (fun _ => rfl) qg yK s sz R j most hR hz hm hl
def nh (s : Rs) : (Int × Int × Int) × Rs := ((((aN 127 s).1 : Int), ((aN 1440 (aN 127 s).2).1 : Int), ((aN 1440 (aN 1440 (aN 127 s).2).2).1 : Int)), (aN 1440 (aN 1440 (aN 127 s).2).2).2)
theorem qd (s : Rs) : (nh s).2.l.length ≤ s.l.length := Nat.le_trans (Nat.le_trans ((aQ _ (by omega) _).1) ((aQ _ (by omega) _).1)) ((aQ _ (by omega) _).1)
theorem yE (s : Rs) (hl : s.l.length ≤ 1099511627776) :
  az Tryz.prog 140 [.ptr 0 0 0 1, .ptr 1 0 0 1] [Va 3 [.int .i64 0, .int .i64 0, .int .i64 0], Bx 2, Cr 3 s.cb, Rd s.l s.rb] (.tup [])
   [Va 3 (vS (nh s).1), Bx 2, Cr 3 (nh s).2.cb, Rd (nh s).2.l (nh s).2.rb] := by
 refine aS Tryz.func140 low140 (by simp [c140]) ?_
 simp only [c140]
 unfold nh
 have g1 := (aQ 127 (by omega) s).1
 have h1 : az Tryz.prog 57 [.ptr 0 0 0 1, .ptr 2 0 0 1, .int .u64 127] [Cr 1 s.cb, Rd s.l s.rb, Va 3 [.int .i64 0, .int .i64 0, .int .i64 0]] (.tup []) [Cr 1 (aN 127 s).2.cb, Rd (aN 127 s).2.l (aN 127 s).2.rb, Va 3 [.int .i64 (aN 127 s).1, .int .i64 0, .int .i64 0]] := cI s.l s.rb s.cb 3 [.int .i64 0, .int .i64 0, .int .i64 0] 0 127 rfl (by omega) (by omega) (by omega)
 generalize aN 127 s = q1 at h1 g1 ⊢
 obtain ⟨v1, s1⟩ := q1
 dsimp only at h1 g1 ⊢
 have g2 := (aQ 1440 (by omega) s1).1
 have h2 : az Tryz.prog 57 [.ptr 0 0 0 1, .ptr 2 0 1 1, .int .u64 1440] [Cr 1 s1.cb, Rd s1.l s1.rb, Va 3 [.int .i64 v1, .int .i64 0, .int .i64 0]] (.tup []) [Cr 1 (aN 1440 s1).2.cb, Rd (aN 1440 s1).2.l (aN 1440 s1).2.rb, Va 3 [.int .i64 v1, .int .i64 (aN 1440 s1).1, .int .i64 0]] := cI s1.l s1.rb s1.cb 3 [.int .i64 v1, .int .i64 0, .int .i64 0] 1 1440 rfl (by omega) (by omega) (by omega)
 generalize aN 1440 s1 = q2 at h2 g2 ⊢
 obtain ⟨v2, s2⟩ := q2
 dsimp only at h2 g2 ⊢
 have g3 := (aQ 1440 (by omega) s2).1
 have h3 : az Tryz.prog 57 [.ptr 0 0 0 1, .ptr 2 0 2 1, .int .u64 1440] [Cr 1 s2.cb, Rd s2.l s2.rb, Va 3 [.int .i64 v1, .int .i64 v2, .int .i64 0]] (.tup []) [Cr 1 (aN 1440 s2).2.cb, Rd (aN 1440 s2).2.l (aN 1440 s2).2.rb, Va 3 [.int .i64 v1, .int .i64 v2, .int .i64 (aN 1440 s2).1]] := cI s2.l s2.rb s2.cb 3 [.int .i64 v1, .int .i64 v2, .int .i64 0] 2 1440 rfl (by omega) (by omega) (by omega)
 generalize aN 1440 s2 = q3 at h3 g3 ⊢
 obtain ⟨v3, s3⟩ := q3
 dsimp only at h3 g3 ⊢
 have hc : vS ((v1 : Int), (v2 : Int), (v3 : Int)) = [.int .i64 v1, .int .i64 v2, .int .i64 v3] := rfl
 rw [hc]
 repeat' ((first | apply ah | apply ai | apply af | apply ap mixed | (with_reducible first | refine au ?_ | refine aA (f := .c (.fn 57 [])) ?_ | refine aw ?_ | refine am (h1) (by simp) ?_ | refine am (h2) (by simp) ?_ | refine am (h3) (by simp) ?_) | (with_reducible refine ⟨?_, ?_⟩; (focus ((repeat' with_reducible refine ⟨?_, ?_⟩) <;> first | exact trivial | assumption | (simp; done) | (simp only [zA] at *; omega) | omega | (simp [fs]; done) | first | exact ax | (intro x hx; subst hx; exact ⟨k1, k2⟩) | (intro x hx; subst hx; exact k1)))) | (with_reducible intro x hx) | omega) <;> (try simp only [Nat.reduceBEq, reduceIte, Nat.reduceEqDiff, Nat.reduceAdd, Nat.reduceSub, Nat.reduceLT, reduceCtorEq, fw, fd]))
 refine ay [0, 1, 2, 3] (by rfl) (by simp) (by simp [fg])
theorem wW (s : Rs) (sz : Nat) (R : List D) (j most : Nat) (hR : R[j]? = some (.list (some true) true [])) (hz : R.length = sz) (hm : most < 1000000) (hl : s.l.length ≤ 1099511627776) :
  az Tryz.prog 139 [.ptr 0 0 0 1, .ptr 2 0 j 1, .int .i64 most, .fn 140 [.ptr 3 0 0 1]] [Cr 1 s.cb, Rd s.l s.rb, Va sz R, Bx 0] (.tup [])
   [Cr 1 (aG nh most s).2.cb, Rd (aG nh most s).2.l (aG nh most s).2.rb, Va sz (R.set j (L (bo (aG nh most s).1))), Bx 0] :=
 fZ (rw_ := vS) Tryz.func139 low139 (by decide) (by decide) (by decide) rfl (fun _ => rfl) rfl rfl (fun _ => rfl) (fun _ => rfl) (fun _ => rfl) qd yE s sz R j most hR hz hm hl
def nf (s : Rs) : (Int) × Rs := (((aN 109937 s).1 : Int), (aN 109937 s).2)
theorem qa (s : Rs) : (nf s).2.l.length ≤ s.l.length := (aQ _ (by omega) _).1
theorem yy (s : Rs) (hl : s.l.length ≤ 1099511627776) :
  az Tryz.prog 121 [.ptr 0 0 0 1, .ptr 1 0 0 1] [Va 1 [.int .i64 0], Bx 2, Cr 3 s.cb, Rd s.l s.rb] (.tup [])
   [Va 1 (cOf (nf s).1), Bx 2, Cr 3 (nf s).2.cb, Rd (nf s).2.l (nf s).2.rb] := by
 refine aS Tryz.func121 low121 (by simp [c121]) ?_
 simp only [c121]
 unfold nf
 have g1 := (aQ 109937 (by omega) s).1
 have h1 : az Tryz.prog 57 [.ptr 0 0 0 1, .ptr 2 0 0 1, .int .u64 109937] [Cr 1 s.cb, Rd s.l s.rb, Va 1 [.int .i64 0]] (.tup []) [Cr 1 (aN 109937 s).2.cb, Rd (aN 109937 s).2.l (aN 109937 s).2.rb, Va 1 [.int .i64 (aN 109937 s).1]] := cI s.l s.rb s.cb 1 [.int .i64 0] 0 109937 rfl (by omega) (by omega) (by omega)
 generalize aN 109937 s = q1 at h1 g1 ⊢
 obtain ⟨v1, s1⟩ := q1
 dsimp only at h1 g1 ⊢
 have hc : cOf (v1 : Int) = [.int .i64 v1] := rfl
 rw [hc]
 repeat' ((first | apply ah | apply ai | apply af | apply ak mixed | (with_reducible first | refine au ?_ | refine aB (f := .c (.fn 57 [])) ?_ | refine ar ?_ | refine am (h1) (by simp) ?_) | (with_reducible refine ⟨?_, ?_⟩; (focus ((repeat' with_reducible refine ⟨?_, ?_⟩) <;> first | exact trivial | assumption | (simp; done) | (simp only [zA] at *; omega) | omega | (simp [fs]; done) | first | exact ax | (intro x hx; subst hx; exact ⟨k1, k2⟩) | (intro x hx; subst hx; exact k1)))) | (with_reducible intro x hx) | omega) <;> (try simp only [Nat.reduceBEq, reduceIte, Nat.reduceEqDiff, Nat.reduceAdd, Nat.reduceSub, Nat.reduceLT, reduceCtorEq, fw, fd]))
 refine ay [0, 1, 2, 3] (by rfl) (by simp) (by simp [fg])
theorem wO (s : Rs) (sz : Nat) (R : List D) (j most : Nat) (hR : R[j]? = some (.list (some true) true [])) (hz : R.length = sz) (hm : most < 1000000) (hl : s.l.length ≤ 1099511627776) :
  az Tryz.prog 120 [.ptr 0 0 0 1, .ptr 2 0 j 1, .int .i64 most, .fn 121 [.ptr 3 0 0 1]] [Cr 1 s.cb, Rd s.l s.rb, Va sz R, Bx 0] (.tup [])
   [Cr 1 (aG nf most s).2.cb, Rd (aG nf most s).2.l (aG nf most s).2.rb, Va sz (R.set j (L (aJ .i64 (aG nf most s).1))), Bx 0] :=
 jh (kk := .i64) Tryz.func120 low120 (by decide) (by decide) qa yy s sz R j most hR hz hm hl
def ni (s : Rs) : (Int) × Rs := (((ik (-400) 400 s).1 : Int), (ik (-400) 400 s).2)
theorem qe (s : Rs) : (ni s).2.l.length ≤ s.l.length := gK _ _ _
theorem yG (s : Rs) (hl : s.l.length ≤ 1099511627776) :
  az Tryz.prog 144 [.ptr 0 0 0 1, .ptr 1 0 0 1] [Va 1 [.int .i64 0], Bx 2, Cr 3 s.cb, Rd s.l s.rb] (.tup [])
   [Va 1 (cSm (ni s).1), Bx 2, Cr 3 (ni s).2.cb, Rd (ni s).2.l (ni s).2.rb] := by
 refine aS Tryz.func144 low144 (by simp [c144]) ?_
 simp only [c144]
 unfold ni
 have g1 := gK (-400) 400 s
 have h1 : az Tryz.prog 136 [.ptr 0 0 0 1, .ptr 2 0 0 1, .int .i64 (-400), .int .i64 400] [Cr 1 s.cb, Rd s.l s.rb, Va 1 [.int .i64 0]] (.tup []) [Cr 1 (ik (-400) 400 s).2.cb, Rd (ik (-400) 400 s).2.l (ik (-400) 400 s).2.rb, Va 1 [.int .i64 (ik (-400) 400 s).1]] := nz s.l s.rb s.cb 1 [.int .i64 0] 0 (-400) 400 rfl (by omega) (by omega)
 generalize ik (-400) 400 s = q1 at h1 g1 ⊢
 obtain ⟨v1, s1⟩ := q1
 dsimp only at h1 g1 ⊢
 have hc : cSm (v1 : Int) = [.int .i64 v1] := rfl
 rw [hc]
 repeat' ((first | apply ah | apply ai | apply af | apply ak mixed | (with_reducible first | refine au ?_ | refine aB (f := .c (.fn 136 [])) ?_ | refine ar ?_ | refine am (h1) (by simp) ?_) | (with_reducible refine ⟨?_, ?_⟩; (focus ((repeat' with_reducible refine ⟨?_, ?_⟩) <;> first | exact trivial | assumption | (simp; done) | (simp only [zA] at *; omega) | omega | (simp [fs]; done) | first | exact ax | (intro x hx; subst hx; exact ⟨k1, k2⟩) | (intro x hx; subst hx; exact k1)))) | (with_reducible intro x hx) | omega) <;> (try simp only [Nat.reduceBEq, reduceIte, Nat.reduceEqDiff, Nat.reduceAdd, Nat.reduceSub, Nat.reduceLT, reduceCtorEq, Int.reduceNeg, fw, fd]))
 refine ay [0, 1, 2, 3] (by rfl) (by simp) (by simp [fg])
theorem wY (s : Rs) (sz : Nat) (R : List D) (j most : Nat) (hR : R[j]? = some (.list (some true) true [])) (hz : R.length = sz) (hm : most < 1000000) (hl : s.l.length ≤ 1099511627776) :
  az Tryz.prog 120 [.ptr 0 0 0 1, .ptr 2 0 j 1, .int .i64 most, .fn 144 [.ptr 3 0 0 1]] [Cr 1 s.cb, Rd s.l s.rb, Va sz R, Bx 0] (.tup [])
   [Cr 1 (aG ni most s).2.cb, Rd (aG ni most s).2.l (aG ni most s).2.rb, Va sz (R.set j (L (aJ .i64 (aG ni most s).1))), Bx 0] :=
 jh (kk := .i64) Tryz.func120 low120 (by decide) (by decide) qe yG s sz R j most hR hz hm hl
def m9 (s : Rs) : (Int × Int) × Rs := ((((ik (-5) 5 s).1 : Int), ((aN 6 (ik (-5) 5 s).2).1 : Int)), (aN 6 (ik (-5) 5 s).2).2)
theorem pX (s : Rs) : (m9 s).2.l.length ≤ s.l.length := Nat.le_trans ((aQ _ (by omega) _).1) (gK _ _ _)
theorem yn (s : Rs) (hl : s.l.length ≤ 1099511627776) :
  az Tryz.prog 143 [.ptr 0 0 0 1, .ptr 1 0 0 1] [Va 2 [.int .i64 0, .int .i64 0], Bx 2, Cr 3 s.cb, Rd s.l s.rb] (.tup [])
   [Va 2 (xt (m9 s).1), Bx 2, Cr 3 (m9 s).2.cb, Rd (m9 s).2.l (m9 s).2.rb] := by
 refine aS Tryz.func143 low143 (by simp [c143]) ?_
 simp only [c143]
 unfold m9
 have g1 := gK (-5) 5 s
 have h1 : az Tryz.prog 136 [.ptr 0 0 0 1, .ptr 2 0 0 1, .int .i64 (-5), .int .i64 5] [Cr 1 s.cb, Rd s.l s.rb, Va 2 [.int .i64 0, .int .i64 0]] (.tup []) [Cr 1 (ik (-5) 5 s).2.cb, Rd (ik (-5) 5 s).2.l (ik (-5) 5 s).2.rb, Va 2 [.int .i64 (ik (-5) 5 s).1, .int .i64 0]] := nz s.l s.rb s.cb 2 [.int .i64 0, .int .i64 0] 0 (-5) 5 rfl (by omega) (by omega)
 generalize ik (-5) 5 s = q1 at h1 g1 ⊢
 obtain ⟨v1, s1⟩ := q1
 dsimp only at h1 g1 ⊢
 have g2 := (aQ 6 (by omega) s1).1
 have h2 : az Tryz.prog 57 [.ptr 0 0 0 1, .ptr 2 0 1 1, .int .u64 6] [Cr 1 s1.cb, Rd s1.l s1.rb, Va 2 [.int .i64 v1, .int .i64 0]] (.tup []) [Cr 1 (aN 6 s1).2.cb, Rd (aN 6 s1).2.l (aN 6 s1).2.rb, Va 2 [.int .i64 v1, .int .i64 (aN 6 s1).1]] := cI s1.l s1.rb s1.cb 2 [.int .i64 v1, .int .i64 0] 1 6 rfl (by omega) (by omega) (by omega)
 generalize aN 6 s1 = q2 at h2 g2 ⊢
 obtain ⟨v2, s2⟩ := q2
 dsimp only at h2 g2 ⊢
 have hc : xt ((v1 : Int), (v2 : Int)) = [.int .i64 v1, .int .i64 v2] := rfl
 rw [hc]
 repeat' ((first | apply ah | apply ai | apply af | apply ap mixed | (with_reducible first | refine au ?_ | refine aA (f := .c (.fn 136 [])) ?_ | refine aA (f := .c (.fn 57 [])) ?_ | refine aw ?_ | refine am (h1) (by simp) ?_ | refine am (h2) (by simp) ?_) | (with_reducible refine ⟨?_, ?_⟩; (focus ((repeat' with_reducible refine ⟨?_, ?_⟩) <;> first | exact trivial | assumption | (simp; done) | (simp only [zA] at *; omega) | omega | (simp [fs]; done) | first | exact ax | (intro x hx; subst hx; exact ⟨k1, k2⟩) | (intro x hx; subst hx; exact k1)))) | (with_reducible intro x hx) | omega) <;> (try simp only [Nat.reduceBEq, reduceIte, Nat.reduceEqDiff, Nat.reduceAdd, Nat.reduceSub, Nat.reduceLT, reduceCtorEq, Int.reduceNeg, fw, fd]))
 refine ay [0, 1, 2, 3] (by rfl) (by simp) (by simp [fg])
theorem wD (s : Rs) (sz : Nat) (R : List D) (j most : Nat) (hR : R[j]? = some (.list (some true) true [])) (hz : R.length = sz) (hm : most < 1000000) (hl : s.l.length ≤ 1099511627776) :
  az Tryz.prog 142 [.ptr 0 0 0 1, .ptr 2 0 j 1, .int .i64 most, .fn 143 [.ptr 3 0 0 1]] [Cr 1 s.cb, Rd s.l s.rb, Va sz R, Bx 0] (.tup [])
   [Cr 1 (aG m9 most s).2.cb, Rd (aG m9 most s).2.l (aG m9 most s).2.rb, Va sz (R.set j (L (aV .i64 .i64 (aG m9 most s).1))), Bx 0] :=
 fZ (rw_ := xt) Tryz.func142 low142 (by decide) (by decide) (by decide) rfl (fun _ => rfl) rfl rfl (fun _ => rfl) (fun _ => rfl) (fun _ => rfl) pX yn s sz R j most hR hz hm hl
def my (s : Rs) : (Int) × Rs := (((cB s).1 : Int), (cB s).2)
theorem pZ (s : Rs) : (my s).2.l.length ≤ s.l.length := cv _
theorem yu (s : Rs) (hl : s.l.length ≤ 1099511627776) :
  az Tryz.prog 123 [.ptr 0 0 0 1, .ptr 1 0 0 1] [Va 1 [.int .i64 0], Bx 2, Cr 3 s.cb, Rd s.l s.rb] (.tup [])
   [Va 1 (cEx (my s).1), Bx 2, Cr 3 (my s).2.cb, Rd (my s).2.l (my s).2.rb] := by
 refine aS Tryz.func123 low123 (by simp [c123]) ?_
 simp only [c123]
 unfold my
 have g1 := cv s
 have h1 : az Tryz.prog 56 [.ptr 0 0 0 1, .ptr 2 0 0 1] [Cr 1 s.cb, Rd s.l s.rb, Va 1 [.int .i64 0]] (.tup []) [Cr 1 (cB s).2.cb, Rd (cB s).2.l (cB s).2.rb, Va 1 [.int .i64 (cB s).1]] := cC s.l s.rb s.cb 1 [.int .i64 0] 0 rfl (by omega) (by omega)
 generalize cB s = q1 at h1 g1 ⊢
 obtain ⟨v1, s1⟩ := q1
 dsimp only at h1 g1 ⊢
 have hc : cEx (v1 : Int) = [.int .i64 v1] := rfl
 rw [hc]
 repeat' ((first | apply ah | apply ai | apply af | apply ak mixed | (with_reducible first | refine au ?_ | refine aB (f := .c (.fn 56 [])) ?_ | refine ar ?_ | refine am (h1) (by simp) ?_) | (with_reducible refine ⟨?_, ?_⟩; (focus ((repeat' with_reducible refine ⟨?_, ?_⟩) <;> first | exact trivial | assumption | (simp; done) | (simp only [zA] at *; omega) | omega | (simp [fs]; done) | first | exact ax | (intro x hx; subst hx; exact ⟨k1, k2⟩) | (intro x hx; subst hx; exact k1)))) | (with_reducible intro x hx) | omega) <;> (try simp only [Nat.reduceBEq, reduceIte, Nat.reduceEqDiff, Nat.reduceAdd, Nat.reduceSub, Nat.reduceLT, reduceCtorEq, fw, fd]))
 refine ay [0, 1, 2, 3] (by rfl) (by simp) (by simp [fg])
theorem wJ (s : Rs) (sz : Nat) (R : List D) (j most : Nat) (hR : R[j]? = some (.list (some true) true [])) (hz : R.length = sz) (hm : most < 1000000) (hl : s.l.length ≤ 1099511627776) :
  az Tryz.prog 104 [.ptr 0 0 0 1, .ptr 2 0 j 1, .int .i64 most, .fn 123 [.ptr 3 0 0 1]] [Cr 1 s.cb, Rd s.l s.rb, Va sz R, Bx 0] (.tup [])
   [Cr 1 (aG my most s).2.cb, Rd (aG my most s).2.l (aG my most s).2.rb, Va sz (R.set j (L (aJ .i64 (aG my most s).1))), Bx 0] :=
 jh (kk := .i64) Tryz.func104 low104 (by decide) (by decide) pZ yu s sz R j most hR hz hm hl
def mz (s : Rs) : (Int) × Rs := (((cB s).1 : Int), (cB s).2)
theorem qc (s : Rs) : (mz s).2.l.length ≤ s.l.length := cv _
theorem yC (s : Rs) (hl : s.l.length ≤ 1099511627776) :
  az Tryz.prog 124 [.ptr 0 0 0 1, .ptr 1 0 0 1] [Va 1 [.int .i64 0], Bx 2, Cr 3 s.cb, Rd s.l s.rb] (.tup [])
   [Va 1 (cPl (mz s).1), Bx 2, Cr 3 (mz s).2.cb, Rd (mz s).2.l (mz s).2.rb] := by
 refine aS Tryz.func124 low124 (by simp [c124]) ?_
 simp only [c124]
 unfold mz
 have g1 := cv s
 have h1 : az Tryz.prog 56 [.ptr 0 0 0 1, .ptr 2 0 0 1] [Cr 1 s.cb, Rd s.l s.rb, Va 1 [.int .i64 0]] (.tup []) [Cr 1 (cB s).2.cb, Rd (cB s).2.l (cB s).2.rb, Va 1 [.int .i64 (cB s).1]] := cC s.l s.rb s.cb 1 [.int .i64 0] 0 rfl (by omega) (by omega)
 generalize cB s = q1 at h1 g1 ⊢
 obtain ⟨v1, s1⟩ := q1
 dsimp only at h1 g1 ⊢
 have hc : cPl (v1 : Int) = [.int .i64 v1] := rfl
 rw [hc]
 repeat' ((first | apply ah | apply ai | apply af | apply ak mixed | (with_reducible first | refine au ?_ | refine aB (f := .c (.fn 56 [])) ?_ | refine ar ?_ | refine am (h1) (by simp) ?_) | (with_reducible refine ⟨?_, ?_⟩; (focus ((repeat' with_reducible refine ⟨?_, ?_⟩) <;> first | exact trivial | assumption | (simp; done) | (simp only [zA] at *; omega) | omega | (simp [fs]; done) | first | exact ax | (intro x hx; subst hx; exact ⟨k1, k2⟩) | (intro x hx; subst hx; exact k1)))) | (with_reducible intro x hx) | omega) <;> (try simp only [Nat.reduceBEq, reduceIte, Nat.reduceEqDiff, Nat.reduceAdd, Nat.reduceSub, Nat.reduceLT, reduceCtorEq, fw, fd]))
 refine ay [0, 1, 2, 3] (by rfl) (by simp) (by simp [fg])
theorem wS (s : Rs) (sz : Nat) (R : List D) (j most : Nat) (hR : R[j]? = some (.list (some true) true [])) (hz : R.length = sz) (hm : most < 1000000) (hl : s.l.length ≤ 1099511627776) :
  az Tryz.prog 104 [.ptr 0 0 0 1, .ptr 2 0 j 1, .int .i64 most, .fn 124 [.ptr 3 0 0 1]] [Cr 1 s.cb, Rd s.l s.rb, Va sz R, Bx 0] (.tup [])
   [Cr 1 (aG mz most s).2.cb, Rd (aG mz most s).2.l (aG mz most s).2.rb, Va sz (R.set j (L (aJ .i64 (aG mz most s).1))), Bx 0] :=
 jh (kk := .i64) Tryz.func104 low104 (by decide) (by decide) qc yC s sz R j most hR hz hm hl
def mv (s : Rs) : (Int × Int × Int) × Rs := ((((cB s).1 : Int), ((cB (cB s).2).1 : Int), ((aN 10080 (cB (cB s).2).2).1 : Int)), (aN 10080 (cB (cB s).2).2).2)
theorem pW (s : Rs) : (mv s).2.l.length ≤ s.l.length := Nat.le_trans (Nat.le_trans ((aQ _ (by omega) _).1) (cv _)) (cv _)
theorem yl (s : Rs) (hl : s.l.length ≤ 1099511627776) :
  az Tryz.prog 126 [.ptr 0 0 0 1, .ptr 1 0 0 1] [Va 3 [.int .i64 0, .int .i64 0, .int .i64 0], Bx 2, Cr 3 s.cb, Rd s.l s.rb] (.tup [])
   [Va 3 (vQ (mv s).1), Bx 2, Cr 3 (mv s).2.cb, Rd (mv s).2.l (mv s).2.rb] := by
 refine aS Tryz.func126 low126 (by simp [c126]) ?_
 simp only [c126]
 unfold mv
 have g1 := cv s
 have h1 : az Tryz.prog 56 [.ptr 0 0 0 1, .ptr 2 0 0 1] [Cr 1 s.cb, Rd s.l s.rb, Va 3 [.int .i64 0, .int .i64 0, .int .i64 0]] (.tup []) [Cr 1 (cB s).2.cb, Rd (cB s).2.l (cB s).2.rb, Va 3 [.int .i64 (cB s).1, .int .i64 0, .int .i64 0]] := cC s.l s.rb s.cb 3 [.int .i64 0, .int .i64 0, .int .i64 0] 0 rfl (by omega) (by omega)
 generalize cB s = q1 at h1 g1 ⊢
 obtain ⟨v1, s1⟩ := q1
 dsimp only at h1 g1 ⊢
 have g2 := cv s1
 have h2 : az Tryz.prog 56 [.ptr 0 0 0 1, .ptr 2 0 1 1] [Cr 1 s1.cb, Rd s1.l s1.rb, Va 3 [.int .i64 v1, .int .i64 0, .int .i64 0]] (.tup []) [Cr 1 (cB s1).2.cb, Rd (cB s1).2.l (cB s1).2.rb, Va 3 [.int .i64 v1, .int .i64 (cB s1).1, .int .i64 0]] := cC s1.l s1.rb s1.cb 3 [.int .i64 v1, .int .i64 0, .int .i64 0] 1 rfl (by omega) (by omega)
 generalize cB s1 = q2 at h2 g2 ⊢
 obtain ⟨v2, s2⟩ := q2
 dsimp only at h2 g2 ⊢
 have g3 := (aQ 10080 (by omega) s2).1
 have h3 : az Tryz.prog 57 [.ptr 0 0 0 1, .ptr 2 0 2 1, .int .u64 10080] [Cr 1 s2.cb, Rd s2.l s2.rb, Va 3 [.int .i64 v1, .int .i64 v2, .int .i64 0]] (.tup []) [Cr 1 (aN 10080 s2).2.cb, Rd (aN 10080 s2).2.l (aN 10080 s2).2.rb, Va 3 [.int .i64 v1, .int .i64 v2, .int .i64 (aN 10080 s2).1]] := cI s2.l s2.rb s2.cb 3 [.int .i64 v1, .int .i64 v2, .int .i64 0] 2 10080 rfl (by omega) (by omega) (by omega)
 generalize aN 10080 s2 = q3 at h3 g3 ⊢
 obtain ⟨v3, s3⟩ := q3
 dsimp only at h3 g3 ⊢
 have hc : vQ ((v1 : Int), (v2 : Int), (v3 : Int)) = [.int .i64 v1, .int .i64 v2, .int .i64 v3] := rfl
 rw [hc]
 repeat' ((first | apply ah | apply ai | apply af | apply ap mixed | (with_reducible first | refine au ?_ | refine aA (f := .c (.fn 56 [])) ?_ | refine aA (f := .c (.fn 57 [])) ?_ | refine aw ?_ | refine am (h1) (by simp) ?_ | refine am (h2) (by simp) ?_ | refine am (h3) (by simp) ?_) | (with_reducible refine ⟨?_, ?_⟩; (focus ((repeat' with_reducible refine ⟨?_, ?_⟩) <;> first | exact trivial | assumption | (simp; done) | (simp only [zA] at *; omega) | omega | (simp [fs]; done) | first | exact ax | (intro x hx; subst hx; exact ⟨k1, k2⟩) | (intro x hx; subst hx; exact k1)))) | (with_reducible intro x hx) | omega) <;> (try simp only [Nat.reduceBEq, reduceIte, Nat.reduceEqDiff, Nat.reduceAdd, Nat.reduceSub, Nat.reduceLT, reduceCtorEq, fw, fd]))
 refine ay [0, 1, 2, 3] (by rfl) (by simp) (by simp [fg])
theorem wB (s : Rs) (sz : Nat) (R : List D) (j most : Nat) (hR : R[j]? = some (.list (some true) true [])) (hz : R.length = sz) (hm : most < 1000000) (hl : s.l.length ≤ 1099511627776) :
  az Tryz.prog 125 [.ptr 0 0 0 1, .ptr 2 0 j 1, .int .i64 most, .fn 126 [.ptr 3 0 0 1]] [Cr 1 s.cb, Rd s.l s.rb, Va sz R, Bx 0] (.tup [])
   [Cr 1 (aG mv most s).2.cb, Rd (aG mv most s).2.l (aG mv most s).2.rb, Va sz (R.set j (L (bo (aG mv most s).1))), Bx 0] :=
 fZ (rw_ := vQ) Tryz.func125 low125 (by decide) (by decide) (by decide) rfl (fun _ => rfl) rfl rfl (fun _ => rfl) (fun _ => rfl) (fun _ => rfl) pW yl s sz R j most hR hz hm hl
def ne (s : Rs) : (Int) × Rs := (((aN 4294967295 s).1 : Int), (aN 4294967295 s).2)
theorem p9 (s : Rs) : (ne s).2.l.length ≤ s.l.length := (aQ _ (by omega) _).1
theorem yw (s : Rs) (hl : s.l.length ≤ 1099511627776) :
  az Tryz.prog 128 [.ptr 0 0 0 1, .ptr 1 0 0 1] [Va 1 [.int .u32 0], Bx 2, Cr 3 s.cb, Rd s.l s.rb] (.tup [])
   [Va 1 (cMu (ne s).1), Bx 2, Cr 3 (ne s).2.cb, Rd (ne s).2.l (ne s).2.rb] := by
 refine aS Tryz.func128 low128 (by simp [c128]) ?_
 simp only [c128]
 unfold ne
 have g1 := (aQ 4294967295 (by omega) s).1
 have h1 : az Tryz.prog 78 [.ptr 0 0 0 1, .ptr 2 0 0 1] [Cr 1 s.cb, Rd s.l s.rb, Va 1 [.int .u32 0]] (.tup []) [Cr 1 (aN 4294967295 s).2.cb, Rd (aN 4294967295 s).2.l (aN 4294967295 s).2.rb, Va 1 [.int .u32 (aN 4294967295 s).1]] := ff s.l s.rb s.cb 1 [.int .u32 0] 0 rfl (by omega) (by omega)
 generalize aN 4294967295 s = q1 at h1 g1 ⊢
 obtain ⟨v1, s1⟩ := q1
 dsimp only at h1 g1 ⊢
 have hc : cMu (v1 : Int) = [.int .u32 v1] := rfl
 rw [hc]
 repeat' ((first | apply ah | apply ai | apply af | apply ak mixed | (with_reducible first | refine au ?_ | refine aB (f := .c (.fn 78 [])) ?_ | refine ar ?_ | refine am (h1) (by simp) ?_) | (with_reducible refine ⟨?_, ?_⟩; (focus ((repeat' with_reducible refine ⟨?_, ?_⟩) <;> first | exact trivial | assumption | (simp; done) | (simp only [zA] at *; omega) | omega | (simp [fs]; done) | first | exact ax | (intro x hx; subst hx; exact ⟨k1, k2⟩) | (intro x hx; subst hx; exact k1)))) | (with_reducible intro x hx) | omega) <;> (try simp only [Nat.reduceBEq, reduceIte, Nat.reduceEqDiff, Nat.reduceAdd, Nat.reduceSub, Nat.reduceLT, reduceCtorEq, fw, fd]))
 refine ay [0, 1, 2, 3] (by rfl) (by simp) (by simp [fg])
theorem wM (s : Rs) (sz : Nat) (R : List D) (j most : Nat) (hR : R[j]? = some (.list (some true) true [])) (hz : R.length = sz) (hm : most < 1000000) (hl : s.l.length ≤ 1099511627776) :
  az Tryz.prog 127 [.ptr 0 0 0 1, .ptr 2 0 j 1, .int .i64 most, .fn 128 [.ptr 3 0 0 1]] [Cr 1 s.cb, Rd s.l s.rb, Va sz R, Bx 0] (.tup [])
   [Cr 1 (aG ne most s).2.cb, Rd (aG ne most s).2.l (aG ne most s).2.rb, Va sz (R.set j (L (aJ .u32 (aG ne most s).1))), Bx 0] :=
 jh (kk := .u32) Tryz.func127 low127 (by decide) (by decide) p9 yw s sz R j most hR hz hm hl
def nq (s : Rs) : (Int × Int) × Rs := ((((aN 4294967295 s).1 : Int), ((aN 1000 (aN 4294967295 s).2).1 : Int)), (aN 1000 (aN 4294967295 s).2).2)
theorem qi (s : Rs) : (nq s).2.l.length ≤ s.l.length := Nat.le_trans ((aQ _ (by omega) _).1) ((aQ _ (by omega) _).1)
theorem yO (s : Rs) (hl : s.l.length ≤ 1099511627776) :
  az Tryz.prog 130 [.ptr 0 0 0 1, .ptr 1 0 0 1] [Va 2 [.int .u32 0, .int .i64 0], Bx 2, Cr 3 s.cb, Rd s.l s.rb] (.tup [])
   [Va 2 (xA (nq s).1), Bx 2, Cr 3 (nq s).2.cb, Rd (nq s).2.l (nq s).2.rb] := by
 refine aS Tryz.func130 low130 (by simp [c130]) ?_
 simp only [c130]
 unfold nq
 have g1 := (aQ 4294967295 (by omega) s).1
 have h1 : az Tryz.prog 78 [.ptr 0 0 0 1, .ptr 2 0 0 1] [Cr 1 s.cb, Rd s.l s.rb, Va 2 [.int .u32 0, .int .i64 0]] (.tup []) [Cr 1 (aN 4294967295 s).2.cb, Rd (aN 4294967295 s).2.l (aN 4294967295 s).2.rb, Va 2 [.int .u32 (aN 4294967295 s).1, .int .i64 0]] := ff s.l s.rb s.cb 2 [.int .u32 0, .int .i64 0] 0 rfl (by omega) (by omega)
 generalize aN 4294967295 s = q1 at h1 g1 ⊢
 obtain ⟨v1, s1⟩ := q1
 dsimp only at h1 g1 ⊢
 have g2 := (aQ 1000 (by omega) s1).1
 have h2 : az Tryz.prog 57 [.ptr 0 0 0 1, .ptr 2 0 1 1, .int .u64 1000] [Cr 1 s1.cb, Rd s1.l s1.rb, Va 2 [.int .u32 v1, .int .i64 0]] (.tup []) [Cr 1 (aN 1000 s1).2.cb, Rd (aN 1000 s1).2.l (aN 1000 s1).2.rb, Va 2 [.int .u32 v1, .int .i64 (aN 1000 s1).1]] := cI s1.l s1.rb s1.cb 2 [.int .u32 v1, .int .i64 0] 1 1000 rfl (by omega) (by omega) (by omega)
 generalize aN 1000 s1 = q2 at h2 g2 ⊢
 obtain ⟨v2, s2⟩ := q2
 dsimp only at h2 g2 ⊢
 have hc : xA ((v1 : Int), (v2 : Int)) = [.int .u32 v1, .int .i64 v2] := rfl
 rw [hc]
 repeat' ((first | apply ah | apply ai | apply af | apply ap mixed | (with_reducible first | refine au ?_ | refine aA (f := .c (.fn 78 [])) ?_ | refine aA (f := .c (.fn 57 [])) ?_ | refine aw ?_ | refine am (h1) (by simp) ?_ | refine am (h2) (by simp) ?_) | (with_reducible refine ⟨?_, ?_⟩; (focus ((repeat' with_reducible refine ⟨?_, ?_⟩) <;> first | exact trivial | assumption | (simp; done) | (simp only [zA] at *; omega) | omega | (simp [fs]; done) | first | exact ax | (intro x hx; subst hx; exact ⟨k1, k2⟩) | (intro x hx; subst hx; exact k1)))) | (with_reducible intro x hx) | omega) <;> (try simp only [Nat.reduceBEq, reduceIte, Nat.reduceEqDiff, Nat.reduceAdd, Nat.reduceSub, Nat.reduceLT, reduceCtorEq, fw, fd]))
 refine ay [0, 1, 2, 3] (by rfl) (by simp) (by simp [fg])
theorem xh (s : Rs) (sz : Nat) (R : List D) (j most : Nat) (hR : R[j]? = some (.list (some true) true [])) (hz : R.length = sz) (hm : most < 1000000) (hl : s.l.length ≤ 1099511627776) :
  az Tryz.prog 129 [.ptr 0 0 0 1, .ptr 2 0 j 1, .int .i64 most, .fn 130 [.ptr 3 0 0 1]] [Cr 1 s.cb, Rd s.l s.rb, Va sz R, Bx 0] (.tup [])
   [Cr 1 (aG nq most s).2.cb, Rd (aG nq most s).2.l (aG nq most s).2.rb, Va sz (R.set j (L (aV .u32 .i64 (aG nq most s).1))), Bx 0] :=
 fZ (rw_ := xA) Tryz.func129 low129 (by decide) (by decide) (by decide) rfl (fun _ => rfl) rfl rfl (fun _ => rfl) (fun _ => rfl) (fun _ => rfl) qi yO s sz R j most hR hz hm hl
def ng (s : Rs) : (Int × Int) × Rs := ((((aN 4294967295 s).1 : Int), ((aN 4294967295 (aN 4294967295 s).2).1 : Int)), (aN 4294967295 (aN 4294967295 s).2).2)
theorem qb (s : Rs) : (ng s).2.l.length ≤ s.l.length := Nat.le_trans ((aQ _ (by omega) _).1) ((aQ _ (by omega) _).1)
theorem yA (s : Rs) (hl : s.l.length ≤ 1099511627776) :
  az Tryz.prog 132 [.ptr 0 0 0 1, .ptr 1 0 0 1] [Va 2 [.int .u32 0, .int .u32 0], Bx 2, Cr 3 s.cb, Rd s.l s.rb] (.tup [])
   [Va 2 (xx (ng s).1), Bx 2, Cr 3 (ng s).2.cb, Rd (ng s).2.l (ng s).2.rb] := by
 refine aS Tryz.func132 low132 (by simp [c132]) ?_
 simp only [c132]
 unfold ng
 have g1 := (aQ 4294967295 (by omega) s).1
 have h1 : az Tryz.prog 78 [.ptr 0 0 0 1, .ptr 2 0 0 1] [Cr 1 s.cb, Rd s.l s.rb, Va 2 [.int .u32 0, .int .u32 0]] (.tup []) [Cr 1 (aN 4294967295 s).2.cb, Rd (aN 4294967295 s).2.l (aN 4294967295 s).2.rb, Va 2 [.int .u32 (aN 4294967295 s).1, .int .u32 0]] := ff s.l s.rb s.cb 2 [.int .u32 0, .int .u32 0] 0 rfl (by omega) (by omega)
 generalize aN 4294967295 s = q1 at h1 g1 ⊢
 obtain ⟨v1, s1⟩ := q1
 dsimp only at h1 g1 ⊢
 have g2 := (aQ 4294967295 (by omega) s1).1
 have h2 : az Tryz.prog 78 [.ptr 0 0 0 1, .ptr 2 0 1 1] [Cr 1 s1.cb, Rd s1.l s1.rb, Va 2 [.int .u32 v1, .int .u32 0]] (.tup []) [Cr 1 (aN 4294967295 s1).2.cb, Rd (aN 4294967295 s1).2.l (aN 4294967295 s1).2.rb, Va 2 [.int .u32 v1, .int .u32 (aN 4294967295 s1).1]] := ff s1.l s1.rb s1.cb 2 [.int .u32 v1, .int .u32 0] 1 rfl (by omega) (by omega)
 generalize aN 4294967295 s1 = q2 at h2 g2 ⊢
 obtain ⟨v2, s2⟩ := q2
 dsimp only at h2 g2 ⊢
 have hc : xx ((v1 : Int), (v2 : Int)) = [.int .u32 v1, .int .u32 v2] := rfl
 rw [hc]
 repeat' ((first | apply ah | apply ai | apply af | apply ap mixed | (with_reducible first | refine au ?_ | refine aA (f := .c (.fn 78 [])) ?_ | refine aw ?_ | refine am (h1) (by simp) ?_ | refine am (h2) (by simp) ?_) | (with_reducible refine ⟨?_, ?_⟩; (focus ((repeat' with_reducible refine ⟨?_, ?_⟩) <;> first | exact trivial | assumption | (simp; done) | (simp only [zA] at *; omega) | omega | (simp [fs]; done) | first | exact ax | (intro x hx; subst hx; exact ⟨k1, k2⟩) | (intro x hx; subst hx; exact k1)))) | (with_reducible intro x hx) | omega) <;> (try simp only [Nat.reduceBEq, reduceIte, Nat.reduceEqDiff, Nat.reduceAdd, Nat.reduceSub, Nat.reduceLT, reduceCtorEq, fw, fd]))
 refine ay [0, 1, 2, 3] (by rfl) (by simp) (by simp [fg])
theorem wQ (s : Rs) (sz : Nat) (R : List D) (j most : Nat) (hR : R[j]? = some (.list (some true) true [])) (hz : R.length = sz) (hm : most < 1000000) (hl : s.l.length ≤ 1099511627776) :
  az Tryz.prog 131 [.ptr 0 0 0 1, .ptr 2 0 j 1, .int .i64 most, .fn 132 [.ptr 3 0 0 1]] [Cr 1 s.cb, Rd s.l s.rb, Va sz R, Bx 0] (.tup [])
   [Cr 1 (aG ng most s).2.cb, Rd (aG ng most s).2.l (aG ng most s).2.rb, Va sz (R.set j (L (aV .u32 .u32 (aG ng most s).1))), Bx 0] :=
 fZ (rw_ := xx) Tryz.func131 low131 (by decide) (by decide) (by decide) rfl (fun _ => rfl) rfl rfl (fun _ => rfl) (fun _ => rfl) (fun _ => rfl) qb yA s sz R j most hR hz hm hl
def nj (s : Rs) : (Int) × Rs := (((cB s).1 : Int), (cB s).2)
theorem qf (s : Rs) : (nj s).2.l.length ≤ s.l.length := cv _
theorem yI (s : Rs) (hl : s.l.length ≤ 1099511627776) :
  az Tryz.prog 105 [.ptr 0 0 0 1, .ptr 1 0 0 1] [Va 1 [.int .i64 0], Bx 2, Cr 3 s.cb, Rd s.l s.rb] (.tup [])
   [Va 1 (cTs (nj s).1), Bx 2, Cr 3 (nj s).2.cb, Rd (nj s).2.l (nj s).2.rb] := by
 refine aS Tryz.func105 low105 (by simp [c105]) ?_
 simp only [c105]
 unfold nj
 have g1 := cv s
 have h1 : az Tryz.prog 56 [.ptr 0 0 0 1, .ptr 2 0 0 1] [Cr 1 s.cb, Rd s.l s.rb, Va 1 [.int .i64 0]] (.tup []) [Cr 1 (cB s).2.cb, Rd (cB s).2.l (cB s).2.rb, Va 1 [.int .i64 (cB s).1]] := cC s.l s.rb s.cb 1 [.int .i64 0] 0 rfl (by omega) (by omega)
 generalize cB s = q1 at h1 g1 ⊢
 obtain ⟨v1, s1⟩ := q1
 dsimp only at h1 g1 ⊢
 have hc : cTs (v1 : Int) = [.int .i64 v1] := rfl
 rw [hc]
 repeat' ((first | apply ah | apply ai | apply af | apply ak mixed | (with_reducible first | refine au ?_ | refine aB (f := .c (.fn 56 [])) ?_ | refine ar ?_ | refine am (h1) (by simp) ?_) | (with_reducible refine ⟨?_, ?_⟩; (focus ((repeat' with_reducible refine ⟨?_, ?_⟩) <;> first | exact trivial | assumption | (simp; done) | (simp only [zA] at *; omega) | omega | (simp [fs]; done) | first | exact ax | (intro x hx; subst hx; exact ⟨k1, k2⟩) | (intro x hx; subst hx; exact k1)))) | (with_reducible intro x hx) | omega) <;> (try simp only [Nat.reduceBEq, reduceIte, Nat.reduceEqDiff, Nat.reduceAdd, Nat.reduceSub, Nat.reduceLT, reduceCtorEq, fw, fd]))
 refine ay [0, 1, 2, 3] (by rfl) (by simp) (by simp [fg])
theorem w9 (s : Rs) (sz : Nat) (R : List D) (j most : Nat) (hR : R[j]? = some (.list (some true) true [])) (hz : R.length = sz) (hm : most < 1000000) (hl : s.l.length ≤ 1099511627776) :
  az Tryz.prog 104 [.ptr 0 0 0 1, .ptr 2 0 j 1, .int .i64 most, .fn 105 [.ptr 3 0 0 1]] [Cr 1 s.cb, Rd s.l s.rb, Va sz R, Bx 0] (.tup [])
   [Cr 1 (aG nj most s).2.cb, Rd (aG nj most s).2.l (aG nj most s).2.rb, Va sz (R.set j (L (aJ .i64 (aG nj most s).1))), Bx 0] :=
 jh (kk := .i64) Tryz.func104 low104 (by decide) (by decide) qf yI s sz R j most hR hz hm hl
def np (s : Rs) : (Int × Int) × Rs := ((((aN 4294967295 s).1 : Int), ((aN 40 (aN 4294967295 s).2).1 : Int)), (aN 40 (aN 4294967295 s).2).2)
theorem qh (s : Rs) : (np s).2.l.length ≤ s.l.length := Nat.le_trans ((aQ _ (by omega) _).1) ((aQ _ (by omega) _).1)
theorem yM (s : Rs) (hl : s.l.length ≤ 1099511627776) :
  az Tryz.prog 107 [.ptr 0 0 0 1, .ptr 1 0 0 1] [Va 2 [.int .u32 0, .int .i64 0], Bx 2, Cr 3 s.cb, Rd s.l s.rb] (.tup [])
   [Va 2 (xz (np s).1), Bx 2, Cr 3 (np s).2.cb, Rd (np s).2.l (np s).2.rb] := by
 refine aS Tryz.func107 low107 (by simp [c107]) ?_
 simp only [c107]
 unfold np
 have g1 := (aQ 4294967295 (by omega) s).1
 have h1 : az Tryz.prog 78 [.ptr 0 0 0 1, .ptr 2 0 0 1] [Cr 1 s.cb, Rd s.l s.rb, Va 2 [.int .u32 0, .int .i64 0]] (.tup []) [Cr 1 (aN 4294967295 s).2.cb, Rd (aN 4294967295 s).2.l (aN 4294967295 s).2.rb, Va 2 [.int .u32 (aN 4294967295 s).1, .int .i64 0]] := ff s.l s.rb s.cb 2 [.int .u32 0, .int .i64 0] 0 rfl (by omega) (by omega)
 generalize aN 4294967295 s = q1 at h1 g1 ⊢
 obtain ⟨v1, s1⟩ := q1
 dsimp only at h1 g1 ⊢
 have g2 := (aQ 40 (by omega) s1).1
 have h2 : az Tryz.prog 57 [.ptr 0 0 0 1, .ptr 2 0 1 1, .int .u64 40] [Cr 1 s1.cb, Rd s1.l s1.rb, Va 2 [.int .u32 v1, .int .i64 0]] (.tup []) [Cr 1 (aN 40 s1).2.cb, Rd (aN 40 s1).2.l (aN 40 s1).2.rb, Va 2 [.int .u32 v1, .int .i64 (aN 40 s1).1]] := cI s1.l s1.rb s1.cb 2 [.int .u32 v1, .int .i64 0] 1 40 rfl (by omega) (by omega) (by omega)
 generalize aN 40 s1 = q2 at h2 g2 ⊢
 obtain ⟨v2, s2⟩ := q2
 dsimp only at h2 g2 ⊢
 have hc : xz ((v1 : Int), (v2 : Int)) = [.int .u32 v1, .int .i64 v2] := rfl
 rw [hc]
 repeat' ((first | apply ah | apply ai | apply af | apply ap mixed | (with_reducible first | refine au ?_ | refine aA (f := .c (.fn 78 [])) ?_ | refine aA (f := .c (.fn 57 [])) ?_ | refine aw ?_ | refine am (h1) (by simp) ?_ | refine am (h2) (by simp) ?_) | (with_reducible refine ⟨?_, ?_⟩; (focus ((repeat' with_reducible refine ⟨?_, ?_⟩) <;> first | exact trivial | assumption | (simp; done) | (simp only [zA] at *; omega) | omega | (simp [fs]; done) | first | exact ax | (intro x hx; subst hx; exact ⟨k1, k2⟩) | (intro x hx; subst hx; exact k1)))) | (with_reducible intro x hx) | omega) <;> (try simp only [Nat.reduceBEq, reduceIte, Nat.reduceEqDiff, Nat.reduceAdd, Nat.reduceSub, Nat.reduceLT, reduceCtorEq, fw, fd]))
 refine ay [0, 1, 2, 3] (by rfl) (by simp) (by simp [fg])
theorem xf (s : Rs) (sz : Nat) (R : List D) (j most : Nat) (hR : R[j]? = some (.list (some true) true [])) (hz : R.length = sz) (hm : most < 1000000) (hl : s.l.length ≤ 1099511627776) :
  az Tryz.prog 106 [.ptr 0 0 0 1, .ptr 2 0 j 1, .int .i64 most, .fn 107 [.ptr 3 0 0 1]] [Cr 1 s.cb, Rd s.l s.rb, Va sz R, Bx 0] (.tup [])
   [Cr 1 (aG np most s).2.cb, Rd (aG np most s).2.l (aG np most s).2.rb, Va sz (R.set j (L (aV .u32 .i64 (aG np most s).1))), Bx 0] :=
 fZ (rw_ := xz) Tryz.func106 low106 (by decide) (by decide) (by decide) rfl (fun _ => rfl) rfl rfl (fun _ => rfl) (fun _ => rfl) (fun _ => rfl) qh yM s sz R j most hR hz hm hl
def nR (s : Rs) : (Int × Int × Int) × Rs := ((((aN 4294967295 s).1 : Int), ((aN 18446744073709551615 (aN 4294967295 s).2).1 : Int), ((aN 18446744073709551615 (aN 18446744073709551615 (aN 4294967295 s).2).2).1 : Int)), (aN 18446744073709551615 (aN 18446744073709551615 (aN 4294967295 s).2).2).2)
theorem uo (s : Rs) : (nR s).2.l.length ≤ s.l.length := Nat.le_trans (Nat.le_trans ((aQ _ (by omega) _).1) ((aQ _ (by omega) _).1)) ((aQ _ (by omega) _).1)
theorem yp (s : Rs) (hl : s.l.length ≤ 1099511627776) :
  az Tryz.prog 77 [.ptr 0 0 0 1, .ptr 1 0 0 1] [Va 3 [.int .u32 0, .int .u64 0, .int .u64 0], Bx 2, Cr 3 s.cb, Rd s.l s.rb] (.tup [])
   [Va 3 (vR (nR s).1), Bx 2, Cr 3 (nR s).2.cb, Rd (nR s).2.l (nR s).2.rb] := by
 refine aS Tryz.func77 low77 (by simp [c77]) ?_
 simp only [c77]
 unfold nR
 have g1 := (aQ 4294967295 (by omega) s).1
 have h1 : az Tryz.prog 78 [.ptr 0 0 0 1, .ptr 2 0 0 1] [Cr 1 s.cb, Rd s.l s.rb, Va 3 [.int .u32 0, .int .u64 0, .int .u64 0]] (.tup []) [Cr 1 (aN 4294967295 s).2.cb, Rd (aN 4294967295 s).2.l (aN 4294967295 s).2.rb, Va 3 [.int .u32 (aN 4294967295 s).1, .int .u64 0, .int .u64 0]] := ff s.l s.rb s.cb 3 [.int .u32 0, .int .u64 0, .int .u64 0] 0 rfl (by omega) (by omega)
 generalize aN 4294967295 s = q1 at h1 g1 ⊢
 obtain ⟨v1, s1⟩ := q1
 dsimp only at h1 g1 ⊢
 have g2 := (aQ 18446744073709551615 (by omega) s1).1
 have h2 : az Tryz.prog 53 [.ptr 0 0 0 1, .ptr 2 0 1 1, .int .u64 18446744073709551615] [Cr 1 s1.cb, Rd s1.l s1.rb, Va 3 [.int .u32 v1, .int .u64 0, .int .u64 0]] (.tup []) [Cr 1 (aN 18446744073709551615 s1).2.cb, Rd (aN 18446744073709551615 s1).2.l (aN 18446744073709551615 s1).2.rb, Va 3 [.int .u32 v1, .int .u64 (aN 18446744073709551615 s1).1, .int .u64 0]] := gI s1.l s1.rb s1.cb 3 [.int .u32 v1, .int .u64 0, .int .u64 0] 1 18446744073709551615 rfl (by omega) (by omega) (by omega)
 generalize aN 18446744073709551615 s1 = q2 at h2 g2 ⊢
 obtain ⟨v2, s2⟩ := q2
 dsimp only at h2 g2 ⊢
 have g3 := (aQ 18446744073709551615 (by omega) s2).1
 have h3 : az Tryz.prog 53 [.ptr 0 0 0 1, .ptr 2 0 2 1, .int .u64 18446744073709551615] [Cr 1 s2.cb, Rd s2.l s2.rb, Va 3 [.int .u32 v1, .int .u64 v2, .int .u64 0]] (.tup []) [Cr 1 (aN 18446744073709551615 s2).2.cb, Rd (aN 18446744073709551615 s2).2.l (aN 18446744073709551615 s2).2.rb, Va 3 [.int .u32 v1, .int .u64 v2, .int .u64 (aN 18446744073709551615 s2).1]] := gI s2.l s2.rb s2.cb 3 [.int .u32 v1, .int .u64 v2, .int .u64 0] 2 18446744073709551615 rfl (by omega) (by omega) (by omega)
 generalize aN 18446744073709551615 s2 = q3 at h3 g3 ⊢
 obtain ⟨v3, s3⟩ := q3
 dsimp only at h3 g3 ⊢
 have hc : vR ((v1 : Int), (v2 : Int), (v3 : Int)) = [.int .u32 v1, .int .u64 v2, .int .u64 v3] := rfl
 rw [hc]
 repeat' ((first | apply ah | apply ai | apply af | apply ap mixed | (with_reducible first | refine au ?_ | refine aA (f := .c (.fn 78 [])) ?_ | refine aA (f := .c (.fn 53 [])) ?_ | refine aw ?_ | refine am (h1) (by simp) ?_ | refine am (h2) (by simp) ?_ | refine am (h3) (by simp) ?_) | (with_reducible refine ⟨?_, ?_⟩; (focus ((repeat' with_reducible refine ⟨?_, ?_⟩) <;> first | exact trivial | assumption | (simp; done) | (simp only [zA] at *; omega) | omega | (simp [fs]; done) | first | exact ax | (intro x hx; subst hx; exact ⟨k1, k2⟩) | (intro x hx; subst hx; exact k1)))) | (with_reducible intro x hx) | omega) <;> (try simp only [Nat.reduceBEq, reduceIte, Nat.reduceEqDiff, Nat.reduceAdd, Nat.reduceSub, Nat.reduceLT, reduceCtorEq, fw, fd]))
 refine ay [0, 1, 2, 3] (by rfl) (by simp) (by simp [fg])
theorem wF (s : Rs) (sz : Nat) (R : List D) (j most : Nat) (hR : R[j]? = some (.list (some true) true [])) (hz : R.length = sz) (hm : most < 1000000) (hl : s.l.length ≤ 1099511627776) :
  az Tryz.prog 76 [.ptr 0 0 0 1, .ptr 2 0 j 1, .int .i64 most, .fn 77 [.ptr 3 0 0 1]] [Cr 1 s.cb, Rd s.l s.rb, Va sz R, Bx 0] (.tup [])
   [Cr 1 (aG nR most s).2.cb, Rd (aG nR most s).2.l (aG nR most s).2.rb, Va sz (R.set j (L (fY (aG nR most s).1))), Bx 0] :=
 fZ (rw_ := vR) Tryz.func76 low76 (by decide) (by decide) (by decide) rfl (fun _ => rfl) rfl rfl (fun _ => rfl) (fun _ => rfl) (fun _ => rfl) uo yp s sz R j most hR hz hm hl
end Go.Proofs.YtgefljdclekadaaGreat
