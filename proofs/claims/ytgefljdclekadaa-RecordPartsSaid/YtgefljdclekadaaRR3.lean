import Derived.Test.YtgefljdclekadaaRMD
import Derived.Test.YtgefljdclekadaaVi25
import Derived.Test.YtgefljdclekadaaVi30
set_option linter.unusedVariables false
set_option linter.unusedSimpArgs false
namespace Go.Proofs.Ytgefljdclekadaa
open Go Go.Vi
def rowQ (l : List (Int × Int × Int)) : List (List D) := l.map fun x => [.int .u32 x.1, .int .u64 x.2.1, .int .u64 x.2.2]
theorem bD {l : List (Int × Int × Int)} : (rowQ l).length = l.length := by simp [rowQ]
abbrev Bx (c : Nat) : Ob := ⟨true, false, false, false, 1, [[.ptr c 0 0 1]], some 0⟩
def bn {α : Type} (e : α → List UInt8) (l : List α) : List UInt8 := aX l.length ++ l.flatMap e
def bT {α : Type} (x : α → Bool) (most : Nat) (l : List α) : Bool := decide (most < l.length) || l.any x
theorem dE {α : Type} (e : α → List UInt8) {l : List α} {i : Nat} {y : α} (h : l[i]? = some y) : (l.take (i + 1)).flatMap e = (l.take i).flatMap e ++ e y := by
 have : l.take (i + 1) = l.take i ++ [y] := by rw [List.take_add_one, h]; rfl
 rw [this]; simp
theorem cV {α : Type} (f : α → Bool) {l : List α} {i : Nat} {y : α} (h : l[i]? = some y) : (l.take (i + 1)).any f = ((l.take i).any f || f y) := by
 have : l.take (i + 1) = l.take i ++ [y] := by rw [List.take_add_one, h]; rfl
 rw [this]; simp
theorem gf {α : Type} (e : α → List UInt8) (l : List α) (i : Nat) : ((l.take i).flatMap e).length ≤ (l.flatMap e).length := by
 have h : l.flatMap e = (l.take i).flatMap e ++ (l.drop i).flatMap e := by rw [← List.flatMap_append, List.take_append_drop]
 rw [h, List.length_append]; omega
def ji (x : Int × Int) : List UInt8 := aX (zz x.1) ++ aX (zz x.2)
def oj (x : Int × Int) : Bool := decide (x.2 < (-900) ∨ 900 < x.2)
def vw (x : Int × Int) : List D := [.int .i64 x.1, .int .i64 x.2]
def ye (x : Int × Int) : Prop := cR x.1 ∧ cR x.2
theorem wG (l : List UInt8) (bad : Bool) (x : Int × Int) (hx : ye x) (hl : (l ++ ji x).length ≤ 1099511627776) :
  az Try.prog 88 [.ptr 0 0 0 1, .ptr 1 0 0 1] [Va 2 (vw x), Bx 2, Cw 3 bad, Ww 4 l.length, aU true 1 true (r8 l)] (.tup [])
   [Va 2 (vw x), Bx 2, Cw 3 (bad || oj x), Ww 4 (l ++ ji x).length, aU true 1 true (r8 (l ++ ji x))] := by
 refine aK Try.func88 low88 (by simp [c88]) ?_
 simp only [c88]
 unfold ye at hx
 obtain ⟨l1, e1⟩ : ∃ l1, l1 = l ++ aX (zz x.1) := ⟨_, rfl⟩
 obtain ⟨l2, e2⟩ : ∃ l2, l2 = l1 ++ aX (zz x.2) := ⟨_, rfl⟩
 obtain ⟨b2, d2⟩ : ∃ b2, b2 = (bad || decide (x.2 < (-900) ∨ 900 < x.2)) := ⟨_, rfl⟩
 have el : l ++ ji x = l2 := by rw [e2, e1]; simp [ji]
 have eb : (bad || oj x) = b2 := by rw [d2]; simp [oj]
 rw [el] at hl
 rw [el, eb]
 have g1 : l1.length ≤ l2.length := by rw [e2, List.length_append]; omega
 have g0 : l.length ≤ l1.length := by rw [e1, List.length_append]; omega
 have h1 := cy l bad 2 (vw x) 0 x.1 rfl hx.1 (by omega)
 rw [← e1] at h1
 have h2 := mP l1 bad 2 (vw x) 1 x.2 (-900) 900 rfl hx.2 (by omega)
 rw [← e2, ← d2] at h2
 clear e1 e2 d2 el eb
 repeat' ((first | apply ai | apply al | apply aj | apply ap mixed | (with_reducible first | refine af ?_ | refine aD (f := .c (.fn 39 [])) ?_ | refine aD (f := .c (.fn 86 [])) ?_ | refine aC ?_ | refine ab (h1) (by simp) ?_ | refine ab (h2) (by simp) ?_) | (with_reducible refine ⟨?_, ?_⟩; (focus ((repeat' with_reducible refine ⟨?_, ?_⟩) <;> first | exact trivial | assumption | (simp; done) | (simp only [List.length_map] at *; omega) | omega | (simp [fs]; done) | exact ay))) | (with_reducible intro x hx) | omega) <;> (try simp only [Nat.reduceBEq, reduceIte, Nat.reduceEqDiff, Nat.reduceAdd, Nat.reduceSub, Nat.reduceLT, reduceCtorEq, Int.reduceNeg, fw, fd]))
 refine aw [0, 1, 2, 3, 4] (by rfl) (by simp) (by simp [fg])
set_option maxHeartbeats 2000000 in
theorem uf (l : List UInt8) (bad : Bool) (sz : Nat) (R : List D) (j most : Nat) (xs : List (Int × Int)) (hR : R[j]? = some (L (aS .i64 .i64 xs))) (hm : most < 9223372036854775808) (hxl : xs.length ≤ 140737488351232) (hx : ∀ x ∈ xs, ye x) (hl : (l ++ bn ji xs).length ≤ 1099511627776) :
  az Try.prog 87 [.ptr 0 0 0 1, .ptr 3 0 j 1, .int .i64 most, .fn 88 [.ptr 4 0 0 1]] [Cw 1 bad, Ww 2 l.length, aU true 1 true (r8 l), Va sz R, Bx 0] (.tup [])
   [Cw 1 (bad || bT oj most xs), Ww 2 (l ++ bn ji xs).length, aU true 1 true (r8 (l ++ bn ji xs)), Va sz R, Bx 0] := by
 refine aK Try.func87 low87 (by simp [c87]) ?_
 simp only [c87]
 have ui : uI (xs.length : Int) = xs.length := by unfold uI; omega
 have hll : l.length ≤ 1099511627776 := by rw [List.length_append] at hl; omega
 have hn := eg l bad 1 [.int .u64 xs.length] 0 most xs.length rfl (by omega) (by omega) hll
 rw [ui] at hn
 obtain ⟨l0, e0⟩ : ∃ l0, l0 = l ++ aX xs.length := ⟨_, rfl⟩
 obtain ⟨b0, f0⟩ : ∃ b0, b0 = (bad || decide (most < xs.length)) := ⟨_, rfl⟩
 have el : l ++ bn ji xs = l0 ++ xs.flatMap ji := by rw [e0]; simp [bn]
 have eb : (bad || bT oj most xs) = (b0 || xs.any oj) := by rw [f0]; simp [bT, Bool.or_assoc]
 rw [el] at hl
 rw [el, eb]
 rw [← e0, ← f0] at hn
 clear el eb f0
 repeat' ((first | apply ai | apply ah | apply am | apply au | refine aq rfl ?_ | apply al | apply aj | apply ae | apply ak mixed | apply ap mixed | (with_reducible first | refine af ?_ | refine ar (f := .c (.fn 34 [])) ?_ | refine ao ?_ | refine ab (hn) (by simp) ?_) | simp (disch := omega) only [aG] | ((first | refine ac ?_ ?_ | refine aa ?_ ?_) <;> intro hc <;> (try simp only [hc]) <;> try simp at hc) | (with_reducible refine ⟨?_, ?_⟩; (focus ((repeat' with_reducible refine ⟨?_, ?_⟩) <;> first | exact trivial | assumption | (simp; done) | (simp only [List.length_map] at *; omega) | omega | (simp [fs]; done) | exact ay))) | (with_reducible intro x hx) | omega) <;> (try simp only [aF, hR, Nat.reduceBEq, reduceIte, Nat.reduceEqDiff, Nat.reduceAdd, Nat.reduceSub, Nat.reduceLT, reduceCtorEq, cond_false, ne_eq, fw, fd]))
 refine aT (ι := {i : Nat // i ≤ xs.length}) (fun i => ([(1, .ptr 3 0 j 1), (3, .fn 88 [.ptr 4 0 0 1]), (29, .int .i64 xs.length), (30, .int .i64 i.1)], [Cw 1 (b0 || (xs.take i.1).any oj), Ww 2 (l0 ++ (xs.take i.1).flatMap ji).length, aU true 1 true (r8 (l0 ++ (xs.take i.1).flatMap ji)), Va sz R, Bx 0])) (fun i => xs.length - i.1) ⟨0, by omega⟩ ?_ ?_
 ·simp only [List.take_zero, List.flatMap_nil, List.any_nil, Bool.or_false, List.append_nil]
  refine aJ [0, 1, 2, 3, 4] (by rfl) (by simp) (by simp [fg]) (by simp [fg])
  skip
 rintro ⟨i, hi⟩ hk
 dsimp only at hk ⊢
 by_cases hlt : i < xs.length
 ·have c1 : ((i : Int) < (xs.length : Int)) = True := by simp; omega
  obtain ⟨x, hg⟩ : ∃ x, xs[i]? = some x := ⟨_, List.getElem?_eq_getElem hlt⟩
  have hr := bO (k := .i64) (m := .i64) hg
  have hxf := hx x (List.mem_of_getElem? hg)
  have hfm := dE ji hg
  have han := cV oj hg
  have hle := gf ji xs (i + 1)
  obtain ⟨li, ei⟩ : ∃ li, li = l0 ++ (xs.take i).flatMap ji := ⟨_, rfl⟩
  obtain ⟨bi, fi⟩ : ∃ bi, bi = (b0 || (xs.take i).any oj) := ⟨_, rfl⟩
  have ej : l0 ++ (xs.take (i + 1)).flatMap ji = li ++ ji x := by rw [ei, hfm, List.append_assoc]
  have fj : (b0 || (xs.take (i + 1)).any oj) = (bi || oj x) := by rw [fi, han, Bool.or_assoc]
  have hlj : (li ++ ji x).length ≤ 1099511627776 := by rw [← ej]; simp only [List.length_append] at hl ⊢; omega
  have hw := wG li bi x hxf hlj
  rw [← ei, ← fi]
  obtain ⟨lj, el⟩ : ∃ lj, lj = li ++ ji x := ⟨_, rfl⟩
  obtain ⟨bj, fl⟩ : ∃ bj, bj = (bi || oj x) := ⟨_, rfl⟩
  rw [← el, ← fl] at hw
  rw [← el] at ej
  rw [← fl] at fj
  have g2 : lj.length ≤ 1099511627776 := by rw [el]; exact hlj
  have g1 : li.length ≤ lj.length := by rw [el, List.length_append]; omega
  clear el fl ei fi
  have hcell : vw x = [.int .i64 x.1, .int .i64 x.2] := rfl
  rw [hcell] at hw
  repeat' ((first | apply ai | apply ah | apply am | apply au | refine aq rfl ?_ | apply al | apply aj | apply ae | apply ak mixed | apply ap mixed | (with_reducible first | refine af ?_ | refine ar (f := .t 39) ?_ | refine ao ?_ | refine ab (hw) (by simp) ?_) | simp (disch := omega) only [bf] | ((first | refine ac ?_ ?_ | refine aa ?_ ?_) <;> intro hc <;> (try simp only [hc]) <;> try simp at hc) | (with_reducible refine ⟨?_, ?_⟩; (focus ((repeat' with_reducible refine ⟨?_, ?_⟩) <;> first | exact trivial | assumption | (simp; done) | (simp only [List.length_map] at *; omega) | omega | (simp [fs]; done) | exact ay))) | (with_reducible intro x hx) | omega) <;> (try simp only [aF, hR, c1, hr, Nat.reduceBEq, reduceIte, Nat.reduceEqDiff, Nat.reduceAdd, Nat.reduceSub, Nat.reduceLT, reduceCtorEq, ne_eq, fw, fd]))
  refine hk ⟨i + 1, by omega⟩ _ _ (by dsimp only; omega) ?_
  dsimp only
  rw [ej, fj]
  refine aJ [0, 1, 2, 3, 4] (by rfl) (by simp) (by simp [fg]) (by simp [fg])
  skip
 ·have c1 : ((i : Int) < (xs.length : Int)) = False := by simp; omega
  obtain rfl : i = xs.length := by omega
  rw [List.take_length]
  repeat' ((first | apply ai | apply ah | apply am | apply au | refine aq rfl ?_ | apply al | apply aj | apply ae | apply ak mixed | apply ap mixed | (with_reducible first | refine af ?_ | refine ao ?_) | simp (disch := omega) only [bf, aG, aN, aO, bp, Int.tdiv_eq_ediv_of_nonneg, Int.tmod_eq_emod_of_nonneg] | ((first | refine ac ?_ ?_ | refine aa ?_ ?_) <;> intro hc <;> (try simp only [hc]) <;> try simp at hc) | (with_reducible refine ⟨?_, ?_⟩; (focus ((repeat' with_reducible refine ⟨?_, ?_⟩) <;> first | exact trivial | assumption | (simp; done) | (simp only [List.length_map] at *; omega) | omega | (simp [fs]; done) | exact ay))) | (with_reducible intro x hx) | omega) <;> (try simp only [c1, Nat.reduceBEq, reduceIte, de, aY, bg, fw]))
  refine aw [0, 1, 2, 3, 4] (by rfl) (by simp) (by simp [fg])
  skip
def jh (x : Int × Int × Int) : List UInt8 := aX (uI x.1) ++ (aX (uI x.2.1) ++ aX (uI x.2.2))
def ou (x : Int × Int × Int) : Bool := (decide (127 < uI x.1) || (decide (1440 < uI x.2.1) || decide (1440 < uI x.2.2)))
def uQ (x : Int × Int × Int) : List D := [.int .i64 x.1, .int .i64 x.2.1, .int .i64 x.2.2]
def wX (x : Int × Int × Int) : Prop := cR x.1 ∧ cR x.2.1 ∧ cR x.2.2
theorem xL (l : List UInt8) (bad : Bool) (x : Int × Int × Int) (hx : wX x) (hl : (l ++ jh x).length ≤ 1099511627776) :
  az Try.prog 90 [.ptr 0 0 0 1, .ptr 1 0 0 1] [Va 3 (uQ x), Bx 2, Cw 3 bad, Ww 4 l.length, aU true 1 true (r8 l)] (.tup [])
   [Va 3 (uQ x), Bx 2, Cw 3 (bad || ou x), Ww 4 (l ++ jh x).length, aU true 1 true (r8 (l ++ jh x))] := by
 refine aK Try.func90 low90 (by simp [c90]) ?_
 simp only [c90]
 unfold wX at hx
 obtain ⟨l1, e1⟩ : ∃ l1, l1 = l ++ aX (uI x.1) := ⟨_, rfl⟩
 obtain ⟨b1, d1⟩ : ∃ b1, b1 = (bad || decide (127 < uI x.1)) := ⟨_, rfl⟩
 obtain ⟨l2, e2⟩ : ∃ l2, l2 = l1 ++ aX (uI x.2.1) := ⟨_, rfl⟩
 obtain ⟨b2, d2⟩ : ∃ b2, b2 = (b1 || decide (1440 < uI x.2.1)) := ⟨_, rfl⟩
 obtain ⟨l3, e3⟩ : ∃ l3, l3 = l2 ++ aX (uI x.2.2) := ⟨_, rfl⟩
 obtain ⟨b3, d3⟩ : ∃ b3, b3 = (b2 || decide (1440 < uI x.2.2)) := ⟨_, rfl⟩
 have el : l ++ jh x = l3 := by rw [e3, e2, e1]; simp [jh]
 have eb : (bad || ou x) = b3 := by rw [d3, d2, d1]; simp [ou, Bool.or_assoc]
 rw [el] at hl
 rw [el, eb]
 have g2 : l2.length ≤ l3.length := by rw [e3, List.length_append]; omega
 have g1 : l1.length ≤ l2.length := by rw [e2, List.length_append]; omega
 have g0 : l.length ≤ l1.length := by rw [e1, List.length_append]; omega
 have h1 := bF l bad 3 (uQ x) 0 127 x.1 rfl hx.1 (by omega) (by omega)
 rw [← e1, ← d1] at h1
 have h2 := bF l1 b1 3 (uQ x) 1 1440 x.2.1 rfl hx.2.1 (by omega) (by omega)
 rw [← e2, ← d2] at h2
 have h3 := bF l2 b2 3 (uQ x) 2 1440 x.2.2 rfl hx.2.2 (by omega) (by omega)
 rw [← e3, ← d3] at h3
 clear e1 e2 e3 d1 d2 d3 el eb
 repeat' ((first | apply ai | apply al | apply aj | apply ap mixed | (with_reducible first | refine af ?_ | refine aD (f := .c (.fn 32 [])) ?_ | refine aC ?_ | refine ab (h1) (by simp) ?_ | refine ab (h2) (by simp) ?_ | refine ab (h3) (by simp) ?_) | (with_reducible refine ⟨?_, ?_⟩; (focus ((repeat' with_reducible refine ⟨?_, ?_⟩) <;> first | exact trivial | assumption | (simp; done) | (simp only [List.length_map] at *; omega) | omega | (simp [fs]; done) | exact ay))) | (with_reducible intro x hx) | omega) <;> (try simp only [Nat.reduceBEq, reduceIte, Nat.reduceEqDiff, Nat.reduceAdd, Nat.reduceSub, Nat.reduceLT, reduceCtorEq, fw, fd]))
 refine aw [0, 1, 2, 3, 4] (by rfl) (by simp) (by simp [fg])
set_option maxHeartbeats 2000000 in
theorem uj (l : List UInt8) (bad : Bool) (sz : Nat) (R : List D) (j most : Nat) (xs : List (Int × Int × Int)) (hR : R[j]? = some (L (bh xs))) (hm : most < 9223372036854775808) (hxl : xs.length ≤ 140737488351232) (hx : ∀ x ∈ xs, wX x) (hl : (l ++ bn jh xs).length ≤ 1099511627776) :
  az Try.prog 89 [.ptr 0 0 0 1, .ptr 3 0 j 1, .int .i64 most, .fn 90 [.ptr 4 0 0 1]] [Cw 1 bad, Ww 2 l.length, aU true 1 true (r8 l), Va sz R, Bx 0] (.tup [])
   [Cw 1 (bad || bT ou most xs), Ww 2 (l ++ bn jh xs).length, aU true 1 true (r8 (l ++ bn jh xs)), Va sz R, Bx 0] := by
 refine aK Try.func89 low89 (by simp [c89]) ?_
 simp only [c89]
 have ui : uI (xs.length : Int) = xs.length := by unfold uI; omega
 have hll : l.length ≤ 1099511627776 := by rw [List.length_append] at hl; omega
 have hn := eg l bad 1 [.int .u64 xs.length] 0 most xs.length rfl (by omega) (by omega) hll
 rw [ui] at hn
 obtain ⟨l0, e0⟩ : ∃ l0, l0 = l ++ aX xs.length := ⟨_, rfl⟩
 obtain ⟨b0, f0⟩ : ∃ b0, b0 = (bad || decide (most < xs.length)) := ⟨_, rfl⟩
 have el : l ++ bn jh xs = l0 ++ xs.flatMap jh := by rw [e0]; simp [bn]
 have eb : (bad || bT ou most xs) = (b0 || xs.any ou) := by rw [f0]; simp [bT, Bool.or_assoc]
 rw [el] at hl
 rw [el, eb]
 rw [← e0, ← f0] at hn
 clear el eb f0
 repeat' ((first | apply ai | apply ah | apply am | apply au | refine aq rfl ?_ | apply al | apply aj | apply ae | apply ak mixed | apply ap mixed | (with_reducible first | refine af ?_ | refine ar (f := .c (.fn 34 [])) ?_ | refine ao ?_ | refine ab (hn) (by simp) ?_) | simp (disch := omega) only [aG] | ((first | refine ac ?_ ?_ | refine aa ?_ ?_) <;> intro hc <;> (try simp only [hc]) <;> try simp at hc) | (with_reducible refine ⟨?_, ?_⟩; (focus ((repeat' with_reducible refine ⟨?_, ?_⟩) <;> first | exact trivial | assumption | (simp; done) | (simp only [List.length_map] at *; omega) | omega | (simp [fs]; done) | exact ay))) | (with_reducible intro x hx) | omega) <;> (try simp only [aQ, hR, Nat.reduceBEq, reduceIte, Nat.reduceEqDiff, Nat.reduceAdd, Nat.reduceSub, Nat.reduceLT, reduceCtorEq, cond_false, ne_eq, fw, fd]))
 refine aT (ι := {i : Nat // i ≤ xs.length}) (fun i => ([(1, .ptr 3 0 j 1), (3, .fn 90 [.ptr 4 0 0 1]), (29, .int .i64 xs.length), (30, .int .i64 i.1)], [Cw 1 (b0 || (xs.take i.1).any ou), Ww 2 (l0 ++ (xs.take i.1).flatMap jh).length, aU true 1 true (r8 (l0 ++ (xs.take i.1).flatMap jh)), Va sz R, Bx 0])) (fun i => xs.length - i.1) ⟨0, by omega⟩ ?_ ?_
 ·simp only [List.take_zero, List.flatMap_nil, List.any_nil, Bool.or_false, List.append_nil]
  refine aJ [0, 1, 2, 3, 4] (by rfl) (by simp) (by simp [fg]) (by simp [fg])
  skip
 rintro ⟨i, hi⟩ hk
 dsimp only at hk ⊢
 by_cases hlt : i < xs.length
 ·have c1 : ((i : Int) < (xs.length : Int)) = True := by simp; omega
  obtain ⟨x, hg⟩ : ∃ x, xs[i]? = some x := ⟨_, List.getElem?_eq_getElem hlt⟩
  have hr := dc hg
  have hxf := hx x (List.mem_of_getElem? hg)
  have hfm := dE jh hg
  have han := cV ou hg
  have hle := gf jh xs (i + 1)
  obtain ⟨li, ei⟩ : ∃ li, li = l0 ++ (xs.take i).flatMap jh := ⟨_, rfl⟩
  obtain ⟨bi, fi⟩ : ∃ bi, bi = (b0 || (xs.take i).any ou) := ⟨_, rfl⟩
  have ej : l0 ++ (xs.take (i + 1)).flatMap jh = li ++ jh x := by rw [ei, hfm, List.append_assoc]
  have fj : (b0 || (xs.take (i + 1)).any ou) = (bi || ou x) := by rw [fi, han, Bool.or_assoc]
  have hlj : (li ++ jh x).length ≤ 1099511627776 := by rw [← ej]; simp only [List.length_append] at hl ⊢; omega
  have hw := xL li bi x hxf hlj
  rw [← ei, ← fi]
  obtain ⟨lj, el⟩ : ∃ lj, lj = li ++ jh x := ⟨_, rfl⟩
  obtain ⟨bj, fl⟩ : ∃ bj, bj = (bi || ou x) := ⟨_, rfl⟩
  rw [← el, ← fl] at hw
  rw [← el] at ej
  rw [← fl] at fj
  have g2 : lj.length ≤ 1099511627776 := by rw [el]; exact hlj
  have g1 : li.length ≤ lj.length := by rw [el, List.length_append]; omega
  clear el fl ei fi
  have hcell : uQ x = [.int .i64 x.1, .int .i64 x.2.1, .int .i64 x.2.2] := rfl
  rw [hcell] at hw
  repeat' ((first | apply ai | apply ah | apply am | apply au | refine aq rfl ?_ | apply al | apply aj | apply ae | apply ak mixed | apply ap mixed | (with_reducible first | refine af ?_ | refine ar (f := .t 39) ?_ | refine ao ?_ | refine ab (hw) (by simp) ?_) | simp (disch := omega) only [bf] | ((first | refine ac ?_ ?_ | refine aa ?_ ?_) <;> intro hc <;> (try simp only [hc]) <;> try simp at hc) | (with_reducible refine ⟨?_, ?_⟩; (focus ((repeat' with_reducible refine ⟨?_, ?_⟩) <;> first | exact trivial | assumption | (simp; done) | (simp only [List.length_map] at *; omega) | omega | (simp [fs]; done) | exact ay))) | (with_reducible intro x hx) | omega) <;> (try simp only [aQ, hR, c1, hr, Nat.reduceBEq, reduceIte, Nat.reduceEqDiff, Nat.reduceAdd, Nat.reduceSub, Nat.reduceLT, reduceCtorEq, ne_eq, fw, fd]))
  refine hk ⟨i + 1, by omega⟩ _ _ (by dsimp only; omega) ?_
  dsimp only
  rw [ej, fj]
  refine aJ [0, 1, 2, 3, 4] (by rfl) (by simp) (by simp [fg]) (by simp [fg])
  skip
 ·have c1 : ((i : Int) < (xs.length : Int)) = False := by simp; omega
  obtain rfl : i = xs.length := by omega
  rw [List.take_length]
  repeat' ((first | apply ai | apply ah | apply am | apply au | refine aq rfl ?_ | apply al | apply aj | apply ae | apply ak mixed | apply ap mixed | (with_reducible first | refine af ?_ | refine ao ?_) | simp (disch := omega) only [bf, aG, aN, aO, bp, Int.tdiv_eq_ediv_of_nonneg, Int.tmod_eq_emod_of_nonneg] | ((first | refine ac ?_ ?_ | refine aa ?_ ?_) <;> intro hc <;> (try simp only [hc]) <;> try simp at hc) | (with_reducible refine ⟨?_, ?_⟩; (focus ((repeat' with_reducible refine ⟨?_, ?_⟩) <;> first | exact trivial | assumption | (simp; done) | (simp only [List.length_map] at *; omega) | omega | (simp [fs]; done) | exact ay))) | (with_reducible intro x hx) | omega) <;> (try simp only [c1, Nat.reduceBEq, reduceIte, de, aY, bg, fw]))
  refine aw [0, 1, 2, 3, 4] (by rfl) (by simp) (by simp [fg])
  skip
def jz (x : Int) : List UInt8 := aX (uI x)
def n5 (x : Int) : Bool := decide (109937 < uI x)
def xn (x : Int) : List D := [.int .i64 x]
def xZ (x : Int) : Prop := cR x
theorem xc (l : List UInt8) (bad : Bool) (x : Int) (hx : xZ x) (hl : (l ++ jz x).length ≤ 1099511627776) :
  az Try.prog 64 [.ptr 0 0 0 1, .ptr 1 0 0 1] [Va 1 (xn x), Bx 2, Cw 3 bad, Ww 4 l.length, aU true 1 true (r8 l)] (.tup [])
   [Va 1 (xn x), Bx 2, Cw 3 (bad || n5 x), Ww 4 (l ++ jz x).length, aU true 1 true (r8 (l ++ jz x))] := by
 refine aK Try.func64 low64 (by simp [c64]) ?_
 simp only [c64]
 unfold xZ at hx
 obtain ⟨l1, e1⟩ : ∃ l1, l1 = l ++ aX (uI x) := ⟨_, rfl⟩
 obtain ⟨b1, d1⟩ : ∃ b1, b1 = (bad || decide (109937 < uI x)) := ⟨_, rfl⟩
 have el : l ++ jz x = l1 := by rw [e1]; simp [jz]
 have eb : (bad || n5 x) = b1 := by rw [d1]; simp [n5]
 rw [el] at hl
 rw [el, eb]
 have g0 : l.length ≤ l1.length := by rw [e1, List.length_append]; omega
 have h1 := bF l bad 1 (xn x) 0 109937 x rfl hx (by omega) (by omega)
 rw [← e1, ← d1] at h1
 clear e1 d1 el eb
 repeat' ((first | apply ai | apply al | apply aj | apply ak mixed | (with_reducible first | refine af ?_ | refine ar (f := .c (.fn 32 [])) ?_ | refine ao ?_ | refine ab (h1) (by simp) ?_) | (with_reducible refine ⟨?_, ?_⟩; (focus ((repeat' with_reducible refine ⟨?_, ?_⟩) <;> first | exact trivial | assumption | (simp; done) | (simp only [List.length_map] at *; omega) | omega | (simp [fs]; done) | exact ay))) | (with_reducible intro x hx) | omega) <;> (try simp only [Nat.reduceBEq, reduceIte, Nat.reduceEqDiff, Nat.reduceAdd, Nat.reduceSub, Nat.reduceLT, reduceCtorEq, fw, fd]))
 refine aw [0, 1, 2, 3, 4] (by rfl) (by simp) (by simp [fg])
set_option maxHeartbeats 2000000 in
theorem ur (l : List UInt8) (bad : Bool) (sz : Nat) (R : List D) (j most : Nat) (xs : List Int) (hR : R[j]? = some (L (aI .i64 xs))) (hm : most < 9223372036854775808) (hxl : xs.length ≤ 140737488351232) (hx : ∀ x ∈ xs, xZ x) (hl : (l ++ bn jz xs).length ≤ 1099511627776) :
  az Try.prog 63 [.ptr 0 0 0 1, .ptr 3 0 j 1, .int .i64 most, .fn 64 [.ptr 4 0 0 1]] [Cw 1 bad, Ww 2 l.length, aU true 1 true (r8 l), Va sz R, Bx 0] (.tup [])
   [Cw 1 (bad || bT n5 most xs), Ww 2 (l ++ bn jz xs).length, aU true 1 true (r8 (l ++ bn jz xs)), Va sz R, Bx 0] := by
 refine aK Try.func63 low63 (by simp [c63]) ?_
 simp only [c63]
 have ui : uI (xs.length : Int) = xs.length := by unfold uI; omega
 have hll : l.length ≤ 1099511627776 := by rw [List.length_append] at hl; omega
 have hn := eg l bad 1 [.int .u64 xs.length] 0 most xs.length rfl (by omega) (by omega) hll
 rw [ui] at hn
 obtain ⟨l0, e0⟩ : ∃ l0, l0 = l ++ aX xs.length := ⟨_, rfl⟩
 obtain ⟨b0, f0⟩ : ∃ b0, b0 = (bad || decide (most < xs.length)) := ⟨_, rfl⟩
 have el : l ++ bn jz xs = l0 ++ xs.flatMap jz := by rw [e0]; simp [bn]
 have eb : (bad || bT n5 most xs) = (b0 || xs.any n5) := by rw [f0]; simp [bT, Bool.or_assoc]
 rw [el] at hl
 rw [el, eb]
 rw [← e0, ← f0] at hn
 clear el eb f0
 repeat' ((first | apply ai | apply ah | apply am | apply au | refine aq rfl ?_ | apply al | apply aj | apply ae | apply ak mixed | apply ap mixed | (with_reducible first | refine af ?_ | refine ar (f := .c (.fn 34 [])) ?_ | refine ao ?_ | refine ab (hn) (by simp) ?_) | simp (disch := omega) only [aG] | ((first | refine ac ?_ ?_ | refine aa ?_ ?_) <;> intro hc <;> (try simp only [hc]) <;> try simp at hc) | (with_reducible refine ⟨?_, ?_⟩; (focus ((repeat' with_reducible refine ⟨?_, ?_⟩) <;> first | exact trivial | assumption | (simp; done) | (simp only [List.length_map] at *; omega) | omega | (simp [fs]; done) | exact ay))) | (with_reducible intro x hx) | omega) <;> (try simp only [aE, hR, Nat.reduceBEq, reduceIte, Nat.reduceEqDiff, Nat.reduceAdd, Nat.reduceSub, Nat.reduceLT, reduceCtorEq, cond_false, ne_eq, fw, fd]))
 refine aT (ι := {i : Nat // i ≤ xs.length}) (fun i => ([(1, .ptr 3 0 j 1), (3, .fn 64 [.ptr 4 0 0 1]), (29, .int .i64 xs.length), (30, .int .i64 i.1)], [Cw 1 (b0 || (xs.take i.1).any n5), Ww 2 (l0 ++ (xs.take i.1).flatMap jz).length, aU true 1 true (r8 (l0 ++ (xs.take i.1).flatMap jz)), Va sz R, Bx 0])) (fun i => xs.length - i.1) ⟨0, by omega⟩ ?_ ?_
 ·simp only [List.take_zero, List.flatMap_nil, List.any_nil, Bool.or_false, List.append_nil]
  refine aJ [0, 1, 2, 3, 4] (by rfl) (by simp) (by simp [fg]) (by simp [fg])
  skip
 rintro ⟨i, hi⟩ hk
 dsimp only at hk ⊢
 by_cases hlt : i < xs.length
 ·have c1 : ((i : Int) < (xs.length : Int)) = True := by simp; omega
  obtain ⟨x, hg⟩ : ∃ x, xs[i]? = some x := ⟨_, List.getElem?_eq_getElem hlt⟩
  have hr := bR (k := .i64) hg
  have hxf := hx x (List.mem_of_getElem? hg)
  have hfm := dE jz hg
  have han := cV n5 hg
  have hle := gf jz xs (i + 1)
  obtain ⟨li, ei⟩ : ∃ li, li = l0 ++ (xs.take i).flatMap jz := ⟨_, rfl⟩
  obtain ⟨bi, fi⟩ : ∃ bi, bi = (b0 || (xs.take i).any n5) := ⟨_, rfl⟩
  have ej : l0 ++ (xs.take (i + 1)).flatMap jz = li ++ jz x := by rw [ei, hfm, List.append_assoc]
  have fj : (b0 || (xs.take (i + 1)).any n5) = (bi || n5 x) := by rw [fi, han, Bool.or_assoc]
  have hlj : (li ++ jz x).length ≤ 1099511627776 := by rw [← ej]; simp only [List.length_append] at hl ⊢; omega
  have hw := xc li bi x hxf hlj
  rw [← ei, ← fi]
  obtain ⟨lj, el⟩ : ∃ lj, lj = li ++ jz x := ⟨_, rfl⟩
  obtain ⟨bj, fl⟩ : ∃ bj, bj = (bi || n5 x) := ⟨_, rfl⟩
  rw [← el, ← fl] at hw
  rw [← el] at ej
  rw [← fl] at fj
  have g2 : lj.length ≤ 1099511627776 := by rw [el]; exact hlj
  have g1 : li.length ≤ lj.length := by rw [el, List.length_append]; omega
  clear el fl ei fi
  have hcell : xn x = [.int .i64 x] := rfl
  rw [hcell] at hw
  repeat' ((first | apply ai | apply ah | apply am | apply au | refine aq rfl ?_ | apply al | apply aj | apply ae | apply ak mixed | apply ap mixed | (with_reducible first | refine af ?_ | refine ar (f := .t 39) ?_ | refine ao ?_ | refine ab (hw) (by simp) ?_) | simp (disch := omega) only [bf] | ((first | refine ac ?_ ?_ | refine aa ?_ ?_) <;> intro hc <;> (try simp only [hc]) <;> try simp at hc) | (with_reducible refine ⟨?_, ?_⟩; (focus ((repeat' with_reducible refine ⟨?_, ?_⟩) <;> first | exact trivial | assumption | (simp; done) | (simp only [List.length_map] at *; omega) | omega | (simp [fs]; done) | exact ay))) | (with_reducible intro x hx) | omega) <;> (try simp only [aE, hR, c1, hr, Nat.reduceBEq, reduceIte, Nat.reduceEqDiff, Nat.reduceAdd, Nat.reduceSub, Nat.reduceLT, reduceCtorEq, ne_eq, fw, fd]))
  refine hk ⟨i + 1, by omega⟩ _ _ (by dsimp only; omega) ?_
  dsimp only
  rw [ej, fj]
  refine aJ [0, 1, 2, 3, 4] (by rfl) (by simp) (by simp [fg]) (by simp [fg])
  skip
 ·have c1 : ((i : Int) < (xs.length : Int)) = False := by simp; omega
  obtain rfl : i = xs.length := by omega
  rw [List.take_length]
  repeat' ((first | apply ai | apply ah | apply am | apply au | refine aq rfl ?_ | apply al | apply aj | apply ae | apply ak mixed | apply ap mixed | (with_reducible first | refine af ?_ | refine ao ?_) | simp (disch := omega) only [bf, aG, aN, aO, bp, Int.tdiv_eq_ediv_of_nonneg, Int.tmod_eq_emod_of_nonneg] | ((first | refine ac ?_ ?_ | refine aa ?_ ?_) <;> intro hc <;> (try simp only [hc]) <;> try simp at hc) | (with_reducible refine ⟨?_, ?_⟩; (focus ((repeat' with_reducible refine ⟨?_, ?_⟩) <;> first | exact trivial | assumption | (simp; done) | (simp only [List.length_map] at *; omega) | omega | (simp [fs]; done) | exact ay))) | (with_reducible intro x hx) | omega) <;> (try simp only [c1, Nat.reduceBEq, reduceIte, de, aY, bg, fw]))
  refine aw [0, 1, 2, 3, 4] (by rfl) (by simp) (by simp [fg])
  skip
def jt (x : Int) : List UInt8 := aX (zz x)
def oi (x : Int) : Bool := decide (x < (-400) ∨ 400 < x)
def xw (x : Int) : List D := [.int .i64 x]
def xQ (x : Int) : Prop := cR x
theorem xj (l : List UInt8) (bad : Bool) (x : Int) (hx : xQ x) (hl : (l ++ jt x).length ≤ 1099511627776) :
  az Try.prog 96 [.ptr 0 0 0 1, .ptr 1 0 0 1] [Va 1 (xw x), Bx 2, Cw 3 bad, Ww 4 l.length, aU true 1 true (r8 l)] (.tup [])
   [Va 1 (xw x), Bx 2, Cw 3 (bad || oi x), Ww 4 (l ++ jt x).length, aU true 1 true (r8 (l ++ jt x))] := by
 refine aK Try.func96 low96 (by simp [c96]) ?_
 simp only [c96]
 unfold xQ at hx
 obtain ⟨l1, e1⟩ : ∃ l1, l1 = l ++ aX (zz x) := ⟨_, rfl⟩
 obtain ⟨b1, d1⟩ : ∃ b1, b1 = (bad || decide (x < (-400) ∨ 400 < x)) := ⟨_, rfl⟩
 have el : l ++ jt x = l1 := by rw [e1]; simp [jt]
 have eb : (bad || oi x) = b1 := by rw [d1]; simp [oi]
 rw [el] at hl
 rw [el, eb]
 have g0 : l.length ≤ l1.length := by rw [e1, List.length_append]; omega
 have h1 := mP l bad 1 (xw x) 0 x (-400) 400 rfl hx (by omega)
 rw [← e1, ← d1] at h1
 clear e1 d1 el eb
 repeat' ((first | apply ai | apply al | apply aj | apply ak mixed | (with_reducible first | refine af ?_ | refine ar (f := .c (.fn 86 [])) ?_ | refine ao ?_ | refine ab (h1) (by simp) ?_) | (with_reducible refine ⟨?_, ?_⟩; (focus ((repeat' with_reducible refine ⟨?_, ?_⟩) <;> first | exact trivial | assumption | (simp; done) | (simp only [List.length_map] at *; omega) | omega | (simp [fs]; done) | exact ay))) | (with_reducible intro x hx) | omega) <;> (try simp only [Nat.reduceBEq, reduceIte, Nat.reduceEqDiff, Nat.reduceAdd, Nat.reduceSub, Nat.reduceLT, reduceCtorEq, Int.reduceNeg, fw, fd]))
 refine aw [0, 1, 2, 3, 4] (by rfl) (by simp) (by simp [fg])
set_option maxHeartbeats 2000000 in
theorem ut (l : List UInt8) (bad : Bool) (sz : Nat) (R : List D) (j most : Nat) (xs : List Int) (hR : R[j]? = some (L (aI .i64 xs))) (hm : most < 9223372036854775808) (hxl : xs.length ≤ 140737488351232) (hx : ∀ x ∈ xs, xQ x) (hl : (l ++ bn jt xs).length ≤ 1099511627776) :
  az Try.prog 63 [.ptr 0 0 0 1, .ptr 3 0 j 1, .int .i64 most, .fn 96 [.ptr 4 0 0 1]] [Cw 1 bad, Ww 2 l.length, aU true 1 true (r8 l), Va sz R, Bx 0] (.tup [])
   [Cw 1 (bad || bT oi most xs), Ww 2 (l ++ bn jt xs).length, aU true 1 true (r8 (l ++ bn jt xs)), Va sz R, Bx 0] := by
 refine aK Try.func63 low63 (by simp [c63]) ?_
 simp only [c63]
 have ui : uI (xs.length : Int) = xs.length := by unfold uI; omega
 have hll : l.length ≤ 1099511627776 := by rw [List.length_append] at hl; omega
 have hn := eg l bad 1 [.int .u64 xs.length] 0 most xs.length rfl (by omega) (by omega) hll
 rw [ui] at hn
 obtain ⟨l0, e0⟩ : ∃ l0, l0 = l ++ aX xs.length := ⟨_, rfl⟩
 obtain ⟨b0, f0⟩ : ∃ b0, b0 = (bad || decide (most < xs.length)) := ⟨_, rfl⟩
 have el : l ++ bn jt xs = l0 ++ xs.flatMap jt := by rw [e0]; simp [bn]
 have eb : (bad || bT oi most xs) = (b0 || xs.any oi) := by rw [f0]; simp [bT, Bool.or_assoc]
 rw [el] at hl
 rw [el, eb]
 rw [← e0, ← f0] at hn
 clear el eb f0
 repeat' ((first | apply ai | apply ah | apply am | apply au | refine aq rfl ?_ | apply al | apply aj | apply ae | apply ak mixed | apply ap mixed | (with_reducible first | refine af ?_ | refine ar (f := .c (.fn 34 [])) ?_ | refine ao ?_ | refine ab (hn) (by simp) ?_) | simp (disch := omega) only [aG] | ((first | refine ac ?_ ?_ | refine aa ?_ ?_) <;> intro hc <;> (try simp only [hc]) <;> try simp at hc) | (with_reducible refine ⟨?_, ?_⟩; (focus ((repeat' with_reducible refine ⟨?_, ?_⟩) <;> first | exact trivial | assumption | (simp; done) | (simp only [List.length_map] at *; omega) | omega | (simp [fs]; done) | exact ay))) | (with_reducible intro x hx) | omega) <;> (try simp only [aE, hR, Nat.reduceBEq, reduceIte, Nat.reduceEqDiff, Nat.reduceAdd, Nat.reduceSub, Nat.reduceLT, reduceCtorEq, cond_false, ne_eq, fw, fd]))
 refine aT (ι := {i : Nat // i ≤ xs.length}) (fun i => ([(1, .ptr 3 0 j 1), (3, .fn 96 [.ptr 4 0 0 1]), (29, .int .i64 xs.length), (30, .int .i64 i.1)], [Cw 1 (b0 || (xs.take i.1).any oi), Ww 2 (l0 ++ (xs.take i.1).flatMap jt).length, aU true 1 true (r8 (l0 ++ (xs.take i.1).flatMap jt)), Va sz R, Bx 0])) (fun i => xs.length - i.1) ⟨0, by omega⟩ ?_ ?_
 ·simp only [List.take_zero, List.flatMap_nil, List.any_nil, Bool.or_false, List.append_nil]
  refine aJ [0, 1, 2, 3, 4] (by rfl) (by simp) (by simp [fg]) (by simp [fg])
  skip
 rintro ⟨i, hi⟩ hk
 dsimp only at hk ⊢
 by_cases hlt : i < xs.length
 ·have c1 : ((i : Int) < (xs.length : Int)) = True := by simp; omega
  obtain ⟨x, hg⟩ : ∃ x, xs[i]? = some x := ⟨_, List.getElem?_eq_getElem hlt⟩
  have hr := bR (k := .i64) hg
  have hxf := hx x (List.mem_of_getElem? hg)
  have hfm := dE jt hg
  have han := cV oi hg
  have hle := gf jt xs (i + 1)
  obtain ⟨li, ei⟩ : ∃ li, li = l0 ++ (xs.take i).flatMap jt := ⟨_, rfl⟩
  obtain ⟨bi, fi⟩ : ∃ bi, bi = (b0 || (xs.take i).any oi) := ⟨_, rfl⟩
  have ej : l0 ++ (xs.take (i + 1)).flatMap jt = li ++ jt x := by rw [ei, hfm, List.append_assoc]
  have fj : (b0 || (xs.take (i + 1)).any oi) = (bi || oi x) := by rw [fi, han, Bool.or_assoc]
  have hlj : (li ++ jt x).length ≤ 1099511627776 := by rw [← ej]; simp only [List.length_append] at hl ⊢; omega
  have hw := xj li bi x hxf hlj
  rw [← ei, ← fi]
  obtain ⟨lj, el⟩ : ∃ lj, lj = li ++ jt x := ⟨_, rfl⟩
  obtain ⟨bj, fl⟩ : ∃ bj, bj = (bi || oi x) := ⟨_, rfl⟩
  rw [← el, ← fl] at hw
  rw [← el] at ej
  rw [← fl] at fj
  have g2 : lj.length ≤ 1099511627776 := by rw [el]; exact hlj
  have g1 : li.length ≤ lj.length := by rw [el, List.length_append]; omega
  clear el fl ei fi
  have hcell : xw x = [.int .i64 x] := rfl
  rw [hcell] at hw
  repeat' ((first | apply ai | apply ah | apply am | apply au | refine aq rfl ?_ | apply al | apply aj | apply ae | apply ak mixed | apply ap mixed | (with_reducible first | refine af ?_ | refine ar (f := .t 39) ?_ | refine ao ?_ | refine ab (hw) (by simp) ?_) | simp (disch := omega) only [bf] | ((first | refine ac ?_ ?_ | refine aa ?_ ?_) <;> intro hc <;> (try simp only [hc]) <;> try simp at hc) | (with_reducible refine ⟨?_, ?_⟩; (focus ((repeat' with_reducible refine ⟨?_, ?_⟩) <;> first | exact trivial | assumption | (simp; done) | (simp only [List.length_map] at *; omega) | omega | (simp [fs]; done) | exact ay))) | (with_reducible intro x hx) | omega) <;> (try simp only [aE, hR, c1, hr, Nat.reduceBEq, reduceIte, Nat.reduceEqDiff, Nat.reduceAdd, Nat.reduceSub, Nat.reduceLT, reduceCtorEq, ne_eq, fw, fd]))
  refine hk ⟨i + 1, by omega⟩ _ _ (by dsimp only; omega) ?_
  dsimp only
  rw [ej, fj]
  refine aJ [0, 1, 2, 3, 4] (by rfl) (by simp) (by simp [fg]) (by simp [fg])
  skip
 ·have c1 : ((i : Int) < (xs.length : Int)) = False := by simp; omega
  obtain rfl : i = xs.length := by omega
  rw [List.take_length]
  repeat' ((first | apply ai | apply ah | apply am | apply au | refine aq rfl ?_ | apply al | apply aj | apply ae | apply ak mixed | apply ap mixed | (with_reducible first | refine af ?_ | refine ao ?_) | simp (disch := omega) only [bf, aG, aN, aO, bp, Int.tdiv_eq_ediv_of_nonneg, Int.tmod_eq_emod_of_nonneg] | ((first | refine ac ?_ ?_ | refine aa ?_ ?_) <;> intro hc <;> (try simp only [hc]) <;> try simp at hc) | (with_reducible refine ⟨?_, ?_⟩; (focus ((repeat' with_reducible refine ⟨?_, ?_⟩) <;> first | exact trivial | assumption | (simp; done) | (simp only [List.length_map] at *; omega) | omega | (simp [fs]; done) | exact ay))) | (with_reducible intro x hx) | omega) <;> (try simp only [c1, Nat.reduceBEq, reduceIte, de, aY, bg, fw]))
  refine aw [0, 1, 2, 3, 4] (by rfl) (by simp) (by simp [fg])
  skip
def jo (x : Int × Int) : List UInt8 := aX (zz x.1) ++ aX (uI x.2)
def n6 (x : Int × Int) : Bool := (decide (x.1 < (-5) ∨ 5 < x.1) || decide (6 < uI x.2))
def vA (x : Int × Int) : List D := [.int .i64 x.1, .int .i64 x.2]
def yf (x : Int × Int) : Prop := cR x.1 ∧ cR x.2
theorem xu (l : List UInt8) (bad : Bool) (x : Int × Int) (hx : yf x) (hl : (l ++ jo x).length ≤ 1099511627776) :
  az Try.prog 93 [.ptr 0 0 0 1, .ptr 1 0 0 1] [Va 2 (vA x), Bx 2, Cw 3 bad, Ww 4 l.length, aU true 1 true (r8 l)] (.tup [])
   [Va 2 (vA x), Bx 2, Cw 3 (bad || n6 x), Ww 4 (l ++ jo x).length, aU true 1 true (r8 (l ++ jo x))] := by
 refine aK Try.func93 low93 (by simp [c93]) ?_
 simp only [c93]
 unfold yf at hx
 obtain ⟨l1, e1⟩ : ∃ l1, l1 = l ++ aX (zz x.1) := ⟨_, rfl⟩
 obtain ⟨b1, d1⟩ : ∃ b1, b1 = (bad || decide (x.1 < (-5) ∨ 5 < x.1)) := ⟨_, rfl⟩
 obtain ⟨l2, e2⟩ : ∃ l2, l2 = l1 ++ aX (uI x.2) := ⟨_, rfl⟩
 obtain ⟨b2, d2⟩ : ∃ b2, b2 = (b1 || decide (6 < uI x.2)) := ⟨_, rfl⟩
 have el : l ++ jo x = l2 := by rw [e2, e1]; simp [jo]
 have eb : (bad || n6 x) = b2 := by rw [d2, d1]; simp [n6, Bool.or_assoc]
 rw [el] at hl
 rw [el, eb]
 have g1 : l1.length ≤ l2.length := by rw [e2, List.length_append]; omega
 have g0 : l.length ≤ l1.length := by rw [e1, List.length_append]; omega
 have h1 := mP l bad 2 (vA x) 0 x.1 (-5) 5 rfl hx.1 (by omega)
 rw [← e1, ← d1] at h1
 have h2 := bF l1 b1 2 (vA x) 1 6 x.2 rfl hx.2 (by omega) (by omega)
 rw [← e2, ← d2] at h2
 clear e1 e2 d1 d2 el eb
 repeat' ((first | apply ai | apply al | apply aj | apply ap mixed | (with_reducible first | refine af ?_ | refine aD (f := .c (.fn 86 [])) ?_ | refine aD (f := .c (.fn 32 [])) ?_ | refine aC ?_ | refine ab (h1) (by simp) ?_ | refine ab (h2) (by simp) ?_) | (with_reducible refine ⟨?_, ?_⟩; (focus ((repeat' with_reducible refine ⟨?_, ?_⟩) <;> first | exact trivial | assumption | (simp; done) | (simp only [List.length_map] at *; omega) | omega | (simp [fs]; done) | exact ay))) | (with_reducible intro x hx) | omega) <;> (try simp only [Nat.reduceBEq, reduceIte, Nat.reduceEqDiff, Nat.reduceAdd, Nat.reduceSub, Nat.reduceLT, reduceCtorEq, Int.reduceNeg, fw, fd]))
 refine aw [0, 1, 2, 3, 4] (by rfl) (by simp) (by simp [fg])
set_option maxHeartbeats 2000000 in
theorem uZ (l : List UInt8) (bad : Bool) (sz : Nat) (R : List D) (j most : Nat) (xs : List (Int × Int)) (hR : R[j]? = some (L (aS .i64 .i64 xs))) (hm : most < 9223372036854775808) (hxl : xs.length ≤ 140737488351232) (hx : ∀ x ∈ xs, yf x) (hl : (l ++ bn jo xs).length ≤ 1099511627776) :
  az Try.prog 92 [.ptr 0 0 0 1, .ptr 3 0 j 1, .int .i64 most, .fn 93 [.ptr 4 0 0 1]] [Cw 1 bad, Ww 2 l.length, aU true 1 true (r8 l), Va sz R, Bx 0] (.tup [])
   [Cw 1 (bad || bT n6 most xs), Ww 2 (l ++ bn jo xs).length, aU true 1 true (r8 (l ++ bn jo xs)), Va sz R, Bx 0] := by
 refine aK Try.func92 low92 (by simp [c92]) ?_
 simp only [c92]
 have ui : uI (xs.length : Int) = xs.length := by unfold uI; omega
 have hll : l.length ≤ 1099511627776 := by rw [List.length_append] at hl; omega
 have hn := eg l bad 1 [.int .u64 xs.length] 0 most xs.length rfl (by omega) (by omega) hll
 rw [ui] at hn
 obtain ⟨l0, e0⟩ : ∃ l0, l0 = l ++ aX xs.length := ⟨_, rfl⟩
 obtain ⟨b0, f0⟩ : ∃ b0, b0 = (bad || decide (most < xs.length)) := ⟨_, rfl⟩
 have el : l ++ bn jo xs = l0 ++ xs.flatMap jo := by rw [e0]; simp [bn]
 have eb : (bad || bT n6 most xs) = (b0 || xs.any n6) := by rw [f0]; simp [bT, Bool.or_assoc]
 rw [el] at hl
 rw [el, eb]
 rw [← e0, ← f0] at hn
 clear el eb f0
 repeat' ((first | apply ai | apply ah | apply am | apply au | refine aq rfl ?_ | apply al | apply aj | apply ae | apply ak mixed | apply ap mixed | (with_reducible first | refine af ?_ | refine ar (f := .c (.fn 34 [])) ?_ | refine ao ?_ | refine ab (hn) (by simp) ?_) | simp (disch := omega) only [aG] | ((first | refine ac ?_ ?_ | refine aa ?_ ?_) <;> intro hc <;> (try simp only [hc]) <;> try simp at hc) | (with_reducible refine ⟨?_, ?_⟩; (focus ((repeat' with_reducible refine ⟨?_, ?_⟩) <;> first | exact trivial | assumption | (simp; done) | (simp only [List.length_map] at *; omega) | omega | (simp [fs]; done) | exact ay))) | (with_reducible intro x hx) | omega) <;> (try simp only [aF, hR, Nat.reduceBEq, reduceIte, Nat.reduceEqDiff, Nat.reduceAdd, Nat.reduceSub, Nat.reduceLT, reduceCtorEq, cond_false, ne_eq, fw, fd]))
 refine aT (ι := {i : Nat // i ≤ xs.length}) (fun i => ([(1, .ptr 3 0 j 1), (3, .fn 93 [.ptr 4 0 0 1]), (29, .int .i64 xs.length), (30, .int .i64 i.1)], [Cw 1 (b0 || (xs.take i.1).any n6), Ww 2 (l0 ++ (xs.take i.1).flatMap jo).length, aU true 1 true (r8 (l0 ++ (xs.take i.1).flatMap jo)), Va sz R, Bx 0])) (fun i => xs.length - i.1) ⟨0, by omega⟩ ?_ ?_
 ·simp only [List.take_zero, List.flatMap_nil, List.any_nil, Bool.or_false, List.append_nil]
  refine aJ [0, 1, 2, 3, 4] (by rfl) (by simp) (by simp [fg]) (by simp [fg])
  skip
 rintro ⟨i, hi⟩ hk
 dsimp only at hk ⊢
 by_cases hlt : i < xs.length
 ·have c1 : ((i : Int) < (xs.length : Int)) = True := by simp; omega
  obtain ⟨x, hg⟩ : ∃ x, xs[i]? = some x := ⟨_, List.getElem?_eq_getElem hlt⟩
  have hr := bO (k := .i64) (m := .i64) hg
  have hxf := hx x (List.mem_of_getElem? hg)
  have hfm := dE jo hg
  have han := cV n6 hg
  have hle := gf jo xs (i + 1)
  obtain ⟨li, ei⟩ : ∃ li, li = l0 ++ (xs.take i).flatMap jo := ⟨_, rfl⟩
  obtain ⟨bi, fi⟩ : ∃ bi, bi = (b0 || (xs.take i).any n6) := ⟨_, rfl⟩
  have ej : l0 ++ (xs.take (i + 1)).flatMap jo = li ++ jo x := by rw [ei, hfm, List.append_assoc]
  have fj : (b0 || (xs.take (i + 1)).any n6) = (bi || n6 x) := by rw [fi, han, Bool.or_assoc]
  have hlj : (li ++ jo x).length ≤ 1099511627776 := by rw [← ej]; simp only [List.length_append] at hl ⊢; omega
  have hw := xu li bi x hxf hlj
  rw [← ei, ← fi]
  obtain ⟨lj, el⟩ : ∃ lj, lj = li ++ jo x := ⟨_, rfl⟩
  obtain ⟨bj, fl⟩ : ∃ bj, bj = (bi || n6 x) := ⟨_, rfl⟩
  rw [← el, ← fl] at hw
  rw [← el] at ej
  rw [← fl] at fj
  have g2 : lj.length ≤ 1099511627776 := by rw [el]; exact hlj
  have g1 : li.length ≤ lj.length := by rw [el, List.length_append]; omega
  clear el fl ei fi
  have hcell : vA x = [.int .i64 x.1, .int .i64 x.2] := rfl
  rw [hcell] at hw
  repeat' ((first | apply ai | apply ah | apply am | apply au | refine aq rfl ?_ | apply al | apply aj | apply ae | apply ak mixed | apply ap mixed | (with_reducible first | refine af ?_ | refine ar (f := .t 39) ?_ | refine ao ?_ | refine ab (hw) (by simp) ?_) | simp (disch := omega) only [bf] | ((first | refine ac ?_ ?_ | refine aa ?_ ?_) <;> intro hc <;> (try simp only [hc]) <;> try simp at hc) | (with_reducible refine ⟨?_, ?_⟩; (focus ((repeat' with_reducible refine ⟨?_, ?_⟩) <;> first | exact trivial | assumption | (simp; done) | (simp only [List.length_map] at *; omega) | omega | (simp [fs]; done) | exact ay))) | (with_reducible intro x hx) | omega) <;> (try simp only [aF, hR, c1, hr, Nat.reduceBEq, reduceIte, Nat.reduceEqDiff, Nat.reduceAdd, Nat.reduceSub, Nat.reduceLT, reduceCtorEq, ne_eq, fw, fd]))
  refine hk ⟨i + 1, by omega⟩ _ _ (by dsimp only; omega) ?_
  dsimp only
  rw [ej, fj]
  refine aJ [0, 1, 2, 3, 4] (by rfl) (by simp) (by simp [fg]) (by simp [fg])
  skip
 ·have c1 : ((i : Int) < (xs.length : Int)) = False := by simp; omega
  obtain rfl : i = xs.length := by omega
  rw [List.take_length]
  repeat' ((first | apply ai | apply ah | apply am | apply au | refine aq rfl ?_ | apply al | apply aj | apply ae | apply ak mixed | apply ap mixed | (with_reducible first | refine af ?_ | refine ao ?_) | simp (disch := omega) only [bf, aG, aN, aO, bp, Int.tdiv_eq_ediv_of_nonneg, Int.tmod_eq_emod_of_nonneg] | ((first | refine ac ?_ ?_ | refine aa ?_ ?_) <;> intro hc <;> (try simp only [hc]) <;> try simp at hc) | (with_reducible refine ⟨?_, ?_⟩; (focus ((repeat' with_reducible refine ⟨?_, ?_⟩) <;> first | exact trivial | assumption | (simp; done) | (simp only [List.length_map] at *; omega) | omega | (simp [fs]; done) | exact ay))) | (with_reducible intro x hx) | omega) <;> (try simp only [c1, Nat.reduceBEq, reduceIte, de, aY, bg, fw]))
  refine aw [0, 1, 2, 3, 4] (by rfl) (by simp) (by simp [fg])
  skip
def jj (x : Int) : List UInt8 := aX (zz x)
def n7 (x : Int) : Bool := false
def wm (x : Int) : List D := [.int .i64 x]
def xy (x : Int) : Prop := cR x
theorem wF (l : List UInt8) (bad : Bool) (x : Int) (hx : xy x) (hl : (l ++ jj x).length ≤ 1099511627776) :
  az Try.prog 67 [.ptr 0 0 0 1, .ptr 1 0 0 1] [Va 1 (wm x), Bx 2, Cw 3 bad, Ww 4 l.length, aU true 1 true (r8 l)] (.tup [])
   [Va 1 (wm x), Bx 2, Cw 3 (bad || n7 x), Ww 4 (l ++ jj x).length, aU true 1 true (r8 (l ++ jj x))] := by
 refine aK Try.func67 low67 (by simp [c67]) ?_
 simp only [c67]
 unfold xy at hx
 obtain ⟨l1, e1⟩ : ∃ l1, l1 = l ++ aX (zz x) := ⟨_, rfl⟩
 have el : l ++ jj x = l1 := by rw [e1]; simp [jj]
 have eb : (bad || n7 x) = bad := by simp [n7]
 rw [el] at hl
 rw [el, eb]
 have g0 : l.length ≤ l1.length := by rw [e1, List.length_append]; omega
 have h1 := cy l bad 1 (wm x) 0 x rfl hx (by omega)
 rw [← e1] at h1
 clear e1 el eb
 repeat' ((first | apply ai | apply al | apply aj | apply ak mixed | (with_reducible first | refine af ?_ | refine ar (f := .c (.fn 39 [])) ?_ | refine ao ?_ | refine ab (h1) (by simp) ?_) | (with_reducible refine ⟨?_, ?_⟩; (focus ((repeat' with_reducible refine ⟨?_, ?_⟩) <;> first | exact trivial | assumption | (simp; done) | (simp only [List.length_map] at *; omega) | omega | (simp [fs]; done) | exact ay))) | (with_reducible intro x hx) | omega) <;> (try simp only [Nat.reduceBEq, reduceIte, Nat.reduceEqDiff, Nat.reduceAdd, Nat.reduceSub, Nat.reduceLT, reduceCtorEq, fw, fd]))
 refine aw [0, 1, 2, 3, 4] (by rfl) (by simp) (by simp [fg])
set_option maxHeartbeats 2000000 in
theorem vr (l : List UInt8) (bad : Bool) (sz : Nat) (R : List D) (j most : Nat) (xs : List Int) (hR : R[j]? = some (L (aI .i64 xs))) (hm : most < 9223372036854775808) (hxl : xs.length ≤ 140737488351232) (hx : ∀ x ∈ xs, xy x) (hl : (l ++ bn jj xs).length ≤ 1099511627776) :
  az Try.prog 66 [.ptr 0 0 0 1, .ptr 3 0 j 1, .int .i64 most, .fn 67 [.ptr 4 0 0 1]] [Cw 1 bad, Ww 2 l.length, aU true 1 true (r8 l), Va sz R, Bx 0] (.tup [])
   [Cw 1 (bad || bT n7 most xs), Ww 2 (l ++ bn jj xs).length, aU true 1 true (r8 (l ++ bn jj xs)), Va sz R, Bx 0] := by
 refine aK Try.func66 low66 (by simp [c66]) ?_
 simp only [c66]
 have ui : uI (xs.length : Int) = xs.length := by unfold uI; omega
 have hll : l.length ≤ 1099511627776 := by rw [List.length_append] at hl; omega
 have hn := eg l bad 1 [.int .u64 xs.length] 0 most xs.length rfl (by omega) (by omega) hll
 rw [ui] at hn
 obtain ⟨l0, e0⟩ : ∃ l0, l0 = l ++ aX xs.length := ⟨_, rfl⟩
 obtain ⟨b0, f0⟩ : ∃ b0, b0 = (bad || decide (most < xs.length)) := ⟨_, rfl⟩
 have el : l ++ bn jj xs = l0 ++ xs.flatMap jj := by rw [e0]; simp [bn]
 have eb : (bad || bT n7 most xs) = (b0 || xs.any n7) := by rw [f0]; simp [bT, Bool.or_assoc]
 rw [el] at hl
 rw [el, eb]
 rw [← e0, ← f0] at hn
 clear el eb f0
 repeat' ((first | apply ai | apply ah | apply am | apply au | refine aq rfl ?_ | apply al | apply aj | apply ae | apply ak mixed | apply ap mixed | (with_reducible first | refine af ?_ | refine ar (f := .c (.fn 34 [])) ?_ | refine ao ?_ | refine ab (hn) (by simp) ?_) | simp (disch := omega) only [aG] | ((first | refine ac ?_ ?_ | refine aa ?_ ?_) <;> intro hc <;> (try simp only [hc]) <;> try simp at hc) | (with_reducible refine ⟨?_, ?_⟩; (focus ((repeat' with_reducible refine ⟨?_, ?_⟩) <;> first | exact trivial | assumption | (simp; done) | (simp only [List.length_map] at *; omega) | omega | (simp [fs]; done) | exact ay))) | (with_reducible intro x hx) | omega) <;> (try simp only [aE, hR, Nat.reduceBEq, reduceIte, Nat.reduceEqDiff, Nat.reduceAdd, Nat.reduceSub, Nat.reduceLT, reduceCtorEq, cond_false, ne_eq, fw, fd]))
 refine aT (ι := {i : Nat // i ≤ xs.length}) (fun i => ([(1, .ptr 3 0 j 1), (3, .fn 67 [.ptr 4 0 0 1]), (29, .int .i64 xs.length), (30, .int .i64 i.1)], [Cw 1 (b0 || (xs.take i.1).any n7), Ww 2 (l0 ++ (xs.take i.1).flatMap jj).length, aU true 1 true (r8 (l0 ++ (xs.take i.1).flatMap jj)), Va sz R, Bx 0])) (fun i => xs.length - i.1) ⟨0, by omega⟩ ?_ ?_
 ·simp only [List.take_zero, List.flatMap_nil, List.any_nil, Bool.or_false, List.append_nil]
  refine aJ [0, 1, 2, 3, 4] (by rfl) (by simp) (by simp [fg]) (by simp [fg])
  skip
 rintro ⟨i, hi⟩ hk
 dsimp only at hk ⊢
 by_cases hlt : i < xs.length
 ·have c1 : ((i : Int) < (xs.length : Int)) = True := by simp; omega
  obtain ⟨x, hg⟩ : ∃ x, xs[i]? = some x := ⟨_, List.getElem?_eq_getElem hlt⟩
  have hr := bR (k := .i64) hg
  have hxf := hx x (List.mem_of_getElem? hg)
  have hfm := dE jj hg
  have han := cV n7 hg
  have hle := gf jj xs (i + 1)
  obtain ⟨li, ei⟩ : ∃ li, li = l0 ++ (xs.take i).flatMap jj := ⟨_, rfl⟩
  obtain ⟨bi, fi⟩ : ∃ bi, bi = (b0 || (xs.take i).any n7) := ⟨_, rfl⟩
  have ej : l0 ++ (xs.take (i + 1)).flatMap jj = li ++ jj x := by rw [ei, hfm, List.append_assoc]
  have fj : (b0 || (xs.take (i + 1)).any n7) = (bi || n7 x) := by rw [fi, han, Bool.or_assoc]
  have hlj : (li ++ jj x).length ≤ 1099511627776 := by rw [← ej]; simp only [List.length_append] at hl ⊢; omega
  have hw := wF li bi x hxf hlj
  rw [← ei, ← fi]
  obtain ⟨lj, el⟩ : ∃ lj, lj = li ++ jj x := ⟨_, rfl⟩
  obtain ⟨bj, fl⟩ : ∃ bj, bj = (bi || n7 x) := ⟨_, rfl⟩
  rw [← el, ← fl] at hw
  rw [← el] at ej
  rw [← fl] at fj
  have g2 : lj.length ≤ 1099511627776 := by rw [el]; exact hlj
  have g1 : li.length ≤ lj.length := by rw [el, List.length_append]; omega
  clear el fl ei fi
  have hcell : wm x = [.int .i64 x] := rfl
  rw [hcell] at hw
  repeat' ((first | apply ai | apply ah | apply am | apply au | refine aq rfl ?_ | apply al | apply aj | apply ae | apply ak mixed | apply ap mixed | (with_reducible first | refine af ?_ | refine ar (f := .t 39) ?_ | refine ao ?_ | refine ab (hw) (by simp) ?_) | simp (disch := omega) only [bf] | ((first | refine ac ?_ ?_ | refine aa ?_ ?_) <;> intro hc <;> (try simp only [hc]) <;> try simp at hc) | (with_reducible refine ⟨?_, ?_⟩; (focus ((repeat' with_reducible refine ⟨?_, ?_⟩) <;> first | exact trivial | assumption | (simp; done) | (simp only [List.length_map] at *; omega) | omega | (simp [fs]; done) | exact ay))) | (with_reducible intro x hx) | omega) <;> (try simp only [aE, hR, c1, hr, Nat.reduceBEq, reduceIte, Nat.reduceEqDiff, Nat.reduceAdd, Nat.reduceSub, Nat.reduceLT, reduceCtorEq, ne_eq, fw, fd]))
  refine hk ⟨i + 1, by omega⟩ _ _ (by dsimp only; omega) ?_
  dsimp only
  rw [ej, fj]
  refine aJ [0, 1, 2, 3, 4] (by rfl) (by simp) (by simp [fg]) (by simp [fg])
  skip
 ·have c1 : ((i : Int) < (xs.length : Int)) = False := by simp; omega
  obtain rfl : i = xs.length := by omega
  rw [List.take_length]
  repeat' ((first | apply ai | apply ah | apply am | apply au | refine aq rfl ?_ | apply al | apply aj | apply ae | apply ak mixed | apply ap mixed | (with_reducible first | refine af ?_ | refine ao ?_) | simp (disch := omega) only [bf, aG, aN, aO, bp, Int.tdiv_eq_ediv_of_nonneg, Int.tmod_eq_emod_of_nonneg] | ((first | refine ac ?_ ?_ | refine aa ?_ ?_) <;> intro hc <;> (try simp only [hc]) <;> try simp at hc) | (with_reducible refine ⟨?_, ?_⟩; (focus ((repeat' with_reducible refine ⟨?_, ?_⟩) <;> first | exact trivial | assumption | (simp; done) | (simp only [List.length_map] at *; omega) | omega | (simp [fs]; done) | exact ay))) | (with_reducible intro x hx) | omega) <;> (try simp only [c1, Nat.reduceBEq, reduceIte, de, aY, bg, fw]))
  refine aw [0, 1, 2, 3, 4] (by rfl) (by simp) (by simp [fg])
  skip
def js (x : Int) : List UInt8 := aX (zz x)
def n8 (x : Int) : Bool := false
def wJ (x : Int) : List D := [.int .i64 x]
def wt (x : Int) : Prop := cR x
theorem xP (l : List UInt8) (bad : Bool) (x : Int) (hx : wt x) (hl : (l ++ js x).length ≤ 1099511627776) :
  az Try.prog 68 [.ptr 0 0 0 1, .ptr 1 0 0 1] [Va 1 (wJ x), Bx 2, Cw 3 bad, Ww 4 l.length, aU true 1 true (r8 l)] (.tup [])
   [Va 1 (wJ x), Bx 2, Cw 3 (bad || n8 x), Ww 4 (l ++ js x).length, aU true 1 true (r8 (l ++ js x))] := by
 refine aK Try.func68 low68 (by simp [c68]) ?_
 simp only [c68]
 unfold wt at hx
 obtain ⟨l1, e1⟩ : ∃ l1, l1 = l ++ aX (zz x) := ⟨_, rfl⟩
 have el : l ++ js x = l1 := by rw [e1]; simp [js]
 have eb : (bad || n8 x) = bad := by simp [n8]
 rw [el] at hl
 rw [el, eb]
 have g0 : l.length ≤ l1.length := by rw [e1, List.length_append]; omega
 have h1 := cy l bad 1 (wJ x) 0 x rfl hx (by omega)
 rw [← e1] at h1
 clear e1 el eb
 repeat' ((first | apply ai | apply al | apply aj | apply ak mixed | (with_reducible first | refine af ?_ | refine ar (f := .c (.fn 39 [])) ?_ | refine ao ?_ | refine ab (h1) (by simp) ?_) | (with_reducible refine ⟨?_, ?_⟩; (focus ((repeat' with_reducible refine ⟨?_, ?_⟩) <;> first | exact trivial | assumption | (simp; done) | (simp only [List.length_map] at *; omega) | omega | (simp [fs]; done) | exact ay))) | (with_reducible intro x hx) | omega) <;> (try simp only [Nat.reduceBEq, reduceIte, Nat.reduceEqDiff, Nat.reduceAdd, Nat.reduceSub, Nat.reduceLT, reduceCtorEq, fw, fd]))
 refine aw [0, 1, 2, 3, 4] (by rfl) (by simp) (by simp [fg])
set_option maxHeartbeats 2000000 in
theorem uS (l : List UInt8) (bad : Bool) (sz : Nat) (R : List D) (j most : Nat) (xs : List Int) (hR : R[j]? = some (L (aI .i64 xs))) (hm : most < 9223372036854775808) (hxl : xs.length ≤ 140737488351232) (hx : ∀ x ∈ xs, wt x) (hl : (l ++ bn js xs).length ≤ 1099511627776) :
  az Try.prog 66 [.ptr 0 0 0 1, .ptr 3 0 j 1, .int .i64 most, .fn 68 [.ptr 4 0 0 1]] [Cw 1 bad, Ww 2 l.length, aU true 1 true (r8 l), Va sz R, Bx 0] (.tup [])
   [Cw 1 (bad || bT n8 most xs), Ww 2 (l ++ bn js xs).length, aU true 1 true (r8 (l ++ bn js xs)), Va sz R, Bx 0] := by
 refine aK Try.func66 low66 (by simp [c66]) ?_
 simp only [c66]
 have ui : uI (xs.length : Int) = xs.length := by unfold uI; omega
 have hll : l.length ≤ 1099511627776 := by rw [List.length_append] at hl; omega
 have hn := eg l bad 1 [.int .u64 xs.length] 0 most xs.length rfl (by omega) (by omega) hll
 rw [ui] at hn
 obtain ⟨l0, e0⟩ : ∃ l0, l0 = l ++ aX xs.length := ⟨_, rfl⟩
 obtain ⟨b0, f0⟩ : ∃ b0, b0 = (bad || decide (most < xs.length)) := ⟨_, rfl⟩
 have el : l ++ bn js xs = l0 ++ xs.flatMap js := by rw [e0]; simp [bn]
 have eb : (bad || bT n8 most xs) = (b0 || xs.any n8) := by rw [f0]; simp [bT, Bool.or_assoc]
 rw [el] at hl
 rw [el, eb]
 rw [← e0, ← f0] at hn
 clear el eb f0
 repeat' ((first | apply ai | apply ah | apply am | apply au | refine aq rfl ?_ | apply al | apply aj | apply ae | apply ak mixed | apply ap mixed | (with_reducible first | refine af ?_ | refine ar (f := .c (.fn 34 [])) ?_ | refine ao ?_ | refine ab (hn) (by simp) ?_) | simp (disch := omega) only [aG] | ((first | refine ac ?_ ?_ | refine aa ?_ ?_) <;> intro hc <;> (try simp only [hc]) <;> try simp at hc) | (with_reducible refine ⟨?_, ?_⟩; (focus ((repeat' with_reducible refine ⟨?_, ?_⟩) <;> first | exact trivial | assumption | (simp; done) | (simp only [List.length_map] at *; omega) | omega | (simp [fs]; done) | exact ay))) | (with_reducible intro x hx) | omega) <;> (try simp only [aE, hR, Nat.reduceBEq, reduceIte, Nat.reduceEqDiff, Nat.reduceAdd, Nat.reduceSub, Nat.reduceLT, reduceCtorEq, cond_false, ne_eq, fw, fd]))
 refine aT (ι := {i : Nat // i ≤ xs.length}) (fun i => ([(1, .ptr 3 0 j 1), (3, .fn 68 [.ptr 4 0 0 1]), (29, .int .i64 xs.length), (30, .int .i64 i.1)], [Cw 1 (b0 || (xs.take i.1).any n8), Ww 2 (l0 ++ (xs.take i.1).flatMap js).length, aU true 1 true (r8 (l0 ++ (xs.take i.1).flatMap js)), Va sz R, Bx 0])) (fun i => xs.length - i.1) ⟨0, by omega⟩ ?_ ?_
 ·simp only [List.take_zero, List.flatMap_nil, List.any_nil, Bool.or_false, List.append_nil]
  refine aJ [0, 1, 2, 3, 4] (by rfl) (by simp) (by simp [fg]) (by simp [fg])
  skip
 rintro ⟨i, hi⟩ hk
 dsimp only at hk ⊢
 by_cases hlt : i < xs.length
 ·have c1 : ((i : Int) < (xs.length : Int)) = True := by simp; omega
  obtain ⟨x, hg⟩ : ∃ x, xs[i]? = some x := ⟨_, List.getElem?_eq_getElem hlt⟩
  have hr := bR (k := .i64) hg
  have hxf := hx x (List.mem_of_getElem? hg)
  have hfm := dE js hg
  have han := cV n8 hg
  have hle := gf js xs (i + 1)
  obtain ⟨li, ei⟩ : ∃ li, li = l0 ++ (xs.take i).flatMap js := ⟨_, rfl⟩
  obtain ⟨bi, fi⟩ : ∃ bi, bi = (b0 || (xs.take i).any n8) := ⟨_, rfl⟩
  have ej : l0 ++ (xs.take (i + 1)).flatMap js = li ++ js x := by rw [ei, hfm, List.append_assoc]
  have fj : (b0 || (xs.take (i + 1)).any n8) = (bi || n8 x) := by rw [fi, han, Bool.or_assoc]
  have hlj : (li ++ js x).length ≤ 1099511627776 := by rw [← ej]; simp only [List.length_append] at hl ⊢; omega
  have hw := xP li bi x hxf hlj
  rw [← ei, ← fi]
  obtain ⟨lj, el⟩ : ∃ lj, lj = li ++ js x := ⟨_, rfl⟩
  obtain ⟨bj, fl⟩ : ∃ bj, bj = (bi || n8 x) := ⟨_, rfl⟩
  rw [← el, ← fl] at hw
  rw [← el] at ej
  rw [← fl] at fj
  have g2 : lj.length ≤ 1099511627776 := by rw [el]; exact hlj
  have g1 : li.length ≤ lj.length := by rw [el, List.length_append]; omega
  clear el fl ei fi
  have hcell : wJ x = [.int .i64 x] := rfl
  rw [hcell] at hw
  repeat' ((first | apply ai | apply ah | apply am | apply au | refine aq rfl ?_ | apply al | apply aj | apply ae | apply ak mixed | apply ap mixed | (with_reducible first | refine af ?_ | refine ar (f := .t 39) ?_ | refine ao ?_ | refine ab (hw) (by simp) ?_) | simp (disch := omega) only [bf] | ((first | refine ac ?_ ?_ | refine aa ?_ ?_) <;> intro hc <;> (try simp only [hc]) <;> try simp at hc) | (with_reducible refine ⟨?_, ?_⟩; (focus ((repeat' with_reducible refine ⟨?_, ?_⟩) <;> first | exact trivial | assumption | (simp; done) | (simp only [List.length_map] at *; omega) | omega | (simp [fs]; done) | exact ay))) | (with_reducible intro x hx) | omega) <;> (try simp only [aE, hR, c1, hr, Nat.reduceBEq, reduceIte, Nat.reduceEqDiff, Nat.reduceAdd, Nat.reduceSub, Nat.reduceLT, reduceCtorEq, ne_eq, fw, fd]))
  refine hk ⟨i + 1, by omega⟩ _ _ (by dsimp only; omega) ?_
  dsimp only
  rw [ej, fj]
  refine aJ [0, 1, 2, 3, 4] (by rfl) (by simp) (by simp [fg]) (by simp [fg])
  skip
 ·have c1 : ((i : Int) < (xs.length : Int)) = False := by simp; omega
  obtain rfl : i = xs.length := by omega
  rw [List.take_length]
  repeat' ((first | apply ai | apply ah | apply am | apply au | refine aq rfl ?_ | apply al | apply aj | apply ae | apply ak mixed | apply ap mixed | (with_reducible first | refine af ?_ | refine ao ?_) | simp (disch := omega) only [bf, aG, aN, aO, bp, Int.tdiv_eq_ediv_of_nonneg, Int.tmod_eq_emod_of_nonneg] | ((first | refine ac ?_ ?_ | refine aa ?_ ?_) <;> intro hc <;> (try simp only [hc]) <;> try simp at hc) | (with_reducible refine ⟨?_, ?_⟩; (focus ((repeat' with_reducible refine ⟨?_, ?_⟩) <;> first | exact trivial | assumption | (simp; done) | (simp only [List.length_map] at *; omega) | omega | (simp [fs]; done) | exact ay))) | (with_reducible intro x hx) | omega) <;> (try simp only [c1, Nat.reduceBEq, reduceIte, de, aY, bg, fw]))
  refine aw [0, 1, 2, 3, 4] (by rfl) (by simp) (by simp [fg])
  skip
def ju (x : Int × Int × Int) : List UInt8 := aX (zz x.1) ++ (aX (zz x.2.1) ++ aX (uI x.2.2))
def ot (x : Int × Int × Int) : Bool := decide (10080 < uI x.2.2)
def uh (x : Int × Int × Int) : List D := [.int .i64 x.1, .int .i64 x.2.1, .int .i64 x.2.2]
def xh (x : Int × Int × Int) : Prop := cR x.1 ∧ cR x.2.1 ∧ cR x.2.2
theorem wY (l : List UInt8) (bad : Bool) (x : Int × Int × Int) (hx : xh x) (hl : (l ++ ju x).length ≤ 1099511627776) :
  az Try.prog 70 [.ptr 0 0 0 1, .ptr 1 0 0 1] [Va 3 (uh x), Bx 2, Cw 3 bad, Ww 4 l.length, aU true 1 true (r8 l)] (.tup [])
   [Va 3 (uh x), Bx 2, Cw 3 (bad || ot x), Ww 4 (l ++ ju x).length, aU true 1 true (r8 (l ++ ju x))] := by
 refine aK Try.func70 low70 (by simp [c70]) ?_
 simp only [c70]
 unfold xh at hx
 obtain ⟨l1, e1⟩ : ∃ l1, l1 = l ++ aX (zz x.1) := ⟨_, rfl⟩
 obtain ⟨l2, e2⟩ : ∃ l2, l2 = l1 ++ aX (zz x.2.1) := ⟨_, rfl⟩
 obtain ⟨l3, e3⟩ : ∃ l3, l3 = l2 ++ aX (uI x.2.2) := ⟨_, rfl⟩
 obtain ⟨b3, d3⟩ : ∃ b3, b3 = (bad || decide (10080 < uI x.2.2)) := ⟨_, rfl⟩
 have el : l ++ ju x = l3 := by rw [e3, e2, e1]; simp [ju]
 have eb : (bad || ot x) = b3 := by rw [d3]; simp [ot]
 rw [el] at hl
 rw [el, eb]
 have g2 : l2.length ≤ l3.length := by rw [e3, List.length_append]; omega
 have g1 : l1.length ≤ l2.length := by rw [e2, List.length_append]; omega
 have g0 : l.length ≤ l1.length := by rw [e1, List.length_append]; omega
 have h1 := cy l bad 3 (uh x) 0 x.1 rfl hx.1 (by omega)
 rw [← e1] at h1
 have h2 := cy l1 bad 3 (uh x) 1 x.2.1 rfl hx.2.1 (by omega)
 rw [← e2] at h2
 have h3 := bF l2 bad 3 (uh x) 2 10080 x.2.2 rfl hx.2.2 (by omega) (by omega)
 rw [← e3, ← d3] at h3
 clear e1 e2 e3 d3 el eb
 repeat' ((first | apply ai | apply al | apply aj | apply ap mixed | (with_reducible first | refine af ?_ | refine aD (f := .c (.fn 39 [])) ?_ | refine aD (f := .c (.fn 32 [])) ?_ | refine aC ?_ | refine ab (h1) (by simp) ?_ | refine ab (h2) (by simp) ?_ | refine ab (h3) (by simp) ?_) | (with_reducible refine ⟨?_, ?_⟩; (focus ((repeat' with_reducible refine ⟨?_, ?_⟩) <;> first | exact trivial | assumption | (simp; done) | (simp only [List.length_map] at *; omega) | omega | (simp [fs]; done) | exact ay))) | (with_reducible intro x hx) | omega) <;> (try simp only [Nat.reduceBEq, reduceIte, Nat.reduceEqDiff, Nat.reduceAdd, Nat.reduceSub, Nat.reduceLT, reduceCtorEq, fw, fd]))
 refine aw [0, 1, 2, 3, 4] (by rfl) (by simp) (by simp [fg])
set_option maxHeartbeats 2000000 in
theorem vq (l : List UInt8) (bad : Bool) (sz : Nat) (R : List D) (j most : Nat) (xs : List (Int × Int × Int)) (hR : R[j]? = some (L (bh xs))) (hm : most < 9223372036854775808) (hxl : xs.length ≤ 140737488351232) (hx : ∀ x ∈ xs, xh x) (hl : (l ++ bn ju xs).length ≤ 1099511627776) :
  az Try.prog 69 [.ptr 0 0 0 1, .ptr 3 0 j 1, .int .i64 most, .fn 70 [.ptr 4 0 0 1]] [Cw 1 bad, Ww 2 l.length, aU true 1 true (r8 l), Va sz R, Bx 0] (.tup [])
   [Cw 1 (bad || bT ot most xs), Ww 2 (l ++ bn ju xs).length, aU true 1 true (r8 (l ++ bn ju xs)), Va sz R, Bx 0] := by
 refine aK Try.func69 low69 (by simp [c69]) ?_
 simp only [c69]
 have ui : uI (xs.length : Int) = xs.length := by unfold uI; omega
 have hll : l.length ≤ 1099511627776 := by rw [List.length_append] at hl; omega
 have hn := eg l bad 1 [.int .u64 xs.length] 0 most xs.length rfl (by omega) (by omega) hll
 rw [ui] at hn
 obtain ⟨l0, e0⟩ : ∃ l0, l0 = l ++ aX xs.length := ⟨_, rfl⟩
 obtain ⟨b0, f0⟩ : ∃ b0, b0 = (bad || decide (most < xs.length)) := ⟨_, rfl⟩
 have el : l ++ bn ju xs = l0 ++ xs.flatMap ju := by rw [e0]; simp [bn]
 have eb : (bad || bT ot most xs) = (b0 || xs.any ot) := by rw [f0]; simp [bT, Bool.or_assoc]
 rw [el] at hl
 rw [el, eb]
 rw [← e0, ← f0] at hn
 clear el eb f0
 repeat' ((first | apply ai | apply ah | apply am | apply au | refine aq rfl ?_ | apply al | apply aj | apply ae | apply ak mixed | apply ap mixed | (with_reducible first | refine af ?_ | refine ar (f := .c (.fn 34 [])) ?_ | refine ao ?_ | refine ab (hn) (by simp) ?_) | simp (disch := omega) only [aG] | ((first | refine ac ?_ ?_ | refine aa ?_ ?_) <;> intro hc <;> (try simp only [hc]) <;> try simp at hc) | (with_reducible refine ⟨?_, ?_⟩; (focus ((repeat' with_reducible refine ⟨?_, ?_⟩) <;> first | exact trivial | assumption | (simp; done) | (simp only [List.length_map] at *; omega) | omega | (simp [fs]; done) | exact ay))) | (with_reducible intro x hx) | omega) <;> (try simp only [aQ, hR, Nat.reduceBEq, reduceIte, Nat.reduceEqDiff, Nat.reduceAdd, Nat.reduceSub, Nat.reduceLT, reduceCtorEq, cond_false, ne_eq, fw, fd]))
 refine aT (ι := {i : Nat // i ≤ xs.length}) (fun i => ([(1, .ptr 3 0 j 1), (3, .fn 70 [.ptr 4 0 0 1]), (29, .int .i64 xs.length), (30, .int .i64 i.1)], [Cw 1 (b0 || (xs.take i.1).any ot), Ww 2 (l0 ++ (xs.take i.1).flatMap ju).length, aU true 1 true (r8 (l0 ++ (xs.take i.1).flatMap ju)), Va sz R, Bx 0])) (fun i => xs.length - i.1) ⟨0, by omega⟩ ?_ ?_
 ·simp only [List.take_zero, List.flatMap_nil, List.any_nil, Bool.or_false, List.append_nil]
  refine aJ [0, 1, 2, 3, 4] (by rfl) (by simp) (by simp [fg]) (by simp [fg])
  skip
 rintro ⟨i, hi⟩ hk
 dsimp only at hk ⊢
 by_cases hlt : i < xs.length
 ·have c1 : ((i : Int) < (xs.length : Int)) = True := by simp; omega
  obtain ⟨x, hg⟩ : ∃ x, xs[i]? = some x := ⟨_, List.getElem?_eq_getElem hlt⟩
  have hr := dc hg
  have hxf := hx x (List.mem_of_getElem? hg)
  have hfm := dE ju hg
  have han := cV ot hg
  have hle := gf ju xs (i + 1)
  obtain ⟨li, ei⟩ : ∃ li, li = l0 ++ (xs.take i).flatMap ju := ⟨_, rfl⟩
  obtain ⟨bi, fi⟩ : ∃ bi, bi = (b0 || (xs.take i).any ot) := ⟨_, rfl⟩
  have ej : l0 ++ (xs.take (i + 1)).flatMap ju = li ++ ju x := by rw [ei, hfm, List.append_assoc]
  have fj : (b0 || (xs.take (i + 1)).any ot) = (bi || ot x) := by rw [fi, han, Bool.or_assoc]
  have hlj : (li ++ ju x).length ≤ 1099511627776 := by rw [← ej]; simp only [List.length_append] at hl ⊢; omega
  have hw := wY li bi x hxf hlj
  rw [← ei, ← fi]
  obtain ⟨lj, el⟩ : ∃ lj, lj = li ++ ju x := ⟨_, rfl⟩
  obtain ⟨bj, fl⟩ : ∃ bj, bj = (bi || ot x) := ⟨_, rfl⟩
  rw [← el, ← fl] at hw
  rw [← el] at ej
  rw [← fl] at fj
  have g2 : lj.length ≤ 1099511627776 := by rw [el]; exact hlj
  have g1 : li.length ≤ lj.length := by rw [el, List.length_append]; omega
  clear el fl ei fi
  have hcell : uh x = [.int .i64 x.1, .int .i64 x.2.1, .int .i64 x.2.2] := rfl
  rw [hcell] at hw
  repeat' ((first | apply ai | apply ah | apply am | apply au | refine aq rfl ?_ | apply al | apply aj | apply ae | apply ak mixed | apply ap mixed | (with_reducible first | refine af ?_ | refine ar (f := .t 39) ?_ | refine ao ?_ | refine ab (hw) (by simp) ?_) | simp (disch := omega) only [bf] | ((first | refine ac ?_ ?_ | refine aa ?_ ?_) <;> intro hc <;> (try simp only [hc]) <;> try simp at hc) | (with_reducible refine ⟨?_, ?_⟩; (focus ((repeat' with_reducible refine ⟨?_, ?_⟩) <;> first | exact trivial | assumption | (simp; done) | (simp only [List.length_map] at *; omega) | omega | (simp [fs]; done) | exact ay))) | (with_reducible intro x hx) | omega) <;> (try simp only [aQ, hR, c1, hr, Nat.reduceBEq, reduceIte, Nat.reduceEqDiff, Nat.reduceAdd, Nat.reduceSub, Nat.reduceLT, reduceCtorEq, ne_eq, fw, fd]))
  refine hk ⟨i + 1, by omega⟩ _ _ (by dsimp only; omega) ?_
  dsimp only
  rw [ej, fj]
  refine aJ [0, 1, 2, 3, 4] (by rfl) (by simp) (by simp [fg]) (by simp [fg])
  skip
 ·have c1 : ((i : Int) < (xs.length : Int)) = False := by simp; omega
  obtain rfl : i = xs.length := by omega
  rw [List.take_length]
  repeat' ((first | apply ai | apply ah | apply am | apply au | refine aq rfl ?_ | apply al | apply aj | apply ae | apply ak mixed | apply ap mixed | (with_reducible first | refine af ?_ | refine ao ?_) | simp (disch := omega) only [bf, aG, aN, aO, bp, Int.tdiv_eq_ediv_of_nonneg, Int.tmod_eq_emod_of_nonneg] | ((first | refine ac ?_ ?_ | refine aa ?_ ?_) <;> intro hc <;> (try simp only [hc]) <;> try simp at hc) | (with_reducible refine ⟨?_, ?_⟩; (focus ((repeat' with_reducible refine ⟨?_, ?_⟩) <;> first | exact trivial | assumption | (simp; done) | (simp only [List.length_map] at *; omega) | omega | (simp [fs]; done) | exact ay))) | (with_reducible intro x hx) | omega) <;> (try simp only [c1, Nat.reduceBEq, reduceIte, de, aY, bg, fw]))
  refine aw [0, 1, 2, 3, 4] (by rfl) (by simp) (by simp [fg])
  skip
def jB (x : Int) : List UInt8 := aX (uI x)
def od (x : Int) : Bool := false
def xJ (x : Int) : List D := [.int .u32 x]
def wE (x : Int) : Prop := (0 ≤ x ∧ x ≤ 4294967295)
theorem xq (l : List UInt8) (bad : Bool) (x : Int) (hx : wE x) (hl : (l ++ jB x).length ≤ 1099511627776) :
  az Try.prog 72 [.ptr 0 0 0 1, .ptr 1 0 0 1] [Va 1 (xJ x), Bx 2, Cw 3 bad, Ww 4 l.length, aU true 1 true (r8 l)] (.tup [])
   [Va 1 (xJ x), Bx 2, Cw 3 (bad || od x), Ww 4 (l ++ jB x).length, aU true 1 true (r8 (l ++ jB x))] := by
 refine aK Try.func72 low72 (by simp [c72]) ?_
 simp only [c72]
 unfold wE at hx
 obtain ⟨l1, e1⟩ : ∃ l1, l1 = l ++ aX (uI x) := ⟨_, rfl⟩
 have el : l ++ jB x = l1 := by rw [e1]; simp [jB]
 have eb : (bad || od x) = bad := by simp [od]
 rw [el] at hl
 rw [el, eb]
 have g0 : l.length ≤ l1.length := by rw [e1, List.length_append]; omega
 have h1 := ce l bad 1 (xJ x) 0 x rfl hx (by omega)
 rw [← e1] at h1
 clear e1 el eb
 repeat' ((first | apply ai | apply al | apply aj | apply ak mixed | (with_reducible first | refine af ?_ | refine ar (f := .c (.fn 33 [])) ?_ | refine ao ?_ | refine ab (h1) (by simp) ?_) | (with_reducible refine ⟨?_, ?_⟩; (focus ((repeat' with_reducible refine ⟨?_, ?_⟩) <;> first | exact trivial | assumption | (simp; done) | (simp only [List.length_map] at *; omega) | omega | (simp [fs]; done) | exact ay))) | (with_reducible intro x hx) | omega) <;> (try simp only [Nat.reduceBEq, reduceIte, Nat.reduceEqDiff, Nat.reduceAdd, Nat.reduceSub, Nat.reduceLT, reduceCtorEq, fw, fd]))
 refine aw [0, 1, 2, 3, 4] (by rfl) (by simp) (by simp [fg])
set_option maxHeartbeats 2000000 in
theorem ub (l : List UInt8) (bad : Bool) (sz : Nat) (R : List D) (j most : Nat) (xs : List Int) (hR : R[j]? = some (L (aI .u32 xs))) (hm : most < 9223372036854775808) (hxl : xs.length ≤ 140737488351232) (hx : ∀ x ∈ xs, wE x) (hl : (l ++ bn jB xs).length ≤ 1099511627776) :
  az Try.prog 71 [.ptr 0 0 0 1, .ptr 3 0 j 1, .int .i64 most, .fn 72 [.ptr 4 0 0 1]] [Cw 1 bad, Ww 2 l.length, aU true 1 true (r8 l), Va sz R, Bx 0] (.tup [])
   [Cw 1 (bad || bT od most xs), Ww 2 (l ++ bn jB xs).length, aU true 1 true (r8 (l ++ bn jB xs)), Va sz R, Bx 0] := by
 refine aK Try.func71 low71 (by simp [c71]) ?_
 simp only [c71]
 have ui : uI (xs.length : Int) = xs.length := by unfold uI; omega
 have hll : l.length ≤ 1099511627776 := by rw [List.length_append] at hl; omega
 have hn := eg l bad 1 [.int .u64 xs.length] 0 most xs.length rfl (by omega) (by omega) hll
 rw [ui] at hn
 obtain ⟨l0, e0⟩ : ∃ l0, l0 = l ++ aX xs.length := ⟨_, rfl⟩
 obtain ⟨b0, f0⟩ : ∃ b0, b0 = (bad || decide (most < xs.length)) := ⟨_, rfl⟩
 have el : l ++ bn jB xs = l0 ++ xs.flatMap jB := by rw [e0]; simp [bn]
 have eb : (bad || bT od most xs) = (b0 || xs.any od) := by rw [f0]; simp [bT, Bool.or_assoc]
 rw [el] at hl
 rw [el, eb]
 rw [← e0, ← f0] at hn
 clear el eb f0
 repeat' ((first | apply ai | apply ah | apply am | apply au | refine aq rfl ?_ | apply al | apply aj | apply ae | apply ak mixed | apply ap mixed | (with_reducible first | refine af ?_ | refine ar (f := .c (.fn 34 [])) ?_ | refine ao ?_ | refine ab (hn) (by simp) ?_) | simp (disch := omega) only [aG] | ((first | refine ac ?_ ?_ | refine aa ?_ ?_) <;> intro hc <;> (try simp only [hc]) <;> try simp at hc) | (with_reducible refine ⟨?_, ?_⟩; (focus ((repeat' with_reducible refine ⟨?_, ?_⟩) <;> first | exact trivial | assumption | (simp; done) | (simp only [List.length_map] at *; omega) | omega | (simp [fs]; done) | exact ay))) | (with_reducible intro x hx) | omega) <;> (try simp only [aE, hR, Nat.reduceBEq, reduceIte, Nat.reduceEqDiff, Nat.reduceAdd, Nat.reduceSub, Nat.reduceLT, reduceCtorEq, cond_false, ne_eq, fw, fd]))
 refine aT (ι := {i : Nat // i ≤ xs.length}) (fun i => ([(1, .ptr 3 0 j 1), (3, .fn 72 [.ptr 4 0 0 1]), (29, .int .i64 xs.length), (30, .int .i64 i.1)], [Cw 1 (b0 || (xs.take i.1).any od), Ww 2 (l0 ++ (xs.take i.1).flatMap jB).length, aU true 1 true (r8 (l0 ++ (xs.take i.1).flatMap jB)), Va sz R, Bx 0])) (fun i => xs.length - i.1) ⟨0, by omega⟩ ?_ ?_
 ·simp only [List.take_zero, List.flatMap_nil, List.any_nil, Bool.or_false, List.append_nil]
  refine aJ [0, 1, 2, 3, 4] (by rfl) (by simp) (by simp [fg]) (by simp [fg])
  skip
 rintro ⟨i, hi⟩ hk
 dsimp only at hk ⊢
 by_cases hlt : i < xs.length
 ·have c1 : ((i : Int) < (xs.length : Int)) = True := by simp; omega
  obtain ⟨x, hg⟩ : ∃ x, xs[i]? = some x := ⟨_, List.getElem?_eq_getElem hlt⟩
  have hr := bR (k := .u32) hg
  have hxf := hx x (List.mem_of_getElem? hg)
  have hfm := dE jB hg
  have han := cV od hg
  have hle := gf jB xs (i + 1)
  obtain ⟨li, ei⟩ : ∃ li, li = l0 ++ (xs.take i).flatMap jB := ⟨_, rfl⟩
  obtain ⟨bi, fi⟩ : ∃ bi, bi = (b0 || (xs.take i).any od) := ⟨_, rfl⟩
  have ej : l0 ++ (xs.take (i + 1)).flatMap jB = li ++ jB x := by rw [ei, hfm, List.append_assoc]
  have fj : (b0 || (xs.take (i + 1)).any od) = (bi || od x) := by rw [fi, han, Bool.or_assoc]
  have hlj : (li ++ jB x).length ≤ 1099511627776 := by rw [← ej]; simp only [List.length_append] at hl ⊢; omega
  have hw := xq li bi x hxf hlj
  rw [← ei, ← fi]
  obtain ⟨lj, el⟩ : ∃ lj, lj = li ++ jB x := ⟨_, rfl⟩
  obtain ⟨bj, fl⟩ : ∃ bj, bj = (bi || od x) := ⟨_, rfl⟩
  rw [← el, ← fl] at hw
  rw [← el] at ej
  rw [← fl] at fj
  have g2 : lj.length ≤ 1099511627776 := by rw [el]; exact hlj
  have g1 : li.length ≤ lj.length := by rw [el, List.length_append]; omega
  clear el fl ei fi
  have hcell : xJ x = [.int .u32 x] := rfl
  rw [hcell] at hw
  repeat' ((first | apply ai | apply ah | apply am | apply au | refine aq rfl ?_ | apply al | apply aj | apply ae | apply ak mixed | apply ap mixed | (with_reducible first | refine af ?_ | refine ar (f := .t 39) ?_ | refine ao ?_ | refine ab (hw) (by simp) ?_) | simp (disch := omega) only [bf] | ((first | refine ac ?_ ?_ | refine aa ?_ ?_) <;> intro hc <;> (try simp only [hc]) <;> try simp at hc) | (with_reducible refine ⟨?_, ?_⟩; (focus ((repeat' with_reducible refine ⟨?_, ?_⟩) <;> first | exact trivial | assumption | (simp; done) | (simp only [List.length_map] at *; omega) | omega | (simp [fs]; done) | exact ay))) | (with_reducible intro x hx) | omega) <;> (try simp only [aE, hR, c1, hr, Nat.reduceBEq, reduceIte, Nat.reduceEqDiff, Nat.reduceAdd, Nat.reduceSub, Nat.reduceLT, reduceCtorEq, ne_eq, fw, fd]))
  refine hk ⟨i + 1, by omega⟩ _ _ (by dsimp only; omega) ?_
  dsimp only
  rw [ej, fj]
  refine aJ [0, 1, 2, 3, 4] (by rfl) (by simp) (by simp [fg]) (by simp [fg])
  skip
 ·have c1 : ((i : Int) < (xs.length : Int)) = False := by simp; omega
  obtain rfl : i = xs.length := by omega
  rw [List.take_length]
  repeat' ((first | apply ai | apply ah | apply am | apply au | refine aq rfl ?_ | apply al | apply aj | apply ae | apply ak mixed | apply ap mixed | (with_reducible first | refine af ?_ | refine ao ?_) | simp (disch := omega) only [bf, aG, aN, aO, bp, Int.tdiv_eq_ediv_of_nonneg, Int.tmod_eq_emod_of_nonneg] | ((first | refine ac ?_ ?_ | refine aa ?_ ?_) <;> intro hc <;> (try simp only [hc]) <;> try simp at hc) | (with_reducible refine ⟨?_, ?_⟩; (focus ((repeat' with_reducible refine ⟨?_, ?_⟩) <;> first | exact trivial | assumption | (simp; done) | (simp only [List.length_map] at *; omega) | omega | (simp [fs]; done) | exact ay))) | (with_reducible intro x hx) | omega) <;> (try simp only [c1, Nat.reduceBEq, reduceIte, de, aY, bg, fw]))
  refine aw [0, 1, 2, 3, 4] (by rfl) (by simp) (by simp [fg])
  skip
def jk (x : Int × Int) : List UInt8 := aX (uI x.1) ++ aX (uI x.2)
def n9 (x : Int × Int) : Bool := decide (1000 < uI x.2)
def vP (x : Int × Int) : List D := [.int .u32 x.1, .int .i64 x.2]
def wC (x : Int × Int) : Prop := (0 ≤ x.1 ∧ x.1 ≤ 4294967295) ∧ cR x.2
theorem wA (l : List UInt8) (bad : Bool) (x : Int × Int) (hx : wC x) (hl : (l ++ jk x).length ≤ 1099511627776) :
  az Try.prog 74 [.ptr 0 0 0 1, .ptr 1 0 0 1] [Va 2 (vP x), Bx 2, Cw 3 bad, Ww 4 l.length, aU true 1 true (r8 l)] (.tup [])
   [Va 2 (vP x), Bx 2, Cw 3 (bad || n9 x), Ww 4 (l ++ jk x).length, aU true 1 true (r8 (l ++ jk x))] := by
 refine aK Try.func74 low74 (by simp [c74]) ?_
 simp only [c74]
 unfold wC at hx
 obtain ⟨l1, e1⟩ : ∃ l1, l1 = l ++ aX (uI x.1) := ⟨_, rfl⟩
 obtain ⟨l2, e2⟩ : ∃ l2, l2 = l1 ++ aX (uI x.2) := ⟨_, rfl⟩
 obtain ⟨b2, d2⟩ : ∃ b2, b2 = (bad || decide (1000 < uI x.2)) := ⟨_, rfl⟩
 have el : l ++ jk x = l2 := by rw [e2, e1]; simp [jk]
 have eb : (bad || n9 x) = b2 := by rw [d2]; simp [n9]
 rw [el] at hl
 rw [el, eb]
 have g1 : l1.length ≤ l2.length := by rw [e2, List.length_append]; omega
 have g0 : l.length ≤ l1.length := by rw [e1, List.length_append]; omega
 have h1 := ce l bad 2 (vP x) 0 x.1 rfl hx.1 (by omega)
 rw [← e1] at h1
 have h2 := bF l1 bad 2 (vP x) 1 1000 x.2 rfl hx.2 (by omega) (by omega)
 rw [← e2, ← d2] at h2
 clear e1 e2 d2 el eb
 repeat' ((first | apply ai | apply al | apply aj | apply ap mixed | (with_reducible first | refine af ?_ | refine aD (f := .c (.fn 33 [])) ?_ | refine aD (f := .c (.fn 32 [])) ?_ | refine aC ?_ | refine ab (h1) (by simp) ?_ | refine ab (h2) (by simp) ?_) | (with_reducible refine ⟨?_, ?_⟩; (focus ((repeat' with_reducible refine ⟨?_, ?_⟩) <;> first | exact trivial | assumption | (simp; done) | (simp only [List.length_map] at *; omega) | omega | (simp [fs]; done) | exact ay))) | (with_reducible intro x hx) | omega) <;> (try simp only [Nat.reduceBEq, reduceIte, Nat.reduceEqDiff, Nat.reduceAdd, Nat.reduceSub, Nat.reduceLT, reduceCtorEq, fw, fd]))
 refine aw [0, 1, 2, 3, 4] (by rfl) (by simp) (by simp [fg])
set_option maxHeartbeats 2000000 in
theorem uH (l : List UInt8) (bad : Bool) (sz : Nat) (R : List D) (j most : Nat) (xs : List (Int × Int)) (hR : R[j]? = some (L (aS .u32 .i64 xs))) (hm : most < 9223372036854775808) (hxl : xs.length ≤ 140737488351232) (hx : ∀ x ∈ xs, wC x) (hl : (l ++ bn jk xs).length ≤ 1099511627776) :
  az Try.prog 73 [.ptr 0 0 0 1, .ptr 3 0 j 1, .int .i64 most, .fn 74 [.ptr 4 0 0 1]] [Cw 1 bad, Ww 2 l.length, aU true 1 true (r8 l), Va sz R, Bx 0] (.tup [])
   [Cw 1 (bad || bT n9 most xs), Ww 2 (l ++ bn jk xs).length, aU true 1 true (r8 (l ++ bn jk xs)), Va sz R, Bx 0] := by
 refine aK Try.func73 low73 (by simp [c73]) ?_
 simp only [c73]
 have ui : uI (xs.length : Int) = xs.length := by unfold uI; omega
 have hll : l.length ≤ 1099511627776 := by rw [List.length_append] at hl; omega
 have hn := eg l bad 1 [.int .u64 xs.length] 0 most xs.length rfl (by omega) (by omega) hll
 rw [ui] at hn
 obtain ⟨l0, e0⟩ : ∃ l0, l0 = l ++ aX xs.length := ⟨_, rfl⟩
 obtain ⟨b0, f0⟩ : ∃ b0, b0 = (bad || decide (most < xs.length)) := ⟨_, rfl⟩
 have el : l ++ bn jk xs = l0 ++ xs.flatMap jk := by rw [e0]; simp [bn]
 have eb : (bad || bT n9 most xs) = (b0 || xs.any n9) := by rw [f0]; simp [bT, Bool.or_assoc]
 rw [el] at hl
 rw [el, eb]
 rw [← e0, ← f0] at hn
 clear el eb f0
 repeat' ((first | apply ai | apply ah | apply am | apply au | refine aq rfl ?_ | apply al | apply aj | apply ae | apply ak mixed | apply ap mixed | (with_reducible first | refine af ?_ | refine ar (f := .c (.fn 34 [])) ?_ | refine ao ?_ | refine ab (hn) (by simp) ?_) | simp (disch := omega) only [aG] | ((first | refine ac ?_ ?_ | refine aa ?_ ?_) <;> intro hc <;> (try simp only [hc]) <;> try simp at hc) | (with_reducible refine ⟨?_, ?_⟩; (focus ((repeat' with_reducible refine ⟨?_, ?_⟩) <;> first | exact trivial | assumption | (simp; done) | (simp only [List.length_map] at *; omega) | omega | (simp [fs]; done) | exact ay))) | (with_reducible intro x hx) | omega) <;> (try simp only [aF, hR, Nat.reduceBEq, reduceIte, Nat.reduceEqDiff, Nat.reduceAdd, Nat.reduceSub, Nat.reduceLT, reduceCtorEq, cond_false, ne_eq, fw, fd]))
 refine aT (ι := {i : Nat // i ≤ xs.length}) (fun i => ([(1, .ptr 3 0 j 1), (3, .fn 74 [.ptr 4 0 0 1]), (29, .int .i64 xs.length), (30, .int .i64 i.1)], [Cw 1 (b0 || (xs.take i.1).any n9), Ww 2 (l0 ++ (xs.take i.1).flatMap jk).length, aU true 1 true (r8 (l0 ++ (xs.take i.1).flatMap jk)), Va sz R, Bx 0])) (fun i => xs.length - i.1) ⟨0, by omega⟩ ?_ ?_
 ·simp only [List.take_zero, List.flatMap_nil, List.any_nil, Bool.or_false, List.append_nil]
  refine aJ [0, 1, 2, 3, 4] (by rfl) (by simp) (by simp [fg]) (by simp [fg])
  skip
 rintro ⟨i, hi⟩ hk
 dsimp only at hk ⊢
 by_cases hlt : i < xs.length
 ·have c1 : ((i : Int) < (xs.length : Int)) = True := by simp; omega
  obtain ⟨x, hg⟩ : ∃ x, xs[i]? = some x := ⟨_, List.getElem?_eq_getElem hlt⟩
  have hr := bO (k := .u32) (m := .i64) hg
  have hxf := hx x (List.mem_of_getElem? hg)
  have hfm := dE jk hg
  have han := cV n9 hg
  have hle := gf jk xs (i + 1)
  obtain ⟨li, ei⟩ : ∃ li, li = l0 ++ (xs.take i).flatMap jk := ⟨_, rfl⟩
  obtain ⟨bi, fi⟩ : ∃ bi, bi = (b0 || (xs.take i).any n9) := ⟨_, rfl⟩
  have ej : l0 ++ (xs.take (i + 1)).flatMap jk = li ++ jk x := by rw [ei, hfm, List.append_assoc]
  have fj : (b0 || (xs.take (i + 1)).any n9) = (bi || n9 x) := by rw [fi, han, Bool.or_assoc]
  have hlj : (li ++ jk x).length ≤ 1099511627776 := by rw [← ej]; simp only [List.length_append] at hl ⊢; omega
  have hw := wA li bi x hxf hlj
  rw [← ei, ← fi]
  obtain ⟨lj, el⟩ : ∃ lj, lj = li ++ jk x := ⟨_, rfl⟩
  obtain ⟨bj, fl⟩ : ∃ bj, bj = (bi || n9 x) := ⟨_, rfl⟩
  rw [← el, ← fl] at hw
  rw [← el] at ej
  rw [← fl] at fj
  have g2 : lj.length ≤ 1099511627776 := by rw [el]; exact hlj
  have g1 : li.length ≤ lj.length := by rw [el, List.length_append]; omega
  clear el fl ei fi
  have hcell : vP x = [.int .u32 x.1, .int .i64 x.2] := rfl
  rw [hcell] at hw
  repeat' ((first | apply ai | apply ah | apply am | apply au | refine aq rfl ?_ | apply al | apply aj | apply ae | apply ak mixed | apply ap mixed | (with_reducible first | refine af ?_ | refine ar (f := .t 39) ?_ | refine ao ?_ | refine ab (hw) (by simp) ?_) | simp (disch := omega) only [bf] | ((first | refine ac ?_ ?_ | refine aa ?_ ?_) <;> intro hc <;> (try simp only [hc]) <;> try simp at hc) | (with_reducible refine ⟨?_, ?_⟩; (focus ((repeat' with_reducible refine ⟨?_, ?_⟩) <;> first | exact trivial | assumption | (simp; done) | (simp only [List.length_map] at *; omega) | omega | (simp [fs]; done) | exact ay))) | (with_reducible intro x hx) | omega) <;> (try simp only [aF, hR, c1, hr, Nat.reduceBEq, reduceIte, Nat.reduceEqDiff, Nat.reduceAdd, Nat.reduceSub, Nat.reduceLT, reduceCtorEq, ne_eq, fw, fd]))
  refine hk ⟨i + 1, by omega⟩ _ _ (by dsimp only; omega) ?_
  dsimp only
  rw [ej, fj]
  refine aJ [0, 1, 2, 3, 4] (by rfl) (by simp) (by simp [fg]) (by simp [fg])
  skip
 ·have c1 : ((i : Int) < (xs.length : Int)) = False := by simp; omega
  obtain rfl : i = xs.length := by omega
  rw [List.take_length]
  repeat' ((first | apply ai | apply ah | apply am | apply au | refine aq rfl ?_ | apply al | apply aj | apply ae | apply ak mixed | apply ap mixed | (with_reducible first | refine af ?_ | refine ao ?_) | simp (disch := omega) only [bf, aG, aN, aO, bp, Int.tdiv_eq_ediv_of_nonneg, Int.tmod_eq_emod_of_nonneg] | ((first | refine ac ?_ ?_ | refine aa ?_ ?_) <;> intro hc <;> (try simp only [hc]) <;> try simp at hc) | (with_reducible refine ⟨?_, ?_⟩; (focus ((repeat' with_reducible refine ⟨?_, ?_⟩) <;> first | exact trivial | assumption | (simp; done) | (simp only [List.length_map] at *; omega) | omega | (simp [fs]; done) | exact ay))) | (with_reducible intro x hx) | omega) <;> (try simp only [c1, Nat.reduceBEq, reduceIte, de, aY, bg, fw]))
  refine aw [0, 1, 2, 3, 4] (by rfl) (by simp) (by simp [fg])
  skip
def jv (x : Int × Int) : List UInt8 := aX (uI x.1) ++ aX (uI x.2)
def oh (x : Int × Int) : Bool := false
def vC (x : Int × Int) : List D := [.int .u32 x.1, .int .u32 x.2]
def wo (x : Int × Int) : Prop := (0 ≤ x.1 ∧ x.1 ≤ 4294967295) ∧ (0 ≤ x.2 ∧ x.2 ≤ 4294967295)
theorem xd (l : List UInt8) (bad : Bool) (x : Int × Int) (hx : wo x) (hl : (l ++ jv x).length ≤ 1099511627776) :
  az Try.prog 76 [.ptr 0 0 0 1, .ptr 1 0 0 1] [Va 2 (vC x), Bx 2, Cw 3 bad, Ww 4 l.length, aU true 1 true (r8 l)] (.tup [])
   [Va 2 (vC x), Bx 2, Cw 3 (bad || oh x), Ww 4 (l ++ jv x).length, aU true 1 true (r8 (l ++ jv x))] := by
 refine aK Try.func76 low76 (by simp [c76]) ?_
 simp only [c76]
 unfold wo at hx
 obtain ⟨l1, e1⟩ : ∃ l1, l1 = l ++ aX (uI x.1) := ⟨_, rfl⟩
 obtain ⟨l2, e2⟩ : ∃ l2, l2 = l1 ++ aX (uI x.2) := ⟨_, rfl⟩
 have el : l ++ jv x = l2 := by rw [e2, e1]; simp [jv]
 have eb : (bad || oh x) = bad := by simp [oh]
 rw [el] at hl
 rw [el, eb]
 have g1 : l1.length ≤ l2.length := by rw [e2, List.length_append]; omega
 have g0 : l.length ≤ l1.length := by rw [e1, List.length_append]; omega
 have h1 := ce l bad 2 (vC x) 0 x.1 rfl hx.1 (by omega)
 rw [← e1] at h1
 have h2 := ce l1 bad 2 (vC x) 1 x.2 rfl hx.2 (by omega)
 rw [← e2] at h2
 clear e1 e2 el eb
 repeat' ((first | apply ai | apply al | apply aj | apply ap mixed | (with_reducible first | refine af ?_ | refine aD (f := .c (.fn 33 [])) ?_ | refine aC ?_ | refine ab (h1) (by simp) ?_ | refine ab (h2) (by simp) ?_) | (with_reducible refine ⟨?_, ?_⟩; (focus ((repeat' with_reducible refine ⟨?_, ?_⟩) <;> first | exact trivial | assumption | (simp; done) | (simp only [List.length_map] at *; omega) | omega | (simp [fs]; done) | exact ay))) | (with_reducible intro x hx) | omega) <;> (try simp only [Nat.reduceBEq, reduceIte, Nat.reduceEqDiff, Nat.reduceAdd, Nat.reduceSub, Nat.reduceLT, reduceCtorEq, fw, fd]))
 refine aw [0, 1, 2, 3, 4] (by rfl) (by simp) (by simp [fg])
set_option maxHeartbeats 2000000 in
theorem uK (l : List UInt8) (bad : Bool) (sz : Nat) (R : List D) (j most : Nat) (xs : List (Int × Int)) (hR : R[j]? = some (L (aS .u32 .u32 xs))) (hm : most < 9223372036854775808) (hxl : xs.length ≤ 140737488351232) (hx : ∀ x ∈ xs, wo x) (hl : (l ++ bn jv xs).length ≤ 1099511627776) :
  az Try.prog 75 [.ptr 0 0 0 1, .ptr 3 0 j 1, .int .i64 most, .fn 76 [.ptr 4 0 0 1]] [Cw 1 bad, Ww 2 l.length, aU true 1 true (r8 l), Va sz R, Bx 0] (.tup [])
   [Cw 1 (bad || bT oh most xs), Ww 2 (l ++ bn jv xs).length, aU true 1 true (r8 (l ++ bn jv xs)), Va sz R, Bx 0] := by
 refine aK Try.func75 low75 (by simp [c75]) ?_
 simp only [c75]
 have ui : uI (xs.length : Int) = xs.length := by unfold uI; omega
 have hll : l.length ≤ 1099511627776 := by rw [List.length_append] at hl; omega
 have hn := eg l bad 1 [.int .u64 xs.length] 0 most xs.length rfl (by omega) (by omega) hll
 rw [ui] at hn
 obtain ⟨l0, e0⟩ : ∃ l0, l0 = l ++ aX xs.length := ⟨_, rfl⟩
 obtain ⟨b0, f0⟩ : ∃ b0, b0 = (bad || decide (most < xs.length)) := ⟨_, rfl⟩
 have el : l ++ bn jv xs = l0 ++ xs.flatMap jv := by rw [e0]; simp [bn]
 have eb : (bad || bT oh most xs) = (b0 || xs.any oh) := by rw [f0]; simp [bT, Bool.or_assoc]
 rw [el] at hl
 rw [el, eb]
 rw [← e0, ← f0] at hn
 clear el eb f0
 repeat' ((first | apply ai | apply ah | apply am | apply au | refine aq rfl ?_ | apply al | apply aj | apply ae | apply ak mixed | apply ap mixed | (with_reducible first | refine af ?_ | refine ar (f := .c (.fn 34 [])) ?_ | refine ao ?_ | refine ab (hn) (by simp) ?_) | simp (disch := omega) only [aG] | ((first | refine ac ?_ ?_ | refine aa ?_ ?_) <;> intro hc <;> (try simp only [hc]) <;> try simp at hc) | (with_reducible refine ⟨?_, ?_⟩; (focus ((repeat' with_reducible refine ⟨?_, ?_⟩) <;> first | exact trivial | assumption | (simp; done) | (simp only [List.length_map] at *; omega) | omega | (simp [fs]; done) | exact ay))) | (with_reducible intro x hx) | omega) <;> (try simp only [aF, hR, Nat.reduceBEq, reduceIte, Nat.reduceEqDiff, Nat.reduceAdd, Nat.reduceSub, Nat.reduceLT, reduceCtorEq, cond_false, ne_eq, fw, fd]))
 refine aT (ι := {i : Nat // i ≤ xs.length}) (fun i => ([(1, .ptr 3 0 j 1), (3, .fn 76 [.ptr 4 0 0 1]), (29, .int .i64 xs.length), (30, .int .i64 i.1)], [Cw 1 (b0 || (xs.take i.1).any oh), Ww 2 (l0 ++ (xs.take i.1).flatMap jv).length, aU true 1 true (r8 (l0 ++ (xs.take i.1).flatMap jv)), Va sz R, Bx 0])) (fun i => xs.length - i.1) ⟨0, by omega⟩ ?_ ?_
 ·simp only [List.take_zero, List.flatMap_nil, List.any_nil, Bool.or_false, List.append_nil]
  refine aJ [0, 1, 2, 3, 4] (by rfl) (by simp) (by simp [fg]) (by simp [fg])
  skip
 rintro ⟨i, hi⟩ hk
 dsimp only at hk ⊢
 by_cases hlt : i < xs.length
 ·have c1 : ((i : Int) < (xs.length : Int)) = True := by simp; omega
  obtain ⟨x, hg⟩ : ∃ x, xs[i]? = some x := ⟨_, List.getElem?_eq_getElem hlt⟩
  have hr := bO (k := .u32) (m := .u32) hg
  have hxf := hx x (List.mem_of_getElem? hg)
  have hfm := dE jv hg
  have han := cV oh hg
  have hle := gf jv xs (i + 1)
  obtain ⟨li, ei⟩ : ∃ li, li = l0 ++ (xs.take i).flatMap jv := ⟨_, rfl⟩
  obtain ⟨bi, fi⟩ : ∃ bi, bi = (b0 || (xs.take i).any oh) := ⟨_, rfl⟩
  have ej : l0 ++ (xs.take (i + 1)).flatMap jv = li ++ jv x := by rw [ei, hfm, List.append_assoc]
  have fj : (b0 || (xs.take (i + 1)).any oh) = (bi || oh x) := by rw [fi, han, Bool.or_assoc]
  have hlj : (li ++ jv x).length ≤ 1099511627776 := by rw [← ej]; simp only [List.length_append] at hl ⊢; omega
  have hw := xd li bi x hxf hlj
  rw [← ei, ← fi]
  obtain ⟨lj, el⟩ : ∃ lj, lj = li ++ jv x := ⟨_, rfl⟩
  obtain ⟨bj, fl⟩ : ∃ bj, bj = (bi || oh x) := ⟨_, rfl⟩
  rw [← el, ← fl] at hw
  rw [← el] at ej
  rw [← fl] at fj
  have g2 : lj.length ≤ 1099511627776 := by rw [el]; exact hlj
  have g1 : li.length ≤ lj.length := by rw [el, List.length_append]; omega
  clear el fl ei fi
  have hcell : vC x = [.int .u32 x.1, .int .u32 x.2] := rfl
  rw [hcell] at hw
  repeat' ((first | apply ai | apply ah | apply am | apply au | refine aq rfl ?_ | apply al | apply aj | apply ae | apply ak mixed | apply ap mixed | (with_reducible first | refine af ?_ | refine ar (f := .t 39) ?_ | refine ao ?_ | refine ab (hw) (by simp) ?_) | simp (disch := omega) only [bf] | ((first | refine ac ?_ ?_ | refine aa ?_ ?_) <;> intro hc <;> (try simp only [hc]) <;> try simp at hc) | (with_reducible refine ⟨?_, ?_⟩; (focus ((repeat' with_reducible refine ⟨?_, ?_⟩) <;> first | exact trivial | assumption | (simp; done) | (simp only [List.length_map] at *; omega) | omega | (simp [fs]; done) | exact ay))) | (with_reducible intro x hx) | omega) <;> (try simp only [aF, hR, c1, hr, Nat.reduceBEq, reduceIte, Nat.reduceEqDiff, Nat.reduceAdd, Nat.reduceSub, Nat.reduceLT, reduceCtorEq, ne_eq, fw, fd]))
  refine hk ⟨i + 1, by omega⟩ _ _ (by dsimp only; omega) ?_
  dsimp only
  rw [ej, fj]
  refine aJ [0, 1, 2, 3, 4] (by rfl) (by simp) (by simp [fg]) (by simp [fg])
  skip
 ·have c1 : ((i : Int) < (xs.length : Int)) = False := by simp; omega
  obtain rfl : i = xs.length := by omega
  rw [List.take_length]
  repeat' ((first | apply ai | apply ah | apply am | apply au | refine aq rfl ?_ | apply al | apply aj | apply ae | apply ak mixed | apply ap mixed | (with_reducible first | refine af ?_ | refine ao ?_) | simp (disch := omega) only [bf, aG, aN, aO, bp, Int.tdiv_eq_ediv_of_nonneg, Int.tmod_eq_emod_of_nonneg] | ((first | refine ac ?_ ?_ | refine aa ?_ ?_) <;> intro hc <;> (try simp only [hc]) <;> try simp at hc) | (with_reducible refine ⟨?_, ?_⟩; (focus ((repeat' with_reducible refine ⟨?_, ?_⟩) <;> first | exact trivial | assumption | (simp; done) | (simp only [List.length_map] at *; omega) | omega | (simp [fs]; done) | exact ay))) | (with_reducible intro x hx) | omega) <;> (try simp only [c1, Nat.reduceBEq, reduceIte, de, aY, bg, fw]))
  refine aw [0, 1, 2, 3, 4] (by rfl) (by simp) (by simp [fg])
  skip
end Go.Proofs.Ytgefljdclekadaa
