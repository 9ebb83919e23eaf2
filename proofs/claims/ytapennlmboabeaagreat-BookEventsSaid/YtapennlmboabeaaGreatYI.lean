import Derived.Test.YtapennlmboabeaaGreatYH
import Derived.Test.YtapennlmboabeaaGreatVi30
import Derived.Test.YtapennlmboabeaaGreatVi33
set_option linter.unusedVariables false
set_option linter.unusedSimpArgs false
set_option linter.unnecessarySimpa false
namespace Go.Proofs.YtapennlmboabeaaGreat
open Go Go.Vi
def nF (l : List (Int × Int × Int)) : List (List D) := l.map fun x => [.int .u32 x.1, .int .u64 x.2.1, .int .u64 x.2.2]
theorem dc {l : List (Int × Int × Int)} : (nF l).length = l.length := by simp [nF]
abbrev Bx (c : Nat) : Ob := ⟨true, false, false, false, 1, [[.ptr c 0 0 1]], some 0⟩
def cZ {α : Type} (e : α → List UInt8) (l : List α) : List UInt8 := ez l.length ++ l.flatMap e
def fO {α : Type} (x : α → Bool) (most : Nat) (l : List α) : Bool := decide (most < l.length) || l.any x
theorem oA {α : Type} (e : α → List UInt8) {l : List α} {i : Nat} {y : α} (h : l[i]? = some y) : (l.take (i + 1)).flatMap e = (l.take i).flatMap e ++ e y := by
 have : l.take (i + 1) = l.take i ++ [y] := by rw [List.take_add_one, h]; rfl
 rw [this]; simp
theorem mF {α : Type} (f : α → Bool) {l : List α} {i : Nat} {y : α} (h : l[i]? = some y) : (l.take (i + 1)).any f = ((l.take i).any f || f y) := by
 have : l.take (i + 1) = l.take i ++ [y] := by rw [List.take_add_one, h]; rfl
 rw [this]; simp
theorem u7 {α : Type} (e : α → List UInt8) (l : List α) (i : Nat) : ((l.take i).flatMap e).length ≤ (l.flatMap e).length := by
 have h : l.flatMap e = (l.take i).flatMap e ++ (l.drop i).flatMap e := by rw [← List.flatMap_append, List.take_append_drop]
 rw [h, List.length_append]; omega
theorem fV : type_of% (an @Wr.eq_1 (an @co (an @ab (an @ac (an @ae @dc))))) := (an @Wr.eq_1 (an @co (an @ab (an @ac (an @ae @dc)))))
set_option maxHeartbeats 4000000 in
theorem kJ {α : Type} {F g n b : Nat} {fn : Func} {z : List D} {rw_ : α → List D} {e : α → List UInt8} {x : α → Bool} {f : α → Prop} (hF : Tryz.prog.funcs[F]? = some fn) (hL : al Tryz.prog fn = some (iN n b (some n) z)) (hg8 : g < bB) (hnp : 0 < n)
  (hz : z.length = n) (hrl : ∀ a, (rw_ a).length = n) (hz1 : z.all D.one = true) (hz2 : z.all D.pt1 = true) (hr1 : ∀ a, (rw_ a).all D.one = true) (hr2 : ∀ a, (rw_ a).all D.pt1 = true) (hsp : ∀ a, splice z 0 (rw_ a) = rw_ a)
  (hel : ∀ (l : List UInt8) (bad : Bool) (a : α), f a → (l ++ e a).length ≤ 1099511627776 → aa Tryz.prog g [.ptr 0 0 0 1, .ptr 1 0 0 1] [Va n (rw_ a), Bx 2, Cw 3 bad, Ww 4 l.length, bw true 1 true (r8 l)] (.tup []) [Va n (rw_ a), Bx 2, Cw 3 (bad || x a), Ww 4 (l ++ e a).length, bw true 1 true (r8 (l ++ e a))])
  (l : List UInt8) (bad : Bool) (sz : Nat) (R : List D) (j most : Nat) (xs : List α) (hR : R[j]? = some (L (xs.map rw_))) (hm : most < 9223372036854775808) (hxl : xs.length ≤ 140737488351232) (hx : ∀ x ∈ xs, f x) (hl : (l ++ cZ e xs).length ≤ 1099511627776) :
  aa Tryz.prog F [.ptr 0 0 0 1, .ptr 3 0 j 1, .int .i64 most, .fn g [.ptr 4 0 0 1]] [Cw 1 bad, Ww 2 l.length, bw true 1 true (r8 l), Va sz R, Bx 0] (.tup [])
   [Cw 1 (bad || fO x most xs), Ww 2 (l ++ cZ e xs).length, bw true 1 true (r8 (l ++ cZ e xs)), Va sz R, Bx 0] := by
 refine aP hF hL (by simp [iN]) ?_
 simp only [iN]
 have ui : uI (xs.length : Int) = xs.length := by unfold uI; omega
 have hll : l.length ≤ 1099511627776 := by rw [List.length_append] at hl; omega
 have hn := pk l bad 1 [.int .u64 xs.length] 0 most xs.length rfl (by omega) (by omega) hll
 rw [ui] at hn
 obtain ⟨l0, e0⟩ : ∃ l0, l0 = l ++ ez xs.length := ⟨_, rfl⟩
 obtain ⟨b0, f0⟩ : ∃ b0, b0 = (bad || decide (most < xs.length)) := ⟨_, rfl⟩
 have el : l ++ cZ e xs = l0 ++ xs.flatMap e := by rw [e0]; simp [cZ]
 have eb : (bad || fO x most xs) = (b0 || xs.any x) := by rw [f0]; simp [fO, Bool.or_assoc]
 rw [el] at hl
 rw [el, eb]
 rw [← e0, ← f0] at hn
 clear el eb f0
 refine wk [95] [] (an fV hR) ?_
 refine av (ι := {i : Nat // i ≤ xs.length}) (fun i => ([(1, .ptr 3 0 j 1), (3, .fn g [.ptr 4 0 0 1]), (29, .int .i64 xs.length), (30, .int .i64 i.1)], [Cw 1 (b0 || (xs.take i.1).any x), Ww 2 (l0 ++ (xs.take i.1).flatMap e).length, bw true 1 true (r8 (l0 ++ (xs.take i.1).flatMap e)), Va sz R, Bx 0])) (fun i => xs.length - i.1) ⟨0, by omega⟩ ?_ ?_
 ·simp only [List.take_zero, List.flatMap_nil, List.any_nil, Bool.or_false, List.append_nil]
  exact fx [0, 1, 2, 3, 4] fV
  skip
 rintro ⟨i, hi⟩ hk
 dsimp only at hk ⊢
 by_cases hlt : i < xs.length
 ·have c1 : ((i : Int) < (xs.length : Int)) = True := by simp; omega
  obtain ⟨y, hg⟩ : ∃ y, xs[i]? = some y := ⟨_, List.getElem?_eq_getElem hlt⟩
  have hr : (xs.map rw_)[i]? = some (rw_ y) := by rw [List.getElem?_map, hg]; rfl
  have hxf := hx y (List.mem_of_getElem? hg)
  have hfm := oA e hg
  have han := mF x hg
  have hle := u7 e xs (i + 1)
  obtain ⟨li, ei⟩ : ∃ li, li = l0 ++ (xs.take i).flatMap e := ⟨_, rfl⟩
  obtain ⟨bi, fi⟩ : ∃ bi, bi = (b0 || (xs.take i).any x) := ⟨_, rfl⟩
  have ej : l0 ++ (xs.take (i + 1)).flatMap e = li ++ e y := by rw [ei, hfm, List.append_assoc]
  have fj : (b0 || (xs.take (i + 1)).any x) = (bi || x y) := by rw [fi, han, Bool.or_assoc]
  have hlj : (li ++ e y).length ≤ 1099511627776 := by rw [← ej]; simp only [List.length_append] at hl ⊢; omega
  have hw := hel li bi y hxf hlj
  rw [← ei, ← fi]
  obtain ⟨lj, el⟩ : ∃ lj, lj = li ++ e y := ⟨_, rfl⟩
  obtain ⟨bj, fl⟩ : ∃ bj, bj = (bi || x y) := ⟨_, rfl⟩
  rw [← el, ← fl] at hw
  rw [← el] at ej
  rw [← fl] at fj
  have g2 : lj.length ≤ 1099511627776 := by rw [el]; exact hlj
  have g1 : li.length ≤ lj.length := by rw [el, List.length_append]; omega
  clear el fl ei fi
  have k1 := hrl y
  have k2 := hr1 y
  have k3 := hr2 y
  have k4 := hsp y
  have k5 : (rw_ y).take n = rw_ y := by rw [← k1]; exact List.take_length
  generalize rw_ y = ry at hw hr k1 k2 k3 k4 k5
  have hdz : z.drop n = [] := by rw [← hz]; exact List.drop_length
  have hzn : (z = []) = False := eq_false (fun h => by rw [h] at hz; simp at hz; omega)
  refine wk [10039] [] (an fV (an hR (an c1 (an hr (an hz (an hzn (an hdz (an hz1 (an hz2 (an k1 (an k2 (an k3 (an k4 k5))))))))))))) ?_
  refine hk ⟨i + 1, by omega⟩ _ _ (by dsimp only; omega) ?_
  dsimp only
  rw [ej, fj]
  exact fx [0, 1, 2, 3, 4] fV
  skip
 ·have c1 : ((i : Int) < (xs.length : Int)) = False := by simp; omega
  obtain rfl : i = xs.length := by omega
  rw [List.take_length]
  refine wk [] [] (an fV c1) ?_
  exact fH [0, 1, 2, 3, 4] fV
  skip
set_option maxHeartbeats 4000000 in
theorem nE {F g b : Nat} {fn : Func} {kk : IntKind} {e : Int → List UInt8} {x : Int → Bool} {f : Int → Prop} (hF : Tryz.prog.funcs[F]? = some fn) (hL : al Tryz.prog fn = some (iN 1 b none [.int kk 0])) (hg8 : g < bB)
  (hel : ∀ (l : List UInt8) (bad : Bool) (a : Int), f a → (l ++ e a).length ≤ 1099511627776 → aa Tryz.prog g [.ptr 0 0 0 1, .ptr 1 0 0 1] [Va 1 [.int kk a], Bx 2, Cw 3 bad, Ww 4 l.length, bw true 1 true (r8 l)] (.tup []) [Va 1 [.int kk a], Bx 2, Cw 3 (bad || x a), Ww 4 (l ++ e a).length, bw true 1 true (r8 (l ++ e a))])
  (l : List UInt8) (bad : Bool) (sz : Nat) (R : List D) (j most : Nat) (xs : List Int) (hR : R[j]? = some (L (ar kk xs))) (hm : most < 9223372036854775808) (hxl : xs.length ≤ 140737488351232) (hx : ∀ x ∈ xs, f x) (hl : (l ++ cZ e xs).length ≤ 1099511627776) :
  aa Tryz.prog F [.ptr 0 0 0 1, .ptr 3 0 j 1, .int .i64 most, .fn g [.ptr 4 0 0 1]] [Cw 1 bad, Ww 2 l.length, bw true 1 true (r8 l), Va sz R, Bx 0] (.tup [])
   [Cw 1 (bad || fO x most xs), Ww 2 (l ++ cZ e xs).length, bw true 1 true (r8 (l ++ cZ e xs)), Va sz R, Bx 0] := by
 refine aP hF hL (by simp [iN]) ?_
 simp only [iN]
 have ui : uI (xs.length : Int) = xs.length := by unfold uI; omega
 have hll : l.length ≤ 1099511627776 := by rw [List.length_append] at hl; omega
 have hn := pk l bad 1 [.int .u64 xs.length] 0 most xs.length rfl (by omega) (by omega) hll
 rw [ui] at hn
 obtain ⟨l0, e0⟩ : ∃ l0, l0 = l ++ ez xs.length := ⟨_, rfl⟩
 obtain ⟨b0, f0⟩ : ∃ b0, b0 = (bad || decide (most < xs.length)) := ⟨_, rfl⟩
 have el : l ++ cZ e xs = l0 ++ xs.flatMap e := by rw [e0]; simp [cZ]
 have eb : (bad || fO x most xs) = (b0 || xs.any x) := by rw [f0]; simp [fO, Bool.or_assoc]
 rw [el] at hl
 rw [el, eb]
 rw [← e0, ← f0] at hn
 clear el eb f0
 refine wk [95] [] (an fV hR) ?_
 refine av (ι := {i : Nat // i ≤ xs.length}) (fun i => ([(1, .ptr 3 0 j 1), (3, .fn g [.ptr 4 0 0 1]), (29, .int .i64 xs.length), (30, .int .i64 i.1)], [Cw 1 (b0 || (xs.take i.1).any x), Ww 2 (l0 ++ (xs.take i.1).flatMap e).length, bw true 1 true (r8 (l0 ++ (xs.take i.1).flatMap e)), Va sz R, Bx 0])) (fun i => xs.length - i.1) ⟨0, by omega⟩ ?_ ?_
 ·simp only [List.take_zero, List.flatMap_nil, List.any_nil, Bool.or_false, List.append_nil]
  exact fx [0, 1, 2, 3, 4] fV
  skip
 rintro ⟨i, hi⟩ hk
 dsimp only at hk ⊢
 by_cases hlt : i < xs.length
 ·have c1 : ((i : Int) < (xs.length : Int)) = True := by simp; omega
  obtain ⟨y, hg⟩ : ∃ y, xs[i]? = some y := ⟨_, List.getElem?_eq_getElem hlt⟩
  have hr := eE (k := kk) hg
  have hxf := hx y (List.mem_of_getElem? hg)
  have hfm := oA e hg
  have han := mF x hg
  have hle := u7 e xs (i + 1)
  obtain ⟨li, ei⟩ : ∃ li, li = l0 ++ (xs.take i).flatMap e := ⟨_, rfl⟩
  obtain ⟨bi, fi⟩ : ∃ bi, bi = (b0 || (xs.take i).any x) := ⟨_, rfl⟩
  have ej : l0 ++ (xs.take (i + 1)).flatMap e = li ++ e y := by rw [ei, hfm, List.append_assoc]
  have fj : (b0 || (xs.take (i + 1)).any x) = (bi || x y) := by rw [fi, han, Bool.or_assoc]
  have hlj : (li ++ e y).length ≤ 1099511627776 := by rw [← ej]; simp only [List.length_append] at hl ⊢; omega
  have hw := hel li bi y hxf hlj
  rw [← ei, ← fi]
  obtain ⟨lj, el⟩ : ∃ lj, lj = li ++ e y := ⟨_, rfl⟩
  obtain ⟨bj, fl⟩ : ∃ bj, bj = (bi || x y) := ⟨_, rfl⟩
  rw [← el, ← fl] at hw
  rw [← el] at ej
  rw [← fl] at fj
  have g2 : lj.length ≤ 1099511627776 := by rw [el]; exact hlj
  have g1 : li.length ≤ lj.length := by rw [el, List.length_append]; omega
  clear el fl ei fi
  refine wk [10039] [] (an fV (an hR (an c1 hr))) ?_
  refine hk ⟨i + 1, by omega⟩ _ _ (by dsimp only; omega) ?_
  dsimp only
  rw [ej, fj]
  exact fx [0, 1, 2, 3, 4] fV
  skip
 ·have c1 : ((i : Int) < (xs.length : Int)) = False := by simp; omega
  obtain rfl : i = xs.length := by omega
  rw [List.take_length]
  refine wk [] [] (an fV c1) ?_
  exact fH [0, 1, 2, 3, 4] fV
  skip
def u1 (x : Int × Int) : List UInt8 := ez (zz x.1) ++ ez (zz x.2)
def Bd (x : Int × Int) : Bool := decide (x.2 < (-900) ∨ 900 < x.2)
def AH (x : Int × Int) : List D := [.int .i64 x.1, .int .i64 x.2]
def Cl (x : Int × Int) : Prop := iY x.1 ∧ iY x.2
theorem B0 (l : List UInt8) (bad : Bool) (x : Int × Int) (hx : Cl x) (hl : (l ++ u1 x).length ≤ 1099511627776) :
  aa Tryz.prog 172 [.ptr 0 0 0 1, .ptr 1 0 0 1] [Va 2 (AH x), Bx 2, Cw 3 bad, Ww 4 l.length, bw true 1 true (r8 l)] (.tup [])
   [Va 2 (AH x), Bx 2, Cw 3 (bad || Bd x), Ww 4 (l ++ u1 x).length, bw true 1 true (r8 (l ++ u1 x))] := by
 refine aP Tryz.func172 low172 (by simp [c172]) ?_
 simp only [c172]
 unfold Cl at hx
 obtain ⟨l1, e1⟩ : ∃ l1, l1 = l ++ ez (zz x.1) := ⟨_, rfl⟩
 obtain ⟨l2, e2⟩ : ∃ l2, l2 = l1 ++ ez (zz x.2) := ⟨_, rfl⟩
 obtain ⟨b2, d2⟩ : ∃ b2, b2 = (bad || decide (x.2 < (-900) ∨ 900 < x.2)) := ⟨_, rfl⟩
 have el : l ++ u1 x = l2 := by rw [e2, e1]; simp [u1]
 have eb : (bad || Bd x) = b2 := by rw [d2]; simp [Bd, Bool.or_assoc]
 rw [el] at hl
 rw [el, eb]
 have g1 : l1.length ≤ l2.length := by rw [e2, List.length_append]; omega
 have g0 : l.length ≤ l1.length := by rw [e1, List.length_append]; omega
 have h1 := gJ l bad 2 (AH x) 0 x.1 rfl hx.1 (by omega)
 rw [← e1] at h1
 have h2 := rW l1 bad 2 (AH x) 1 x.2 (-900) 900 rfl hx.2 (by omega)
 rw [← e2, ← d2] at h2
 clear e1 e2 d2 el eb
 refine wk [87, 170] [] fV ?_
 exact fH [0, 1, 2, 3, 4] fV
theorem Ah (l : List UInt8) (bad : Bool) (sz : Nat) (R : List D) (j most : Nat) (xs : List (Int × Int)) (hR : R[j]? = some (L (bz .i64 .i64 xs))) (hm : most < 9223372036854775808) (hxl : xs.length ≤ 140737488351232) (hx : ∀ x ∈ xs, Cl x) (hl : (l ++ cZ u1 xs).length ≤ 1099511627776) :
  aa Tryz.prog 171 [.ptr 0 0 0 1, .ptr 3 0 j 1, .int .i64 most, .fn 172 [.ptr 4 0 0 1]] [Cw 1 bad, Ww 2 l.length, bw true 1 true (r8 l), Va sz R, Bx 0] (.tup [])
   [Cw 1 (bad || fO Bd most xs), Ww 2 (l ++ cZ u1 xs).length, bw true 1 true (r8 (l ++ cZ u1 xs)), Va sz R, Bx 0] :=
 kJ (rw_ := AH) Tryz.func171 low171 (by decide) (by decide) rfl (fun _ => rfl) rfl rfl (fun _ => rfl) (fun _ => rfl) (fun _ => rfl) (fun l bad a => B0 l bad a) l bad sz R j most xs hR hm hxl hx hl
def uX (x : Int × Int × Int) : List UInt8 := ez (uI x.1) ++ (ez (uI x.2.1) ++ ez (uI x.2.2))
def Ba (x : Int × Int × Int) : Bool := (decide (127 < uI x.1) || (decide (1440 < uI x.2.1) || decide (1440 < uI x.2.2)))
def yJ (x : Int × Int × Int) : List D := [.int .i64 x.1, .int .i64 x.2.1, .int .i64 x.2.2]
def Ch (x : Int × Int × Int) : Prop := iY x.1 ∧ iY x.2.1 ∧ iY x.2.2
theorem BU (l : List UInt8) (bad : Bool) (x : Int × Int × Int) (hx : Ch x) (hl : (l ++ uX x).length ≤ 1099511627776) :
  aa Tryz.prog 174 [.ptr 0 0 0 1, .ptr 1 0 0 1] [Va 3 (yJ x), Bx 2, Cw 3 bad, Ww 4 l.length, bw true 1 true (r8 l)] (.tup [])
   [Va 3 (yJ x), Bx 2, Cw 3 (bad || Ba x), Ww 4 (l ++ uX x).length, bw true 1 true (r8 (l ++ uX x))] := by
 refine aP Tryz.func174 low174 (by simp [c174]) ?_
 simp only [c174]
 unfold Ch at hx
 obtain ⟨l1, e1⟩ : ∃ l1, l1 = l ++ ez (uI x.1) := ⟨_, rfl⟩
 obtain ⟨b1, d1⟩ : ∃ b1, b1 = (bad || decide (127 < uI x.1)) := ⟨_, rfl⟩
 obtain ⟨l2, e2⟩ : ∃ l2, l2 = l1 ++ ez (uI x.2.1) := ⟨_, rfl⟩
 obtain ⟨b2, d2⟩ : ∃ b2, b2 = (b1 || decide (1440 < uI x.2.1)) := ⟨_, rfl⟩
 obtain ⟨l3, e3⟩ : ∃ l3, l3 = l2 ++ ez (uI x.2.2) := ⟨_, rfl⟩
 obtain ⟨b3, d3⟩ : ∃ b3, b3 = (b2 || decide (1440 < uI x.2.2)) := ⟨_, rfl⟩
 have el : l ++ uX x = l3 := by rw [e3, e2, e1]; simp [uX]
 have eb : (bad || Ba x) = b3 := by rw [d3, d2, d1]; simp [Ba, Bool.or_assoc]
 rw [el] at hl
 rw [el, eb]
 have g2 : l2.length ≤ l3.length := by rw [e3, List.length_append]; omega
 have g1 : l1.length ≤ l2.length := by rw [e2, List.length_append]; omega
 have g0 : l.length ≤ l1.length := by rw [e1, List.length_append]; omega
 have h1 := gZ l bad 3 (yJ x) 0 127 x.1 rfl hx.1 (by omega) (by omega)
 rw [← e1, ← d1] at h1
 have h2 := gZ l1 b1 3 (yJ x) 1 1440 x.2.1 rfl hx.2.1 (by omega) (by omega)
 rw [← e2, ← d2] at h2
 have h3 := gZ l2 b2 3 (yJ x) 2 1440 x.2.2 rfl hx.2.2 (by omega) (by omega)
 rw [← e3, ← d3] at h3
 clear e1 e2 e3 d1 d2 d3 el eb
 refine wk [131] [] fV ?_
 exact fH [0, 1, 2, 3, 4] fV
theorem Ab (l : List UInt8) (bad : Bool) (sz : Nat) (R : List D) (j most : Nat) (xs : List (Int × Int × Int)) (hR : R[j]? = some (L (ed xs))) (hm : most < 9223372036854775808) (hxl : xs.length ≤ 140737488351232) (hx : ∀ x ∈ xs, Ch x) (hl : (l ++ cZ uX xs).length ≤ 1099511627776) :
  aa Tryz.prog 173 [.ptr 0 0 0 1, .ptr 3 0 j 1, .int .i64 most, .fn 174 [.ptr 4 0 0 1]] [Cw 1 bad, Ww 2 l.length, bw true 1 true (r8 l), Va sz R, Bx 0] (.tup [])
   [Cw 1 (bad || fO Ba most xs), Ww 2 (l ++ cZ uX xs).length, bw true 1 true (r8 (l ++ cZ uX xs)), Va sz R, Bx 0] :=
 kJ (rw_ := yJ) Tryz.func173 low173 (by decide) (by decide) rfl (fun _ => rfl) rfl rfl (fun _ => rfl) (fun _ => rfl) (fun _ => rfl) (fun l bad a => BU l bad a) l bad sz R j most xs hR hm hxl hx hl
def uU (x : Int) : List UInt8 := ez (uI x)
def A7 (x : Int) : Bool := decide (109937 < uI x)
def cOf (x : Int) : List D := [.int .i64 x]
def Cc (x : Int) : Prop := iY x
theorem BO (l : List UInt8) (bad : Bool) (x : Int) (hx : Cc x) (hl : (l ++ uU x).length ≤ 1099511627776) :
  aa Tryz.prog 152 [.ptr 0 0 0 1, .ptr 1 0 0 1] [Va 1 (cOf x), Bx 2, Cw 3 bad, Ww 4 l.length, bw true 1 true (r8 l)] (.tup [])
   [Va 1 (cOf x), Bx 2, Cw 3 (bad || A7 x), Ww 4 (l ++ uU x).length, bw true 1 true (r8 (l ++ uU x))] := by
 refine aP Tryz.func152 low152 (by simp [c152]) ?_
 simp only [c152]
 unfold Cc at hx
 obtain ⟨l1, e1⟩ : ∃ l1, l1 = l ++ ez (uI x) := ⟨_, rfl⟩
 obtain ⟨b1, d1⟩ : ∃ b1, b1 = (bad || decide (109937 < uI x)) := ⟨_, rfl⟩
 have el : l ++ uU x = l1 := by rw [e1]; simp [uU]
 have eb : (bad || A7 x) = b1 := by rw [d1]; simp [A7, Bool.or_assoc]
 rw [el] at hl
 rw [el, eb]
 have g0 : l.length ≤ l1.length := by rw [e1, List.length_append]; omega
 have h1 := gZ l bad 1 (cOf x) 0 109937 x rfl hx (by omega) (by omega)
 rw [← e1, ← d1] at h1
 clear e1 d1 el eb
 refine wk [131] [] fV ?_
 exact fH [0, 1, 2, 3, 4] fV
theorem zS (l : List UInt8) (bad : Bool) (sz : Nat) (R : List D) (j most : Nat) (xs : List Int) (hR : R[j]? = some (L (ar .i64 xs))) (hm : most < 9223372036854775808) (hxl : xs.length ≤ 140737488351232) (hx : ∀ x ∈ xs, Cc x) (hl : (l ++ cZ uU xs).length ≤ 1099511627776) :
  aa Tryz.prog 151 [.ptr 0 0 0 1, .ptr 3 0 j 1, .int .i64 most, .fn 152 [.ptr 4 0 0 1]] [Cw 1 bad, Ww 2 l.length, bw true 1 true (r8 l), Va sz R, Bx 0] (.tup [])
   [Cw 1 (bad || fO A7 most xs), Ww 2 (l ++ cZ uU xs).length, bw true 1 true (r8 (l ++ cZ uU xs)), Va sz R, Bx 0] :=
 nE (kk := .i64) Tryz.func151 low151 (by decide) (fun l bad a => BO l bad a) l bad sz R j most xs hR hm hxl hx hl
def uY (x : Int) : List UInt8 := ez (zz x)
def Bb (x : Int) : Bool := decide (x < (-400) ∨ 400 < x)
def cSm (x : Int) : List D := [.int .i64 x]
def Ci (x : Int) : Prop := iY x
theorem BW (l : List UInt8) (bad : Bool) (x : Int) (hx : Ci x) (hl : (l ++ uY x).length ≤ 1099511627776) :
  aa Tryz.prog 180 [.ptr 0 0 0 1, .ptr 1 0 0 1] [Va 1 (cSm x), Bx 2, Cw 3 bad, Ww 4 l.length, bw true 1 true (r8 l)] (.tup [])
   [Va 1 (cSm x), Bx 2, Cw 3 (bad || Bb x), Ww 4 (l ++ uY x).length, bw true 1 true (r8 (l ++ uY x))] := by
 refine aP Tryz.func180 low180 (by simp [c180]) ?_
 simp only [c180]
 unfold Ci at hx
 obtain ⟨l1, e1⟩ : ∃ l1, l1 = l ++ ez (zz x) := ⟨_, rfl⟩
 obtain ⟨b1, d1⟩ : ∃ b1, b1 = (bad || decide (x < (-400) ∨ 400 < x)) := ⟨_, rfl⟩
 have el : l ++ uY x = l1 := by rw [e1]; simp [uY]
 have eb : (bad || Bb x) = b1 := by rw [d1]; simp [Bb, Bool.or_assoc]
 rw [el] at hl
 rw [el, eb]
 have g0 : l.length ≤ l1.length := by rw [e1, List.length_append]; omega
 have h1 := rW l bad 1 (cSm x) 0 x (-400) 400 rfl hx (by omega)
 rw [← e1, ← d1] at h1
 clear e1 d1 el eb
 refine wk [170] [] fV ?_
 exact fH [0, 1, 2, 3, 4] fV
theorem Ad (l : List UInt8) (bad : Bool) (sz : Nat) (R : List D) (j most : Nat) (xs : List Int) (hR : R[j]? = some (L (ar .i64 xs))) (hm : most < 9223372036854775808) (hxl : xs.length ≤ 140737488351232) (hx : ∀ x ∈ xs, Ci x) (hl : (l ++ cZ uY xs).length ≤ 1099511627776) :
  aa Tryz.prog 151 [.ptr 0 0 0 1, .ptr 3 0 j 1, .int .i64 most, .fn 180 [.ptr 4 0 0 1]] [Cw 1 bad, Ww 2 l.length, bw true 1 true (r8 l), Va sz R, Bx 0] (.tup [])
   [Cw 1 (bad || fO Bb most xs), Ww 2 (l ++ cZ uY xs).length, bw true 1 true (r8 (l ++ cZ uY xs)), Va sz R, Bx 0] :=
 nE (kk := .i64) Tryz.func151 low151 (by decide) (fun l bad a => BW l bad a) l bad sz R j most xs hR hm hxl hx hl
def uQ (x : Int × Int) : List UInt8 := ez (zz x.1) ++ ez (uI x.2)
def A4 (x : Int × Int) : Bool := (decide (x.1 < (-5) ∨ 5 < x.1) || decide (6 < uI x.2))
def AD (x : Int × Int) : List D := [.int .i64 x.1, .int .i64 x.2]
def B8 (x : Int × Int) : Prop := iY x.1 ∧ iY x.2
theorem BE (l : List UInt8) (bad : Bool) (x : Int × Int) (hx : B8 x) (hl : (l ++ uQ x).length ≤ 1099511627776) :
  aa Tryz.prog 179 [.ptr 0 0 0 1, .ptr 1 0 0 1] [Va 2 (AD x), Bx 2, Cw 3 bad, Ww 4 l.length, bw true 1 true (r8 l)] (.tup [])
   [Va 2 (AD x), Bx 2, Cw 3 (bad || A4 x), Ww 4 (l ++ uQ x).length, bw true 1 true (r8 (l ++ uQ x))] := by
 refine aP Tryz.func179 low179 (by simp [c179]) ?_
 simp only [c179]
 unfold B8 at hx
 obtain ⟨l1, e1⟩ : ∃ l1, l1 = l ++ ez (zz x.1) := ⟨_, rfl⟩
 obtain ⟨b1, d1⟩ : ∃ b1, b1 = (bad || decide (x.1 < (-5) ∨ 5 < x.1)) := ⟨_, rfl⟩
 obtain ⟨l2, e2⟩ : ∃ l2, l2 = l1 ++ ez (uI x.2) := ⟨_, rfl⟩
 obtain ⟨b2, d2⟩ : ∃ b2, b2 = (b1 || decide (6 < uI x.2)) := ⟨_, rfl⟩
 have el : l ++ uQ x = l2 := by rw [e2, e1]; simp [uQ]
 have eb : (bad || A4 x) = b2 := by rw [d2, d1]; simp [A4, Bool.or_assoc]
 rw [el] at hl
 rw [el, eb]
 have g1 : l1.length ≤ l2.length := by rw [e2, List.length_append]; omega
 have g0 : l.length ≤ l1.length := by rw [e1, List.length_append]; omega
 have h1 := rW l bad 2 (AD x) 0 x.1 (-5) 5 rfl hx.1 (by omega)
 rw [← e1, ← d1] at h1
 have h2 := gZ l1 b1 2 (AD x) 1 6 x.2 rfl hx.2 (by omega) (by omega)
 rw [← e2, ← d2] at h2
 clear e1 e2 d1 d2 el eb
 refine wk [170, 131] [] fV ?_
 exact fH [0, 1, 2, 3, 4] fV
theorem zH (l : List UInt8) (bad : Bool) (sz : Nat) (R : List D) (j most : Nat) (xs : List (Int × Int)) (hR : R[j]? = some (L (bz .i64 .i64 xs))) (hm : most < 9223372036854775808) (hxl : xs.length ≤ 140737488351232) (hx : ∀ x ∈ xs, B8 x) (hl : (l ++ cZ uQ xs).length ≤ 1099511627776) :
  aa Tryz.prog 178 [.ptr 0 0 0 1, .ptr 3 0 j 1, .int .i64 most, .fn 179 [.ptr 4 0 0 1]] [Cw 1 bad, Ww 2 l.length, bw true 1 true (r8 l), Va sz R, Bx 0] (.tup [])
   [Cw 1 (bad || fO A4 most xs), Ww 2 (l ++ cZ uQ xs).length, bw true 1 true (r8 (l ++ cZ uQ xs)), Va sz R, Bx 0] :=
 kJ (rw_ := AD) Tryz.func178 low178 (by decide) (by decide) rfl (fun _ => rfl) rfl rfl (fun _ => rfl) (fun _ => rfl) (fun _ => rfl) (fun l bad a => BE l bad a) l bad sz R j most xs hR hm hxl hx hl
def uS (x : Int) : List UInt8 := ez (zz x)
def A5 (x : Int) : Bool := false
def cEx (x : Int) : List D := [.int .i64 x]
def Ca (x : Int) : Prop := iY x
theorem BK (l : List UInt8) (bad : Bool) (x : Int) (hx : Ca x) (hl : (l ++ uS x).length ≤ 1099511627776) :
  aa Tryz.prog 155 [.ptr 0 0 0 1, .ptr 1 0 0 1] [Va 1 (cEx x), Bx 2, Cw 3 bad, Ww 4 l.length, bw true 1 true (r8 l)] (.tup [])
   [Va 1 (cEx x), Bx 2, Cw 3 (bad || A5 x), Ww 4 (l ++ uS x).length, bw true 1 true (r8 (l ++ uS x))] := by
 refine aP Tryz.func155 low155 (by simp [c155]) ?_
 simp only [c155]
 unfold Ca at hx
 obtain ⟨l1, e1⟩ : ∃ l1, l1 = l ++ ez (zz x) := ⟨_, rfl⟩
 have el : l ++ uS x = l1 := by rw [e1]; simp [uS]
 have eb : (bad || A5 x) = bad := by simp [A5, Bool.or_assoc]
 rw [el] at hl
 rw [el, eb]
 have g0 : l.length ≤ l1.length := by rw [e1, List.length_append]; omega
 have h1 := gJ l bad 1 (cEx x) 0 x rfl hx (by omega)
 rw [← e1] at h1
 clear e1 el eb
 refine wk [87] [] fV ?_
 exact fH [0, 1, 2, 3, 4] fV
theorem zN (l : List UInt8) (bad : Bool) (sz : Nat) (R : List D) (j most : Nat) (xs : List Int) (hR : R[j]? = some (L (ar .i64 xs))) (hm : most < 9223372036854775808) (hxl : xs.length ≤ 140737488351232) (hx : ∀ x ∈ xs, Ca x) (hl : (l ++ cZ uS xs).length ≤ 1099511627776) :
  aa Tryz.prog 127 [.ptr 0 0 0 1, .ptr 3 0 j 1, .int .i64 most, .fn 155 [.ptr 4 0 0 1]] [Cw 1 bad, Ww 2 l.length, bw true 1 true (r8 l), Va sz R, Bx 0] (.tup [])
   [Cw 1 (bad || fO A5 most xs), Ww 2 (l ++ cZ uS xs).length, bw true 1 true (r8 (l ++ cZ uS xs)), Va sz R, Bx 0] :=
 nE (kk := .i64) Tryz.func127 low127 (by decide) (fun l bad a => BK l bad a) l bad sz R j most xs hR hm hxl hx hl
def uW (x : Int) : List UInt8 := ez (zz x)
def A9 (x : Int) : Bool := false
def cPl (x : Int) : List D := [.int .i64 x]
def Ce (x : Int) : Prop := iY x
theorem BS (l : List UInt8) (bad : Bool) (x : Int) (hx : Ce x) (hl : (l ++ uW x).length ≤ 1099511627776) :
  aa Tryz.prog 156 [.ptr 0 0 0 1, .ptr 1 0 0 1] [Va 1 (cPl x), Bx 2, Cw 3 bad, Ww 4 l.length, bw true 1 true (r8 l)] (.tup [])
   [Va 1 (cPl x), Bx 2, Cw 3 (bad || A9 x), Ww 4 (l ++ uW x).length, bw true 1 true (r8 (l ++ uW x))] := by
 refine aP Tryz.func156 low156 (by simp [c156]) ?_
 simp only [c156]
 unfold Ce at hx
 obtain ⟨l1, e1⟩ : ∃ l1, l1 = l ++ ez (zz x) := ⟨_, rfl⟩
 have el : l ++ uW x = l1 := by rw [e1]; simp [uW]
 have eb : (bad || A9 x) = bad := by simp [A9, Bool.or_assoc]
 rw [el] at hl
 rw [el, eb]
 have g0 : l.length ≤ l1.length := by rw [e1, List.length_append]; omega
 have h1 := gJ l bad 1 (cPl x) 0 x rfl hx (by omega)
 rw [← e1] at h1
 clear e1 el eb
 refine wk [87] [] fV ?_
 exact fH [0, 1, 2, 3, 4] fV
theorem zX (l : List UInt8) (bad : Bool) (sz : Nat) (R : List D) (j most : Nat) (xs : List Int) (hR : R[j]? = some (L (ar .i64 xs))) (hm : most < 9223372036854775808) (hxl : xs.length ≤ 140737488351232) (hx : ∀ x ∈ xs, Ce x) (hl : (l ++ cZ uW xs).length ≤ 1099511627776) :
  aa Tryz.prog 127 [.ptr 0 0 0 1, .ptr 3 0 j 1, .int .i64 most, .fn 156 [.ptr 4 0 0 1]] [Cw 1 bad, Ww 2 l.length, bw true 1 true (r8 l), Va sz R, Bx 0] (.tup [])
   [Cw 1 (bad || fO A9 most xs), Ww 2 (l ++ cZ uW xs).length, bw true 1 true (r8 (l ++ cZ uW xs)), Va sz R, Bx 0] :=
 nE (kk := .i64) Tryz.func127 low127 (by decide) (fun l bad a => BS l bad a) l bad sz R j most xs hR hm hxl hx hl
def uP (x : Int × Int × Int) : List UInt8 := ez (zz x.1) ++ (ez (zz x.2.1) ++ ez (uI x.2.2))
def A3 (x : Int × Int × Int) : Bool := decide (10080 < uI x.2.2)
def yH (x : Int × Int × Int) : List D := [.int .i64 x.1, .int .i64 x.2.1, .int .i64 x.2.2]
def B7 (x : Int × Int × Int) : Prop := iY x.1 ∧ iY x.2.1 ∧ iY x.2.2
theorem BC (l : List UInt8) (bad : Bool) (x : Int × Int × Int) (hx : B7 x) (hl : (l ++ uP x).length ≤ 1099511627776) :
  aa Tryz.prog 158 [.ptr 0 0 0 1, .ptr 1 0 0 1] [Va 3 (yH x), Bx 2, Cw 3 bad, Ww 4 l.length, bw true 1 true (r8 l)] (.tup [])
   [Va 3 (yH x), Bx 2, Cw 3 (bad || A3 x), Ww 4 (l ++ uP x).length, bw true 1 true (r8 (l ++ uP x))] := by
 refine aP Tryz.func158 low158 (by simp [c158]) ?_
 simp only [c158]
 unfold B7 at hx
 obtain ⟨l1, e1⟩ : ∃ l1, l1 = l ++ ez (zz x.1) := ⟨_, rfl⟩
 obtain ⟨l2, e2⟩ : ∃ l2, l2 = l1 ++ ez (zz x.2.1) := ⟨_, rfl⟩
 obtain ⟨l3, e3⟩ : ∃ l3, l3 = l2 ++ ez (uI x.2.2) := ⟨_, rfl⟩
 obtain ⟨b3, d3⟩ : ∃ b3, b3 = (bad || decide (10080 < uI x.2.2)) := ⟨_, rfl⟩
 have el : l ++ uP x = l3 := by rw [e3, e2, e1]; simp [uP]
 have eb : (bad || A3 x) = b3 := by rw [d3]; simp [A3, Bool.or_assoc]
 rw [el] at hl
 rw [el, eb]
 have g2 : l2.length ≤ l3.length := by rw [e3, List.length_append]; omega
 have g1 : l1.length ≤ l2.length := by rw [e2, List.length_append]; omega
 have g0 : l.length ≤ l1.length := by rw [e1, List.length_append]; omega
 have h1 := gJ l bad 3 (yH x) 0 x.1 rfl hx.1 (by omega)
 rw [← e1] at h1
 have h2 := gJ l1 bad 3 (yH x) 1 x.2.1 rfl hx.2.1 (by omega)
 rw [← e2] at h2
 have h3 := gZ l2 bad 3 (yH x) 2 10080 x.2.2 rfl hx.2.2 (by omega) (by omega)
 rw [← e3, ← d3] at h3
 clear e1 e2 e3 d3 el eb
 refine wk [87, 131] [] fV ?_
 exact fH [0, 1, 2, 3, 4] fV
theorem zF (l : List UInt8) (bad : Bool) (sz : Nat) (R : List D) (j most : Nat) (xs : List (Int × Int × Int)) (hR : R[j]? = some (L (ed xs))) (hm : most < 9223372036854775808) (hxl : xs.length ≤ 140737488351232) (hx : ∀ x ∈ xs, B7 x) (hl : (l ++ cZ uP xs).length ≤ 1099511627776) :
  aa Tryz.prog 157 [.ptr 0 0 0 1, .ptr 3 0 j 1, .int .i64 most, .fn 158 [.ptr 4 0 0 1]] [Cw 1 bad, Ww 2 l.length, bw true 1 true (r8 l), Va sz R, Bx 0] (.tup [])
   [Cw 1 (bad || fO A3 most xs), Ww 2 (l ++ cZ uP xs).length, bw true 1 true (r8 (l ++ cZ uP xs)), Va sz R, Bx 0] :=
 kJ (rw_ := yH) Tryz.func157 low157 (by decide) (by decide) rfl (fun _ => rfl) rfl rfl (fun _ => rfl) (fun _ => rfl) (fun _ => rfl) (fun l bad a => BC l bad a) l bad sz R j most xs hR hm hxl hx hl
def uT (x : Int) : List UInt8 := ez (uI x)
def A6 (x : Int) : Bool := false
def cMu (x : Int) : List D := [.int .u32 x]
def Cb (x : Int) : Prop := (0 ≤ x ∧ x ≤ 4294967295)
theorem BM (l : List UInt8) (bad : Bool) (x : Int) (hx : Cb x) (hl : (l ++ uT x).length ≤ 1099511627776) :
  aa Tryz.prog 160 [.ptr 0 0 0 1, .ptr 1 0 0 1] [Va 1 (cMu x), Bx 2, Cw 3 bad, Ww 4 l.length, bw true 1 true (r8 l)] (.tup [])
   [Va 1 (cMu x), Bx 2, Cw 3 (bad || A6 x), Ww 4 (l ++ uT x).length, bw true 1 true (r8 (l ++ uT x))] := by
 refine aP Tryz.func160 low160 (by simp [c160]) ?_
 simp only [c160]
 unfold Cb at hx
 obtain ⟨l1, e1⟩ : ∃ l1, l1 = l ++ ez (uI x) := ⟨_, rfl⟩
 have el : l ++ uT x = l1 := by rw [e1]; simp [uT]
 have eb : (bad || A6 x) = bad := by simp [A6, Bool.or_assoc]
 rw [el] at hl
 rw [el, eb]
 have g0 : l.length ≤ l1.length := by rw [e1, List.length_append]; omega
 have h1 := kg l bad 1 (cMu x) 0 x rfl hx (by omega)
 rw [← e1] at h1
 clear e1 el eb
 refine wk [94] [] fV ?_
 exact fH [0, 1, 2, 3, 4] fV
theorem zQ (l : List UInt8) (bad : Bool) (sz : Nat) (R : List D) (j most : Nat) (xs : List Int) (hR : R[j]? = some (L (ar .u32 xs))) (hm : most < 9223372036854775808) (hxl : xs.length ≤ 140737488351232) (hx : ∀ x ∈ xs, Cb x) (hl : (l ++ cZ uT xs).length ≤ 1099511627776) :
  aa Tryz.prog 159 [.ptr 0 0 0 1, .ptr 3 0 j 1, .int .i64 most, .fn 160 [.ptr 4 0 0 1]] [Cw 1 bad, Ww 2 l.length, bw true 1 true (r8 l), Va sz R, Bx 0] (.tup [])
   [Cw 1 (bad || fO A6 most xs), Ww 2 (l ++ cZ uT xs).length, bw true 1 true (r8 (l ++ cZ uT xs)), Va sz R, Bx 0] :=
 nE (kk := .u32) Tryz.func159 low159 (by decide) (fun l bad a => BM l bad a) l bad sz R j most xs hR hm hxl hx hl
def u3 (x : Int × Int) : List UInt8 := ez (uI x.1) ++ ez (uI x.2)
def Bf (x : Int × Int) : Bool := decide (1000 < uI x.2)
def AJ (x : Int × Int) : List D := [.int .u32 x.1, .int .i64 x.2]
def Cn (x : Int × Int) : Prop := (0 ≤ x.1 ∧ x.1 ≤ 4294967295) ∧ iY x.2
theorem B4 (l : List UInt8) (bad : Bool) (x : Int × Int) (hx : Cn x) (hl : (l ++ u3 x).length ≤ 1099511627776) :
  aa Tryz.prog 162 [.ptr 0 0 0 1, .ptr 1 0 0 1] [Va 2 (AJ x), Bx 2, Cw 3 bad, Ww 4 l.length, bw true 1 true (r8 l)] (.tup [])
   [Va 2 (AJ x), Bx 2, Cw 3 (bad || Bf x), Ww 4 (l ++ u3 x).length, bw true 1 true (r8 (l ++ u3 x))] := by
 refine aP Tryz.func162 low162 (by simp [c162]) ?_
 simp only [c162]
 unfold Cn at hx
 obtain ⟨l1, e1⟩ : ∃ l1, l1 = l ++ ez (uI x.1) := ⟨_, rfl⟩
 obtain ⟨l2, e2⟩ : ∃ l2, l2 = l1 ++ ez (uI x.2) := ⟨_, rfl⟩
 obtain ⟨b2, d2⟩ : ∃ b2, b2 = (bad || decide (1000 < uI x.2)) := ⟨_, rfl⟩
 have el : l ++ u3 x = l2 := by rw [e2, e1]; simp [u3]
 have eb : (bad || Bf x) = b2 := by rw [d2]; simp [Bf, Bool.or_assoc]
 rw [el] at hl
 rw [el, eb]
 have g1 : l1.length ≤ l2.length := by rw [e2, List.length_append]; omega
 have g0 : l.length ≤ l1.length := by rw [e1, List.length_append]; omega
 have h1 := kg l bad 2 (AJ x) 0 x.1 rfl hx.1 (by omega)
 rw [← e1] at h1
 have h2 := gZ l1 bad 2 (AJ x) 1 1000 x.2 rfl hx.2 (by omega) (by omega)
 rw [← e2, ← d2] at h2
 clear e1 e2 d2 el eb
 refine wk [94, 131] [] fV ?_
 exact fH [0, 1, 2, 3, 4] fV
theorem An (l : List UInt8) (bad : Bool) (sz : Nat) (R : List D) (j most : Nat) (xs : List (Int × Int)) (hR : R[j]? = some (L (bz .u32 .i64 xs))) (hm : most < 9223372036854775808) (hxl : xs.length ≤ 140737488351232) (hx : ∀ x ∈ xs, Cn x) (hl : (l ++ cZ u3 xs).length ≤ 1099511627776) :
  aa Tryz.prog 161 [.ptr 0 0 0 1, .ptr 3 0 j 1, .int .i64 most, .fn 162 [.ptr 4 0 0 1]] [Cw 1 bad, Ww 2 l.length, bw true 1 true (r8 l), Va sz R, Bx 0] (.tup [])
   [Cw 1 (bad || fO Bf most xs), Ww 2 (l ++ cZ u3 xs).length, bw true 1 true (r8 (l ++ cZ u3 xs)), Va sz R, Bx 0] :=
 kJ (rw_ := AJ) Tryz.func161 low161 (by decide) (by decide) rfl (fun _ => rfl) rfl rfl (fun _ => rfl) (fun _ => rfl) (fun _ => rfl) (fun l bad a => B4 l bad a) l bad sz R j most xs hR hm hxl hx hl
def uV (x : Int × Int) : List UInt8 := ez (uI x.1) ++ ez (uI x.2)
def A8 (x : Int × Int) : Bool := false
def AG (x : Int × Int) : List D := [.int .u32 x.1, .int .u32 x.2]
def Cd (x : Int × Int) : Prop := (0 ≤ x.1 ∧ x.1 ≤ 4294967295) ∧ (0 ≤ x.2 ∧ x.2 ≤ 4294967295)
theorem BQ (l : List UInt8) (bad : Bool) (x : Int × Int) (hx : Cd x) (hl : (l ++ uV x).length ≤ 1099511627776) :
  aa Tryz.prog 164 [.ptr 0 0 0 1, .ptr 1 0 0 1] [Va 2 (AG x), Bx 2, Cw 3 bad, Ww 4 l.length, bw true 1 true (r8 l)] (.tup [])
   [Va 2 (AG x), Bx 2, Cw 3 (bad || A8 x), Ww 4 (l ++ uV x).length, bw true 1 true (r8 (l ++ uV x))] := by
 refine aP Tryz.func164 low164 (by simp [c164]) ?_
 simp only [c164]
 unfold Cd at hx
 obtain ⟨l1, e1⟩ : ∃ l1, l1 = l ++ ez (uI x.1) := ⟨_, rfl⟩
 obtain ⟨l2, e2⟩ : ∃ l2, l2 = l1 ++ ez (uI x.2) := ⟨_, rfl⟩
 have el : l ++ uV x = l2 := by rw [e2, e1]; simp [uV]
 have eb : (bad || A8 x) = bad := by simp [A8, Bool.or_assoc]
 rw [el] at hl
 rw [el, eb]
 have g1 : l1.length ≤ l2.length := by rw [e2, List.length_append]; omega
 have g0 : l.length ≤ l1.length := by rw [e1, List.length_append]; omega
 have h1 := kg l bad 2 (AG x) 0 x.1 rfl hx.1 (by omega)
 rw [← e1] at h1
 have h2 := kg l1 bad 2 (AG x) 1 x.2 rfl hx.2 (by omega)
 rw [← e2] at h2
 clear e1 e2 el eb
 refine wk [94] [] fV ?_
 exact fH [0, 1, 2, 3, 4] fV
theorem zV (l : List UInt8) (bad : Bool) (sz : Nat) (R : List D) (j most : Nat) (xs : List (Int × Int)) (hR : R[j]? = some (L (bz .u32 .u32 xs))) (hm : most < 9223372036854775808) (hxl : xs.length ≤ 140737488351232) (hx : ∀ x ∈ xs, Cd x) (hl : (l ++ cZ uV xs).length ≤ 1099511627776) :
  aa Tryz.prog 163 [.ptr 0 0 0 1, .ptr 3 0 j 1, .int .i64 most, .fn 164 [.ptr 4 0 0 1]] [Cw 1 bad, Ww 2 l.length, bw true 1 true (r8 l), Va sz R, Bx 0] (.tup [])
   [Cw 1 (bad || fO A8 most xs), Ww 2 (l ++ cZ uV xs).length, bw true 1 true (r8 (l ++ cZ uV xs)), Va sz R, Bx 0] :=
 kJ (rw_ := AG) Tryz.func163 low163 (by decide) (by decide) rfl (fun _ => rfl) rfl rfl (fun _ => rfl) (fun _ => rfl) (fun _ => rfl) (fun l bad a => BQ l bad a) l bad sz R j most xs hR hm hxl hx hl
def u0 (x : Int) : List UInt8 := ez (zz x)
def Bc (x : Int) : Bool := false
def cTs (x : Int) : List D := [.int .i64 x]
def Ck (x : Int) : Prop := iY x
theorem BY (l : List UInt8) (bad : Bool) (x : Int) (hx : Ck x) (hl : (l ++ u0 x).length ≤ 1099511627776) :
  aa Tryz.prog 128 [.ptr 0 0 0 1, .ptr 1 0 0 1] [Va 1 (cTs x), Bx 2, Cw 3 bad, Ww 4 l.length, bw true 1 true (r8 l)] (.tup [])
   [Va 1 (cTs x), Bx 2, Cw 3 (bad || Bc x), Ww 4 (l ++ u0 x).length, bw true 1 true (r8 (l ++ u0 x))] := by
 refine aP Tryz.func128 low128 (by simp [c128]) ?_
 simp only [c128]
 unfold Ck at hx
 obtain ⟨l1, e1⟩ : ∃ l1, l1 = l ++ ez (zz x) := ⟨_, rfl⟩
 have el : l ++ u0 x = l1 := by rw [e1]; simp [u0]
 have eb : (bad || Bc x) = bad := by simp [Bc, Bool.or_assoc]
 rw [el] at hl
 rw [el, eb]
 have g0 : l.length ≤ l1.length := by rw [e1, List.length_append]; omega
 have h1 := gJ l bad 1 (cTs x) 0 x rfl hx (by omega)
 rw [← e1] at h1
 clear e1 el eb
 refine wk [87] [] fV ?_
 exact fH [0, 1, 2, 3, 4] fV
theorem Af (l : List UInt8) (bad : Bool) (sz : Nat) (R : List D) (j most : Nat) (xs : List Int) (hR : R[j]? = some (L (ar .i64 xs))) (hm : most < 9223372036854775808) (hxl : xs.length ≤ 140737488351232) (hx : ∀ x ∈ xs, Ck x) (hl : (l ++ cZ u0 xs).length ≤ 1099511627776) :
  aa Tryz.prog 127 [.ptr 0 0 0 1, .ptr 3 0 j 1, .int .i64 most, .fn 128 [.ptr 4 0 0 1]] [Cw 1 bad, Ww 2 l.length, bw true 1 true (r8 l), Va sz R, Bx 0] (.tup [])
   [Cw 1 (bad || fO Bc most xs), Ww 2 (l ++ cZ u0 xs).length, bw true 1 true (r8 (l ++ cZ u0 xs)), Va sz R, Bx 0] :=
 nE (kk := .i64) Tryz.func127 low127 (by decide) (fun l bad a => BY l bad a) l bad sz R j most xs hR hm hxl hx hl
def u2 (x : Int × Int) : List UInt8 := ez (uI x.1) ++ ez (uI x.2)
def Be (x : Int × Int) : Bool := decide (40 < uI x.2)
def AI (x : Int × Int) : List D := [.int .u32 x.1, .int .i64 x.2]
def Cm (x : Int × Int) : Prop := (0 ≤ x.1 ∧ x.1 ≤ 4294967295) ∧ iY x.2
theorem B2 (l : List UInt8) (bad : Bool) (x : Int × Int) (hx : Cm x) (hl : (l ++ u2 x).length ≤ 1099511627776) :
  aa Tryz.prog 130 [.ptr 0 0 0 1, .ptr 1 0 0 1] [Va 2 (AI x), Bx 2, Cw 3 bad, Ww 4 l.length, bw true 1 true (r8 l)] (.tup [])
   [Va 2 (AI x), Bx 2, Cw 3 (bad || Be x), Ww 4 (l ++ u2 x).length, bw true 1 true (r8 (l ++ u2 x))] := by
 refine aP Tryz.func130 low130 (by simp [c130]) ?_
 simp only [c130]
 unfold Cm at hx
 obtain ⟨l1, e1⟩ : ∃ l1, l1 = l ++ ez (uI x.1) := ⟨_, rfl⟩
 obtain ⟨l2, e2⟩ : ∃ l2, l2 = l1 ++ ez (uI x.2) := ⟨_, rfl⟩
 obtain ⟨b2, d2⟩ : ∃ b2, b2 = (bad || decide (40 < uI x.2)) := ⟨_, rfl⟩
 have el : l ++ u2 x = l2 := by rw [e2, e1]; simp [u2]
 have eb : (bad || Be x) = b2 := by rw [d2]; simp [Be, Bool.or_assoc]
 rw [el] at hl
 rw [el, eb]
 have g1 : l1.length ≤ l2.length := by rw [e2, List.length_append]; omega
 have g0 : l.length ≤ l1.length := by rw [e1, List.length_append]; omega
 have h1 := kg l bad 2 (AI x) 0 x.1 rfl hx.1 (by omega)
 rw [← e1] at h1
 have h2 := gZ l1 bad 2 (AI x) 1 40 x.2 rfl hx.2 (by omega) (by omega)
 rw [← e2, ← d2] at h2
 clear e1 e2 d2 el eb
 refine wk [94, 131] [] fV ?_
 exact fH [0, 1, 2, 3, 4] fV
theorem Al (l : List UInt8) (bad : Bool) (sz : Nat) (R : List D) (j most : Nat) (xs : List (Int × Int)) (hR : R[j]? = some (L (bz .u32 .i64 xs))) (hm : most < 9223372036854775808) (hxl : xs.length ≤ 140737488351232) (hx : ∀ x ∈ xs, Cm x) (hl : (l ++ cZ u2 xs).length ≤ 1099511627776) :
  aa Tryz.prog 129 [.ptr 0 0 0 1, .ptr 3 0 j 1, .int .i64 most, .fn 130 [.ptr 4 0 0 1]] [Cw 1 bad, Ww 2 l.length, bw true 1 true (r8 l), Va sz R, Bx 0] (.tup [])
   [Cw 1 (bad || fO Be most xs), Ww 2 (l ++ cZ u2 xs).length, bw true 1 true (r8 (l ++ cZ u2 xs)), Va sz R, Bx 0] :=
 kJ (rw_ := AI) Tryz.func129 low129 (by decide) (by decide) rfl (fun _ => rfl) rfl rfl (fun _ => rfl) (fun _ => rfl) (fun _ => rfl) (fun l bad a => B2 l bad a) l bad sz R j most xs hR hm hxl hx hl
def tI (x : Int × Int × Int) : List UInt8 := ez (uI x.1) ++ (ez (uI x.2.1) ++ ez (uI x.2.2))
def CV (x : Int × Int × Int) : Bool := false
def yI (x : Int × Int × Int) : List D := [.int .u32 x.1, .int .u64 x.2.1, .int .u64 x.2.2]
def B9 (x : Int × Int × Int) : Prop := (0 ≤ x.1 ∧ x.1 ≤ 4294967295) ∧ (0 ≤ x.2.1 ∧ x.2.1 ≤ 18446744073709551615) ∧ (0 ≤ x.2.2 ∧ x.2.2 ≤ 18446744073709551615)
theorem BG (l : List UInt8) (bad : Bool) (x : Int × Int × Int) (hx : B9 x) (hl : (l ++ tI x).length ≤ 1099511627776) :
  aa Tryz.prog 93 [.ptr 0 0 0 1, .ptr 1 0 0 1] [Va 3 (yI x), Bx 2, Cw 3 bad, Ww 4 l.length, bw true 1 true (r8 l)] (.tup [])
   [Va 3 (yI x), Bx 2, Cw 3 (bad || CV x), Ww 4 (l ++ tI x).length, bw true 1 true (r8 (l ++ tI x))] := by
 refine aP Tryz.func93 low93 (by simp [c93]) ?_
 simp only [c93]
 unfold B9 at hx
 obtain ⟨l1, e1⟩ : ∃ l1, l1 = l ++ ez (uI x.1) := ⟨_, rfl⟩
 obtain ⟨l2, e2⟩ : ∃ l2, l2 = l1 ++ ez (uI x.2.1) := ⟨_, rfl⟩
 obtain ⟨l3, e3⟩ : ∃ l3, l3 = l2 ++ ez (uI x.2.2) := ⟨_, rfl⟩
 have el : l ++ tI x = l3 := by rw [e3, e2, e1]; simp [tI]
 have eb : (bad || CV x) = bad := by simp [CV, Bool.or_assoc]
 rw [el] at hl
 rw [el, eb]
 have g2 : l2.length ≤ l3.length := by rw [e3, List.length_append]; omega
 have g1 : l1.length ≤ l2.length := by rw [e2, List.length_append]; omega
 have g0 : l.length ≤ l1.length := by rw [e1, List.length_append]; omega
 have h1 := kg l bad 3 (yI x) 0 x.1 rfl hx.1 (by omega)
 rw [← e1] at h1
 have h2 := wO l1 bad 3 (yI x) 1 x.2.1 rfl hx.2.1 (by omega)
 rw [← e2] at h2
 have h3 := wO l2 bad 3 (yI x) 2 x.2.2 rfl hx.2.2 (by omega)
 rw [← e3] at h3
 clear e1 e2 e3 el eb
 refine wk [94, 95] [] fV ?_
 exact fH [0, 1, 2, 3, 4] fV
theorem zJ (l : List UInt8) (bad : Bool) (sz : Nat) (R : List D) (j most : Nat) (xs : List (Int × Int × Int)) (hR : R[j]? = some (L (nF xs))) (hm : most < 9223372036854775808) (hxl : xs.length ≤ 140737488351232) (hx : ∀ x ∈ xs, B9 x) (hl : (l ++ cZ tI xs).length ≤ 1099511627776) :
  aa Tryz.prog 92 [.ptr 0 0 0 1, .ptr 3 0 j 1, .int .i64 most, .fn 93 [.ptr 4 0 0 1]] [Cw 1 bad, Ww 2 l.length, bw true 1 true (r8 l), Va sz R, Bx 0] (.tup [])
   [Cw 1 (bad || fO CV most xs), Ww 2 (l ++ cZ tI xs).length, bw true 1 true (r8 (l ++ cZ tI xs)), Va sz R, Bx 0] :=
 kJ (rw_ := yI) Tryz.func92 low92 (by decide) (by decide) rfl (fun _ => rfl) rfl rfl (fun _ => rfl) (fun _ => rfl) (fun _ => rfl) (fun l bad a => BG l bad a) l bad sz R j most xs hR hm hxl hx hl
end Go.Proofs.YtapennlmboabeaaGreat
