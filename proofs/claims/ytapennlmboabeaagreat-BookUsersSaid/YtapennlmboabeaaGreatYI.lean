import Derived.Test.YtapennlmboabeaaGreatYH
import Derived.Test.YtapennlmboabeaaGreatVi30
import Derived.Test.YtapennlmboabeaaGreatVi33
set_option linter.unusedVariables false
set_option linter.unusedSimpArgs false
set_option linter.unnecessarySimpa false
namespace Go.Proofs.YtapennlmboabeaaGreat
open Go Go.Vi
def rowQ (l : List (Int × Int × Int)) : List (List D) := l.map fun x => [.int .u32 x.1, .int .u64 x.2.1, .int .u64 x.2.2]
theorem rowQ_len {l : List (Int × Int × Int)} : (rowQ l).length = l.length := by simp [rowQ]
abbrev Bx (c : Nat) : Ob := ⟨true, false, false, false, 1, [[.ptr c 0 0 1]], some 0⟩
def eRow {α : Type} (e : α → List UInt8) (l : List α) : List UInt8 := num l.length ++ l.flatMap e
def xRow {α : Type} (x : α → Bool) (most : Nat) (l : List α) : Bool := decide (most < l.length) || l.any x
theorem fm_take {α : Type} (e : α → List UInt8) {l : List α} {i : Nat} {y : α} (h : l[i]? = some y) : (l.take (i + 1)).flatMap e = (l.take i).flatMap e ++ e y := by
 have : l.take (i + 1) = l.take i ++ [y] := by rw [List.take_add_one, h]; rfl
 rw [this]; simp
theorem any_take {α : Type} (f : α → Bool) {l : List α} {i : Nat} {y : α} (h : l[i]? = some y) : (l.take (i + 1)).any f = ((l.take i).any f || f y) := by
 have : l.take (i + 1) = l.take i ++ [y] := by rw [List.take_add_one, h]; rfl
 rw [this]; simp
theorem fm_le {α : Type} (e : α → List UInt8) (l : List α) (i : Nat) : ((l.take i).flatMap e).length ≤ (l.flatMap e).length := by
 have h : l.flatMap e = (l.take i).flatMap e ++ (l.drop i).flatMap e := by rw [← List.flatMap_append, List.take_append_drop]
 rw [h, List.length_append]; omega
theorem exYR3 : type_of% (an @Wr.eq_1 (an @r8_len (an @row1_len (an @row2_len (an @row3_len @rowQ_len))))) := (an @Wr.eq_1 (an @r8_len (an @row1_len (an @row2_len (an @row3_len @rowQ_len)))))
set_option maxHeartbeats 4000000 in
theorem rowS_w {α : Type} {F g n b : Nat} {fn : Func} {z : List D} {rw_ : α → List D} {e : α → List UInt8} {x : α → Bool} {f : α → Prop} (hF : Tryz.prog.funcs[F]? = some fn) (hL : lowFn Tryz.prog fn = some (rowC n b (some n) z)) (hg8 : g < bB) (hnp : 0 < n)
  (hz : z.length = n) (hrl : ∀ a, (rw_ a).length = n) (hz1 : z.all D.one = true) (hz2 : z.all D.pt1 = true) (hr1 : ∀ a, (rw_ a).all D.one = true) (hr2 : ∀ a, (rw_ a).all D.pt1 = true) (hsp : ∀ a, splice z 0 (rw_ a) = rw_ a)
  (hel : ∀ (l : List UInt8) (bad : Bool) (a : α), f a → (l ++ e a).length ≤ 1099511627776 → CallG Tryz.prog g [.ptr 0 0 0 1, .ptr 1 0 0 1] [Va n (rw_ a), Bx 2, Cw 3 bad, Ww 4 l.length, acc true 1 true (r8 l)] (.tup []) [Va n (rw_ a), Bx 2, Cw 3 (bad || x a), Ww 4 (l ++ e a).length, acc true 1 true (r8 (l ++ e a))])
  (l : List UInt8) (bad : Bool) (sz : Nat) (R : List D) (j most : Nat) (xs : List α) (hR : R[j]? = some (L (xs.map rw_))) (hm : most < 9223372036854775808) (hxl : xs.length ≤ 140737488351232) (hx : ∀ x ∈ xs, f x) (hl : (l ++ eRow e xs).length ≤ 1099511627776) :
  CallG Tryz.prog F [.ptr 0 0 0 1, .ptr 3 0 j 1, .int .i64 most, .fn g [.ptr 4 0 0 1]] [Cw 1 bad, Ww 2 l.length, acc true 1 true (r8 l), Va sz R, Bx 0] (.tup [])
   [Cw 1 (bad || xRow x most xs), Ww 2 (l ++ eRow e xs).length, acc true 1 true (r8 (l ++ eRow e xs)), Va sz R, Bx 0] := by
 refine callG hF hL (by simp [rowC]) ?_
 simp only [rowC]
 have ui : uI (xs.length : Int) = xs.length := by unfold uI; omega
 have hll : l.length ≤ 1099511627776 := by rw [List.length_append] at hl; omega
 have hn := numQ_w l bad 1 [.int .u64 xs.length] 0 most xs.length rfl (by omega) (by omega) hll
 rw [ui] at hn
 obtain ⟨l0, e0⟩ : ∃ l0, l0 = l ++ num xs.length := ⟨_, rfl⟩
 obtain ⟨b0, f0⟩ : ∃ b0, b0 = (bad || decide (most < xs.length)) := ⟨_, rfl⟩
 have el : l ++ eRow e xs = l0 ++ xs.flatMap e := by rw [e0]; simp [eRow]
 have eb : (bad || xRow x most xs) = (b0 || xs.any x) := by rw [f0]; simp [xRow, Bool.or_assoc]
 rw [el] at hl
 rw [el, eb]
 rw [← e0, ← f0] at hn
 clear el eb f0
 refine wk [95] [] (an exYR3 hR) ?_
 refine Run_loop (ι := {i : Nat // i ≤ xs.length}) (fun i => ([(1, .ptr 3 0 j 1), (3, .fn g [.ptr 4 0 0 1]), (29, .int .i64 xs.length), (30, .int .i64 i.1)], [Cw 1 (b0 || (xs.take i.1).any x), Ww 2 (l0 ++ (xs.take i.1).flatMap e).length, acc true 1 true (r8 (l0 ++ (xs.take i.1).flatMap e)), Va sz R, Bx 0])) (fun i => xs.length - i.1) ⟨0, by omega⟩ ?_ ?_
 ·simp only [List.take_zero, List.flatMap_nil, List.any_nil, Bool.or_false, List.append_nil]
  exact gcw [0, 1, 2, 3, 4] exYR3
  skip
 rintro ⟨i, hi⟩ hk
 dsimp only at hk ⊢
 by_cases hlt : i < xs.length
 ·have c1 : ((i : Int) < (xs.length : Int)) = True := by simp; omega
  obtain ⟨y, hg⟩ : ∃ y, xs[i]? = some y := ⟨_, List.getElem?_eq_getElem hlt⟩
  have hr : (xs.map rw_)[i]? = some (rw_ y) := by rw [List.getElem?_map, hg]; rfl
  have hxf := hx y (List.mem_of_getElem? hg)
  have hfm := fm_take e hg
  have han := any_take x hg
  have hle := fm_le e xs (i + 1)
  obtain ⟨li, ei⟩ : ∃ li, li = l0 ++ (xs.take i).flatMap e := ⟨_, rfl⟩
  obtain ⟨bi, fi⟩ : ∃ bi, bi = (b0 || (xs.take i).any x) := ⟨_, rfl⟩
  have ej : l0 ++ (xs.take (i + 1)).flatMap e = li ++ e y := by rw [ei, hfm, List.append_assoc]
  have fj : (b0 || (xs.take (i + 1)).any x) = (bi || x y) := by rw [fi, han, Bool.or_assoc]
  have hlj : (li ++ e y).length ≤ 1099511627776 := by rw [← ej]; simp only [List.length_append] at hl ⊢; omega
  have hw := hel li bi y hxf hlj
  rw [← ei, ← fi]
  obtain ⟨lj, el⟩ : ∃ lj, lj = li ++ e y := ⟨_, rfl⟩
  obtain ⟨bj, fl⟩ : ∃ bj, bj = (bi || x y) := ⟨_, rfl⟩
  rw [← el, ← fl] at hw
  rw [← el] at ej
  rw [← fl] at fj
  have g2 : lj.length ≤ 1099511627776 := by rw [el]; exact hlj
  have g1 : li.length ≤ lj.length := by rw [el, List.length_append]; omega
  clear el fl ei fi
  have k1 := hrl y
  have k2 := hr1 y
  have k3 := hr2 y
  have k4 := hsp y
  have k5 : (rw_ y).take n = rw_ y := by rw [← k1]; exact List.take_length
  generalize rw_ y = ry at hw hr k1 k2 k3 k4 k5
  have hdz : z.drop n = [] := by rw [← hz]; exact List.drop_length
  have hzn : (z = []) = False := eq_false (fun h => by rw [h] at hz; simp at hz; omega)
  refine wk [10039] [] (an exYR3 (an hR (an c1 (an hr (an hz (an hzn (an hdz (an hz1 (an hz2 (an k1 (an k2 (an k3 (an k4 k5))))))))))))) ?_
  refine hk ⟨i + 1, by omega⟩ _ _ (by dsimp only; omega) ?_
  dsimp only
  rw [ej, fj]
  exact gcw [0, 1, 2, 3, 4] exYR3
  skip
 ·have c1 : ((i : Int) < (xs.length : Int)) = False := by simp; omega
  obtain rfl : i = xs.length := by omega
  rw [List.take_length]
  refine wk [] [] (an exYR3 c1) ?_
  exact rtw [0, 1, 2, 3, 4] exYR3
  skip
set_option maxHeartbeats 4000000 in
theorem rowI_w {F g b : Nat} {fn : Func} {kk : IntKind} {e : Int → List UInt8} {x : Int → Bool} {f : Int → Prop} (hF : Tryz.prog.funcs[F]? = some fn) (hL : lowFn Tryz.prog fn = some (rowC 1 b none [.int kk 0])) (hg8 : g < bB)
  (hel : ∀ (l : List UInt8) (bad : Bool) (a : Int), f a → (l ++ e a).length ≤ 1099511627776 → CallG Tryz.prog g [.ptr 0 0 0 1, .ptr 1 0 0 1] [Va 1 [.int kk a], Bx 2, Cw 3 bad, Ww 4 l.length, acc true 1 true (r8 l)] (.tup []) [Va 1 [.int kk a], Bx 2, Cw 3 (bad || x a), Ww 4 (l ++ e a).length, acc true 1 true (r8 (l ++ e a))])
  (l : List UInt8) (bad : Bool) (sz : Nat) (R : List D) (j most : Nat) (xs : List Int) (hR : R[j]? = some (L (row1 kk xs))) (hm : most < 9223372036854775808) (hxl : xs.length ≤ 140737488351232) (hx : ∀ x ∈ xs, f x) (hl : (l ++ eRow e xs).length ≤ 1099511627776) :
  CallG Tryz.prog F [.ptr 0 0 0 1, .ptr 3 0 j 1, .int .i64 most, .fn g [.ptr 4 0 0 1]] [Cw 1 bad, Ww 2 l.length, acc true 1 true (r8 l), Va sz R, Bx 0] (.tup [])
   [Cw 1 (bad || xRow x most xs), Ww 2 (l ++ eRow e xs).length, acc true 1 true (r8 (l ++ eRow e xs)), Va sz R, Bx 0] := by
 refine callG hF hL (by simp [rowC]) ?_
 simp only [rowC]
 have ui : uI (xs.length : Int) = xs.length := by unfold uI; omega
 have hll : l.length ≤ 1099511627776 := by rw [List.length_append] at hl; omega
 have hn := numQ_w l bad 1 [.int .u64 xs.length] 0 most xs.length rfl (by omega) (by omega) hll
 rw [ui] at hn
 obtain ⟨l0, e0⟩ : ∃ l0, l0 = l ++ num xs.length := ⟨_, rfl⟩
 obtain ⟨b0, f0⟩ : ∃ b0, b0 = (bad || decide (most < xs.length)) := ⟨_, rfl⟩
 have el : l ++ eRow e xs = l0 ++ xs.flatMap e := by rw [e0]; simp [eRow]
 have eb : (bad || xRow x most xs) = (b0 || xs.any x) := by rw [f0]; simp [xRow, Bool.or_assoc]
 rw [el] at hl
 rw [el, eb]
 rw [← e0, ← f0] at hn
 clear el eb f0
 refine wk [95] [] (an exYR3 hR) ?_
 refine Run_loop (ι := {i : Nat // i ≤ xs.length}) (fun i => ([(1, .ptr 3 0 j 1), (3, .fn g [.ptr 4 0 0 1]), (29, .int .i64 xs.length), (30, .int .i64 i.1)], [Cw 1 (b0 || (xs.take i.1).any x), Ww 2 (l0 ++ (xs.take i.1).flatMap e).length, acc true 1 true (r8 (l0 ++ (xs.take i.1).flatMap e)), Va sz R, Bx 0])) (fun i => xs.length - i.1) ⟨0, by omega⟩ ?_ ?_
 ·simp only [List.take_zero, List.flatMap_nil, List.any_nil, Bool.or_false, List.append_nil]
  exact gcw [0, 1, 2, 3, 4] exYR3
  skip
 rintro ⟨i, hi⟩ hk
 dsimp only at hk ⊢
 by_cases hlt : i < xs.length
 ·have c1 : ((i : Int) < (xs.length : Int)) = True := by simp; omega
  obtain ⟨y, hg⟩ : ∃ y, xs[i]? = some y := ⟨_, List.getElem?_eq_getElem hlt⟩
  have hr := row1_get (k := kk) hg
  have hxf := hx y (List.mem_of_getElem? hg)
  have hfm := fm_take e hg
  have han := any_take x hg
  have hle := fm_le e xs (i + 1)
  obtain ⟨li, ei⟩ : ∃ li, li = l0 ++ (xs.take i).flatMap e := ⟨_, rfl⟩
  obtain ⟨bi, fi⟩ : ∃ bi, bi = (b0 || (xs.take i).any x) := ⟨_, rfl⟩
  have ej : l0 ++ (xs.take (i + 1)).flatMap e = li ++ e y := by rw [ei, hfm, List.append_assoc]
  have fj : (b0 || (xs.take (i + 1)).any x) = (bi || x y) := by rw [fi, han, Bool.or_assoc]
  have hlj : (li ++ e y).length ≤ 1099511627776 := by rw [← ej]; simp only [List.length_append] at hl ⊢; omega
  have hw := hel li bi y hxf hlj
  rw [← ei, ← fi]
  obtain ⟨lj, el⟩ : ∃ lj, lj = li ++ e y := ⟨_, rfl⟩
  obtain ⟨bj, fl⟩ : ∃ bj, bj = (bi || x y) := ⟨_, rfl⟩
  rw [← el, ← fl] at hw
  rw [← el] at ej
  rw [← fl] at fj
  have g2 : lj.length ≤ 1099511627776 := by rw [el]; exact hlj
  have g1 : li.length ≤ lj.length := by rw [el, List.length_append]; omega
  clear el fl ei fi
  refine wk [10039] [] (an exYR3 (an hR (an c1 hr))) ?_
  refine hk ⟨i + 1, by omega⟩ _ _ (by dsimp only; omega) ?_
  dsimp only
  rw [ej, fj]
  exact gcw [0, 1, 2, 3, 4] exYR3
  skip
 ·have c1 : ((i : Int) < (xs.length : Int)) = False := by simp; omega
  obtain rfl : i = xs.length := by omega
  rw [List.take_length]
  refine wk [] [] (an exYR3 c1) ?_
  exact rtw [0, 1, 2, 3, 4] exYR3
  skip
def eTu (x : Int × Int) : List UInt8 := num (zz x.1) ++ num (zz x.2)
def xTu (x : Int × Int) : Bool := decide (x.2 < (-900) ∨ 900 < x.2)
def cTu (x : Int × Int) : List D := [.int .i64 x.1, .int .i64 x.2]
def fTu (x : Int × Int) : Prop := Fit x.1 ∧ Fit x.2
theorem elTu_w (l : List UInt8) (bad : Bool) (x : Int × Int) (hx : fTu x) (hl : (l ++ eTu x).length ≤ 1099511627776) :
  CallG Tryz.prog 172 [.ptr 0 0 0 1, .ptr 1 0 0 1] [Va 2 (cTu x), Bx 2, Cw 3 bad, Ww 4 l.length, acc true 1 true (r8 l)] (.tup [])
   [Va 2 (cTu x), Bx 2, Cw 3 (bad || xTu x), Ww 4 (l ++ eTu x).length, acc true 1 true (r8 (l ++ eTu x))] := by
 refine callG Tryz.func172 low172 (by simp [c172]) ?_
 simp only [c172]
 unfold fTu at hx
 obtain ⟨l1, e1⟩ : ∃ l1, l1 = l ++ num (zz x.1) := ⟨_, rfl⟩
 obtain ⟨l2, e2⟩ : ∃ l2, l2 = l1 ++ num (zz x.2) := ⟨_, rfl⟩
 obtain ⟨b2, d2⟩ : ∃ b2, b2 = (bad || decide (x.2 < (-900) ∨ 900 < x.2)) := ⟨_, rfl⟩
 have el : l ++ eTu x = l2 := by rw [e2, e1]; simp [eTu]
 have eb : (bad || xTu x) = b2 := by rw [d2]; simp [xTu, Bool.or_assoc]
 rw [el] at hl
 rw [el, eb]
 have g1 : l1.length ≤ l2.length := by rw [e2, List.length_append]; omega
 have g0 : l.length ≤ l1.length := by rw [e1, List.length_append]; omega
 have h1 := minutes_w l bad 2 (cTu x) 0 x.1 rfl hx.1 (by omega)
 rw [← e1] at h1
 have h2 := sigI_w l1 bad 2 (cTu x) 1 x.2 (-900) 900 rfl hx.2 (by omega)
 rw [← e2, ← d2] at h2
 clear e1 e2 d2 el eb
 refine wk [87, 170] [] exYR3 ?_
 exact rtw [0, 1, 2, 3, 4] exYR3
theorem rowTu_w (l : List UInt8) (bad : Bool) (sz : Nat) (R : List D) (j most : Nat) (xs : List (Int × Int)) (hR : R[j]? = some (L (row2 .i64 .i64 xs))) (hm : most < 9223372036854775808) (hxl : xs.length ≤ 140737488351232) (hx : ∀ x ∈ xs, fTu x) (hl : (l ++ eRow eTu xs).length ≤ 1099511627776) :
  CallG Tryz.prog 171 [.ptr 0 0 0 1, .ptr 3 0 j 1, .int .i64 most, .fn 172 [.ptr 4 0 0 1]] [Cw 1 bad, Ww 2 l.length, acc true 1 true (r8 l), Va sz R, Bx 0] (.tup [])
   [Cw 1 (bad || xRow xTu most xs), Ww 2 (l ++ eRow eTu xs).length, acc true 1 true (r8 (l ++ eRow eTu xs)), Va sz R, Bx 0] :=
 rowS_w (rw_ := cTu) Tryz.func171 low171 (by decide) (by decide) rfl (fun _ => rfl) rfl rfl (fun _ => rfl) (fun _ => rfl) (fun _ => rfl) (fun l bad a => elTu_w l bad a) l bad sz R j most xs hR hm hxl hx hl
def eSh (x : Int × Int × Int) : List UInt8 := num (uI x.1) ++ (num (uI x.2.1) ++ num (uI x.2.2))
def xSh (x : Int × Int × Int) : Bool := (decide (127 < uI x.1) || (decide (1440 < uI x.2.1) || decide (1440 < uI x.2.2)))
def cSh (x : Int × Int × Int) : List D := [.int .i64 x.1, .int .i64 x.2.1, .int .i64 x.2.2]
def fSh (x : Int × Int × Int) : Prop := Fit x.1 ∧ Fit x.2.1 ∧ Fit x.2.2
theorem elSh_w (l : List UInt8) (bad : Bool) (x : Int × Int × Int) (hx : fSh x) (hl : (l ++ eSh x).length ≤ 1099511627776) :
  CallG Tryz.prog 174 [.ptr 0 0 0 1, .ptr 1 0 0 1] [Va 3 (cSh x), Bx 2, Cw 3 bad, Ww 4 l.length, acc true 1 true (r8 l)] (.tup [])
   [Va 3 (cSh x), Bx 2, Cw 3 (bad || xSh x), Ww 4 (l ++ eSh x).length, acc true 1 true (r8 (l ++ eSh x))] := by
 refine callG Tryz.func174 low174 (by simp [c174]) ?_
 simp only [c174]
 unfold fSh at hx
 obtain ⟨l1, e1⟩ : ∃ l1, l1 = l ++ num (uI x.1) := ⟨_, rfl⟩
 obtain ⟨b1, d1⟩ : ∃ b1, b1 = (bad || decide (127 < uI x.1)) := ⟨_, rfl⟩
 obtain ⟨l2, e2⟩ : ∃ l2, l2 = l1 ++ num (uI x.2.1) := ⟨_, rfl⟩
 obtain ⟨b2, d2⟩ : ∃ b2, b2 = (b1 || decide (1440 < uI x.2.1)) := ⟨_, rfl⟩
 obtain ⟨l3, e3⟩ : ∃ l3, l3 = l2 ++ num (uI x.2.2) := ⟨_, rfl⟩
 obtain ⟨b3, d3⟩ : ∃ b3, b3 = (b2 || decide (1440 < uI x.2.2)) := ⟨_, rfl⟩
 have el : l ++ eSh x = l3 := by rw [e3, e2, e1]; simp [eSh]
 have eb : (bad || xSh x) = b3 := by rw [d3, d2, d1]; simp [xSh, Bool.or_assoc]
 rw [el] at hl
 rw [el, eb]
 have g2 : l2.length ≤ l3.length := by rw [e3, List.length_append]; omega
 have g1 : l1.length ≤ l2.length := by rw [e2, List.length_append]; omega
 have g0 : l.length ≤ l1.length := by rw [e1, List.length_append]; omega
 have h1 := numI_w l bad 3 (cSh x) 0 127 x.1 rfl hx.1 (by omega) (by omega)
 rw [← e1, ← d1] at h1
 have h2 := numI_w l1 b1 3 (cSh x) 1 1440 x.2.1 rfl hx.2.1 (by omega) (by omega)
 rw [← e2, ← d2] at h2
 have h3 := numI_w l2 b2 3 (cSh x) 2 1440 x.2.2 rfl hx.2.2 (by omega) (by omega)
 rw [← e3, ← d3] at h3
 clear e1 e2 e3 d1 d2 d3 el eb
 refine wk [131] [] exYR3 ?_
 exact rtw [0, 1, 2, 3, 4] exYR3
theorem rowSh_w (l : List UInt8) (bad : Bool) (sz : Nat) (R : List D) (j most : Nat) (xs : List (Int × Int × Int)) (hR : R[j]? = some (L (row3 xs))) (hm : most < 9223372036854775808) (hxl : xs.length ≤ 140737488351232) (hx : ∀ x ∈ xs, fSh x) (hl : (l ++ eRow eSh xs).length ≤ 1099511627776) :
  CallG Tryz.prog 173 [.ptr 0 0 0 1, .ptr 3 0 j 1, .int .i64 most, .fn 174 [.ptr 4 0 0 1]] [Cw 1 bad, Ww 2 l.length, acc true 1 true (r8 l), Va sz R, Bx 0] (.tup [])
   [Cw 1 (bad || xRow xSh most xs), Ww 2 (l ++ eRow eSh xs).length, acc true 1 true (r8 (l ++ eRow eSh xs)), Va sz R, Bx 0] :=
 rowS_w (rw_ := cSh) Tryz.func173 low173 (by decide) (by decide) rfl (fun _ => rfl) rfl rfl (fun _ => rfl) (fun _ => rfl) (fun _ => rfl) (fun l bad a => elSh_w l bad a) l bad sz R j most xs hR hm hxl hx hl
def eOf (x : Int) : List UInt8 := num (uI x)
def xOf (x : Int) : Bool := decide (109937 < uI x)
def cOf (x : Int) : List D := [.int .i64 x]
def fOf (x : Int) : Prop := Fit x
theorem elOf_w (l : List UInt8) (bad : Bool) (x : Int) (hx : fOf x) (hl : (l ++ eOf x).length ≤ 1099511627776) :
  CallG Tryz.prog 152 [.ptr 0 0 0 1, .ptr 1 0 0 1] [Va 1 (cOf x), Bx 2, Cw 3 bad, Ww 4 l.length, acc true 1 true (r8 l)] (.tup [])
   [Va 1 (cOf x), Bx 2, Cw 3 (bad || xOf x), Ww 4 (l ++ eOf x).length, acc true 1 true (r8 (l ++ eOf x))] := by
 refine callG Tryz.func152 low152 (by simp [c152]) ?_
 simp only [c152]
 unfold fOf at hx
 obtain ⟨l1, e1⟩ : ∃ l1, l1 = l ++ num (uI x) := ⟨_, rfl⟩
 obtain ⟨b1, d1⟩ : ∃ b1, b1 = (bad || decide (109937 < uI x)) := ⟨_, rfl⟩
 have el : l ++ eOf x = l1 := by rw [e1]; simp [eOf]
 have eb : (bad || xOf x) = b1 := by rw [d1]; simp [xOf, Bool.or_assoc]
 rw [el] at hl
 rw [el, eb]
 have g0 : l.length ≤ l1.length := by rw [e1, List.length_append]; omega
 have h1 := numI_w l bad 1 (cOf x) 0 109937 x rfl hx (by omega) (by omega)
 rw [← e1, ← d1] at h1
 clear e1 d1 el eb
 refine wk [131] [] exYR3 ?_
 exact rtw [0, 1, 2, 3, 4] exYR3
theorem rowOf_w (l : List UInt8) (bad : Bool) (sz : Nat) (R : List D) (j most : Nat) (xs : List Int) (hR : R[j]? = some (L (row1 .i64 xs))) (hm : most < 9223372036854775808) (hxl : xs.length ≤ 140737488351232) (hx : ∀ x ∈ xs, fOf x) (hl : (l ++ eRow eOf xs).length ≤ 1099511627776) :
  CallG Tryz.prog 151 [.ptr 0 0 0 1, .ptr 3 0 j 1, .int .i64 most, .fn 152 [.ptr 4 0 0 1]] [Cw 1 bad, Ww 2 l.length, acc true 1 true (r8 l), Va sz R, Bx 0] (.tup [])
   [Cw 1 (bad || xRow xOf most xs), Ww 2 (l ++ eRow eOf xs).length, acc true 1 true (r8 (l ++ eRow eOf xs)), Va sz R, Bx 0] :=
 rowI_w (kk := .i64) Tryz.func151 low151 (by decide) (fun l bad a => elOf_w l bad a) l bad sz R j most xs hR hm hxl hx hl
def eSm (x : Int) : List UInt8 := num (zz x)
def xSm (x : Int) : Bool := decide (x < (-400) ∨ 400 < x)
def cSm (x : Int) : List D := [.int .i64 x]
def fSm (x : Int) : Prop := Fit x
theorem elSm_w (l : List UInt8) (bad : Bool) (x : Int) (hx : fSm x) (hl : (l ++ eSm x).length ≤ 1099511627776) :
  CallG Tryz.prog 180 [.ptr 0 0 0 1, .ptr 1 0 0 1] [Va 1 (cSm x), Bx 2, Cw 3 bad, Ww 4 l.length, acc true 1 true (r8 l)] (.tup [])
   [Va 1 (cSm x), Bx 2, Cw 3 (bad || xSm x), Ww 4 (l ++ eSm x).length, acc true 1 true (r8 (l ++ eSm x))] := by
 refine callG Tryz.func180 low180 (by simp [c180]) ?_
 simp only [c180]
 unfold fSm at hx
 obtain ⟨l1, e1⟩ : ∃ l1, l1 = l ++ num (zz x) := ⟨_, rfl⟩
 obtain ⟨b1, d1⟩ : ∃ b1, b1 = (bad || decide (x < (-400) ∨ 400 < x)) := ⟨_, rfl⟩
 have el : l ++ eSm x = l1 := by rw [e1]; simp [eSm]
 have eb : (bad || xSm x) = b1 := by rw [d1]; simp [xSm, Bool.or_assoc]
 rw [el] at hl
 rw [el, eb]
 have g0 : l.length ≤ l1.length := by rw [e1, List.length_append]; omega
 have h1 := sigI_w l bad 1 (cSm x) 0 x (-400) 400 rfl hx (by omega)
 rw [← e1, ← d1] at h1
 clear e1 d1 el eb
 refine wk [170] [] exYR3 ?_
 exact rtw [0, 1, 2, 3, 4] exYR3
theorem rowSm_w (l : List UInt8) (bad : Bool) (sz : Nat) (R : List D) (j most : Nat) (xs : List Int) (hR : R[j]? = some (L (row1 .i64 xs))) (hm : most < 9223372036854775808) (hxl : xs.length ≤ 140737488351232) (hx : ∀ x ∈ xs, fSm x) (hl : (l ++ eRow eSm xs).length ≤ 1099511627776) :
  CallG Tryz.prog 151 [.ptr 0 0 0 1, .ptr 3 0 j 1, .int .i64 most, .fn 180 [.ptr 4 0 0 1]] [Cw 1 bad, Ww 2 l.length, acc true 1 true (r8 l), Va sz R, Bx 0] (.tup [])
   [Cw 1 (bad || xRow xSm most xs), Ww 2 (l ++ eRow eSm xs).length, acc true 1 true (r8 (l ++ eRow eSm xs)), Va sz R, Bx 0] :=
 rowI_w (kk := .i64) Tryz.func151 low151 (by decide) (fun l bad a => elSm_w l bad a) l bad sz R j most xs hR hm hxl hx hl
def eDa (x : Int × Int) : List UInt8 := num (zz x.1) ++ num (uI x.2)
def xDa (x : Int × Int) : Bool := (decide (x.1 < (-5) ∨ 5 < x.1) || decide (6 < uI x.2))
def cDa (x : Int × Int) : List D := [.int .i64 x.1, .int .i64 x.2]
def fDa (x : Int × Int) : Prop := Fit x.1 ∧ Fit x.2
theorem elDa_w (l : List UInt8) (bad : Bool) (x : Int × Int) (hx : fDa x) (hl : (l ++ eDa x).length ≤ 1099511627776) :
  CallG Tryz.prog 179 [.ptr 0 0 0 1, .ptr 1 0 0 1] [Va 2 (cDa x), Bx 2, Cw 3 bad, Ww 4 l.length, acc true 1 true (r8 l)] (.tup [])
   [Va 2 (cDa x), Bx 2, Cw 3 (bad || xDa x), Ww 4 (l ++ eDa x).length, acc true 1 true (r8 (l ++ eDa x))] := by
 refine callG Tryz.func179 low179 (by simp [c179]) ?_
 simp only [c179]
 unfold fDa at hx
 obtain ⟨l1, e1⟩ : ∃ l1, l1 = l ++ num (zz x.1) := ⟨_, rfl⟩
 obtain ⟨b1, d1⟩ : ∃ b1, b1 = (bad || decide (x.1 < (-5) ∨ 5 < x.1)) := ⟨_, rfl⟩
 obtain ⟨l2, e2⟩ : ∃ l2, l2 = l1 ++ num (uI x.2) := ⟨_, rfl⟩
 obtain ⟨b2, d2⟩ : ∃ b2, b2 = (b1 || decide (6 < uI x.2)) := ⟨_, rfl⟩
 have el : l ++ eDa x = l2 := by rw [e2, e1]; simp [eDa]
 have eb : (bad || xDa x) = b2 := by rw [d2, d1]; simp [xDa, Bool.or_assoc]
 rw [el] at hl
 rw [el, eb]
 have g1 : l1.length ≤ l2.length := by rw [e2, List.length_append]; omega
 have g0 : l.length ≤ l1.length := by rw [e1, List.length_append]; omega
 have h1 := sigI_w l bad 2 (cDa x) 0 x.1 (-5) 5 rfl hx.1 (by omega)
 rw [← e1, ← d1] at h1
 have h2 := numI_w l1 b1 2 (cDa x) 1 6 x.2 rfl hx.2 (by omega) (by omega)
 rw [← e2, ← d2] at h2
 clear e1 e2 d1 d2 el eb
 refine wk [170, 131] [] exYR3 ?_
 exact rtw [0, 1, 2, 3, 4] exYR3
theorem rowDa_w (l : List UInt8) (bad : Bool) (sz : Nat) (R : List D) (j most : Nat) (xs : List (Int × Int)) (hR : R[j]? = some (L (row2 .i64 .i64 xs))) (hm : most < 9223372036854775808) (hxl : xs.length ≤ 140737488351232) (hx : ∀ x ∈ xs, fDa x) (hl : (l ++ eRow eDa xs).length ≤ 1099511627776) :
  CallG Tryz.prog 178 [.ptr 0 0 0 1, .ptr 3 0 j 1, .int .i64 most, .fn 179 [.ptr 4 0 0 1]] [Cw 1 bad, Ww 2 l.length, acc true 1 true (r8 l), Va sz R, Bx 0] (.tup [])
   [Cw 1 (bad || xRow xDa most xs), Ww 2 (l ++ eRow eDa xs).length, acc true 1 true (r8 (l ++ eRow eDa xs)), Va sz R, Bx 0] :=
 rowS_w (rw_ := cDa) Tryz.func178 low178 (by decide) (by decide) rfl (fun _ => rfl) rfl rfl (fun _ => rfl) (fun _ => rfl) (fun _ => rfl) (fun l bad a => elDa_w l bad a) l bad sz R j most xs hR hm hxl hx hl
def eEx (x : Int) : List UInt8 := num (zz x)
def xEx (x : Int) : Bool := false
def cEx (x : Int) : List D := [.int .i64 x]
def fEx (x : Int) : Prop := Fit x
theorem elEx_w (l : List UInt8) (bad : Bool) (x : Int) (hx : fEx x) (hl : (l ++ eEx x).length ≤ 1099511627776) :
  CallG Tryz.prog 155 [.ptr 0 0 0 1, .ptr 1 0 0 1] [Va 1 (cEx x), Bx 2, Cw 3 bad, Ww 4 l.length, acc true 1 true (r8 l)] (.tup [])
   [Va 1 (cEx x), Bx 2, Cw 3 (bad || xEx x), Ww 4 (l ++ eEx x).length, acc true 1 true (r8 (l ++ eEx x))] := by
 refine callG Tryz.func155 low155 (by simp [c155]) ?_
 simp only [c155]
 unfold fEx at hx
 obtain ⟨l1, e1⟩ : ∃ l1, l1 = l ++ num (zz x) := ⟨_, rfl⟩
 have el : l ++ eEx x = l1 := by rw [e1]; simp [eEx]
 have eb : (bad || xEx x) = bad := by simp [xEx, Bool.or_assoc]
 rw [el] at hl
 rw [el, eb]
 have g0 : l.length ≤ l1.length := by rw [e1, List.length_append]; omega
 have h1 := minutes_w l bad 1 (cEx x) 0 x rfl hx (by omega)
 rw [← e1] at h1
 clear e1 el eb
 refine wk [87] [] exYR3 ?_
 exact rtw [0, 1, 2, 3, 4] exYR3
theorem rowEx_w (l : List UInt8) (bad : Bool) (sz : Nat) (R : List D) (j most : Nat) (xs : List Int) (hR : R[j]? = some (L (row1 .i64 xs))) (hm : most < 9223372036854775808) (hxl : xs.length ≤ 140737488351232) (hx : ∀ x ∈ xs, fEx x) (hl : (l ++ eRow eEx xs).length ≤ 1099511627776) :
  CallG Tryz.prog 127 [.ptr 0 0 0 1, .ptr 3 0 j 1, .int .i64 most, .fn 155 [.ptr 4 0 0 1]] [Cw 1 bad, Ww 2 l.length, acc true 1 true (r8 l), Va sz R, Bx 0] (.tup [])
   [Cw 1 (bad || xRow xEx most xs), Ww 2 (l ++ eRow eEx xs).length, acc true 1 true (r8 (l ++ eRow eEx xs)), Va sz R, Bx 0] :=
 rowI_w (kk := .i64) Tryz.func127 low127 (by decide) (fun l bad a => elEx_w l bad a) l bad sz R j most xs hR hm hxl hx hl
def ePl (x : Int) : List UInt8 := num (zz x)
def xPl (x : Int) : Bool := false
def cPl (x : Int) : List D := [.int .i64 x]
def fPl (x : Int) : Prop := Fit x
theorem elPl_w (l : List UInt8) (bad : Bool) (x : Int) (hx : fPl x) (hl : (l ++ ePl x).length ≤ 1099511627776) :
  CallG Tryz.prog 156 [.ptr 0 0 0 1, .ptr 1 0 0 1] [Va 1 (cPl x), Bx 2, Cw 3 bad, Ww 4 l.length, acc true 1 true (r8 l)] (.tup [])
   [Va 1 (cPl x), Bx 2, Cw 3 (bad || xPl x), Ww 4 (l ++ ePl x).length, acc true 1 true (r8 (l ++ ePl x))] := by
 refine callG Tryz.func156 low156 (by simp [c156]) ?_
 simp only [c156]
 unfold fPl at hx
 obtain ⟨l1, e1⟩ : ∃ l1, l1 = l ++ num (zz x) := ⟨_, rfl⟩
 have el : l ++ ePl x = l1 := by rw [e1]; simp [ePl]
 have eb : (bad || xPl x) = bad := by simp [xPl, Bool.or_assoc]
 rw [el] at hl
 rw [el, eb]
 have g0 : l.length ≤ l1.length := by rw [e1, List.length_append]; omega
 have h1 := minutes_w l bad 1 (cPl x) 0 x rfl hx (by omega)
 rw [← e1] at h1
 clear e1 el eb
 refine wk [87] [] exYR3 ?_
 exact rtw [0, 1, 2, 3, 4] exYR3
theorem rowPl_w (l : List UInt8) (bad : Bool) (sz : Nat) (R : List D) (j most : Nat) (xs : List Int) (hR : R[j]? = some (L (row1 .i64 xs))) (hm : most < 9223372036854775808) (hxl : xs.length ≤ 140737488351232) (hx : ∀ x ∈ xs, fPl x) (hl : (l ++ eRow ePl xs).length ≤ 1099511627776) :
  CallG Tryz.prog 127 [.ptr 0 0 0 1, .ptr 3 0 j 1, .int .i64 most, .fn 156 [.ptr 4 0 0 1]] [Cw 1 bad, Ww 2 l.length, acc true 1 true (r8 l), Va sz R, Bx 0] (.tup [])
   [Cw 1 (bad || xRow xPl most xs), Ww 2 (l ++ eRow ePl xs).length, acc true 1 true (r8 (l ++ eRow ePl xs)), Va sz R, Bx 0] :=
 rowI_w (kk := .i64) Tryz.func127 low127 (by decide) (fun l bad a => elPl_w l bad a) l bad sz R j most xs hR hm hxl hx hl
def eCh (x : Int × Int × Int) : List UInt8 := num (zz x.1) ++ (num (zz x.2.1) ++ num (uI x.2.2))
def xCh (x : Int × Int × Int) : Bool := decide (10080 < uI x.2.2)
def cCh (x : Int × Int × Int) : List D := [.int .i64 x.1, .int .i64 x.2.1, .int .i64 x.2.2]
def fCh (x : Int × Int × Int) : Prop := Fit x.1 ∧ Fit x.2.1 ∧ Fit x.2.2
theorem elCh_w (l : List UInt8) (bad : Bool) (x : Int × Int × Int) (hx : fCh x) (hl : (l ++ eCh x).length ≤ 1099511627776) :
  CallG Tryz.prog 158 [.ptr 0 0 0 1, .ptr 1 0 0 1] [Va 3 (cCh x), Bx 2, Cw 3 bad, Ww 4 l.length, acc true 1 true (r8 l)] (.tup [])
   [Va 3 (cCh x), Bx 2, Cw 3 (bad || xCh x), Ww 4 (l ++ eCh x).length, acc true 1 true (r8 (l ++ eCh x))] := by
 refine callG Tryz.func158 low158 (by simp [c158]) ?_
 simp only [c158]
 unfold fCh at hx
 obtain ⟨l1, e1⟩ : ∃ l1, l1 = l ++ num (zz x.1) := ⟨_, rfl⟩
 obtain ⟨l2, e2⟩ : ∃ l2, l2 = l1 ++ num (zz x.2.1) := ⟨_, rfl⟩
 obtain ⟨l3, e3⟩ : ∃ l3, l3 = l2 ++ num (uI x.2.2) := ⟨_, rfl⟩
 obtain ⟨b3, d3⟩ : ∃ b3, b3 = (bad || decide (10080 < uI x.2.2)) := ⟨_, rfl⟩
 have el : l ++ eCh x = l3 := by rw [e3, e2, e1]; simp [eCh]
 have eb : (bad || xCh x) = b3 := by rw [d3]; simp [xCh, Bool.or_assoc]
 rw [el] at hl
 rw [el, eb]
 have g2 : l2.length ≤ l3.length := by rw [e3, List.length_append]; omega
 have g1 : l1.length ≤ l2.length := by rw [e2, List.length_append]; omega
 have g0 : l.length ≤ l1.length := by rw [e1, List.length_append]; omega
 have h1 := minutes_w l bad 3 (cCh x) 0 x.1 rfl hx.1 (by omega)
 rw [← e1] at h1
 have h2 := minutes_w l1 bad 3 (cCh x) 1 x.2.1 rfl hx.2.1 (by omega)
 rw [← e2] at h2
 have h3 := numI_w l2 bad 3 (cCh x) 2 10080 x.2.2 rfl hx.2.2 (by omega) (by omega)
 rw [← e3, ← d3] at h3
 clear e1 e2 e3 d3 el eb
 refine wk [87, 131] [] exYR3 ?_
 exact rtw [0, 1, 2, 3, 4] exYR3
theorem rowCh_w (l : List UInt8) (bad : Bool) (sz : Nat) (R : List D) (j most : Nat) (xs : List (Int × Int × Int)) (hR : R[j]? = some (L (row3 xs))) (hm : most < 9223372036854775808) (hxl : xs.length ≤ 140737488351232) (hx : ∀ x ∈ xs, fCh x) (hl : (l ++ eRow eCh xs).length ≤ 1099511627776) :
  CallG Tryz.prog 157 [.ptr 0 0 0 1, .ptr 3 0 j 1, .int .i64 most, .fn 158 [.ptr 4 0 0 1]] [Cw 1 bad, Ww 2 l.length, acc true 1 true (r8 l), Va sz R, Bx 0] (.tup [])
   [Cw 1 (bad || xRow xCh most xs), Ww 2 (l ++ eRow eCh xs).length, acc true 1 true (r8 (l ++ eRow eCh xs)), Va sz R, Bx 0] :=
 rowS_w (rw_ := cCh) Tryz.func157 low157 (by decide) (by decide) rfl (fun _ => rfl) rfl rfl (fun _ => rfl) (fun _ => rfl) (fun _ => rfl) (fun l bad a => elCh_w l bad a) l bad sz R j most xs hR hm hxl hx hl
def eMu (x : Int) : List UInt8 := num (uI x)
def xMu (x : Int) : Bool := false
def cMu (x : Int) : List D := [.int .u32 x]
def fMu (x : Int) : Prop := (0 ≤ x ∧ x ≤ 4294967295)
theorem elMu_w (l : List UInt8) (bad : Bool) (x : Int) (hx : fMu x) (hl : (l ++ eMu x).length ≤ 1099511627776) :
  CallG Tryz.prog 160 [.ptr 0 0 0 1, .ptr 1 0 0 1] [Va 1 (cMu x), Bx 2, Cw 3 bad, Ww 4 l.length, acc true 1 true (r8 l)] (.tup [])
   [Va 1 (cMu x), Bx 2, Cw 3 (bad || xMu x), Ww 4 (l ++ eMu x).length, acc true 1 true (r8 (l ++ eMu x))] := by
 refine callG Tryz.func160 low160 (by simp [c160]) ?_
 simp only [c160]
 unfold fMu at hx
 obtain ⟨l1, e1⟩ : ∃ l1, l1 = l ++ num (uI x) := ⟨_, rfl⟩
 have el : l ++ eMu x = l1 := by rw [e1]; simp [eMu]
 have eb : (bad || xMu x) = bad := by simp [xMu, Bool.or_assoc]
 rw [el] at hl
 rw [el, eb]
 have g0 : l.length ≤ l1.length := by rw [e1, List.length_append]; omega
 have h1 := name_w l bad 1 (cMu x) 0 x rfl hx (by omega)
 rw [← e1] at h1
 clear e1 el eb
 refine wk [94] [] exYR3 ?_
 exact rtw [0, 1, 2, 3, 4] exYR3
theorem rowMu_w (l : List UInt8) (bad : Bool) (sz : Nat) (R : List D) (j most : Nat) (xs : List Int) (hR : R[j]? = some (L (row1 .u32 xs))) (hm : most < 9223372036854775808) (hxl : xs.length ≤ 140737488351232) (hx : ∀ x ∈ xs, fMu x) (hl : (l ++ eRow eMu xs).length ≤ 1099511627776) :
  CallG Tryz.prog 159 [.ptr 0 0 0 1, .ptr 3 0 j 1, .int .i64 most, .fn 160 [.ptr 4 0 0 1]] [Cw 1 bad, Ww 2 l.length, acc true 1 true (r8 l), Va sz R, Bx 0] (.tup [])
   [Cw 1 (bad || xRow xMu most xs), Ww 2 (l ++ eRow eMu xs).length, acc true 1 true (r8 (l ++ eRow eMu xs)), Va sz R, Bx 0] :=
 rowI_w (kk := .u32) Tryz.func159 low159 (by decide) (fun l bad a => elMu_w l bad a) l bad sz R j most xs hR hm hxl hx hl
def eWa (x : Int × Int) : List UInt8 := num (uI x.1) ++ num (uI x.2)
def xWa (x : Int × Int) : Bool := decide (1000 < uI x.2)
def cWa (x : Int × Int) : List D := [.int .u32 x.1, .int .i64 x.2]
def fWa (x : Int × Int) : Prop := (0 ≤ x.1 ∧ x.1 ≤ 4294967295) ∧ Fit x.2
theorem elWa_w (l : List UInt8) (bad : Bool) (x : Int × Int) (hx : fWa x) (hl : (l ++ eWa x).length ≤ 1099511627776) :
  CallG Tryz.prog 162 [.ptr 0 0 0 1, .ptr 1 0 0 1] [Va 2 (cWa x), Bx 2, Cw 3 bad, Ww 4 l.length, acc true 1 true (r8 l)] (.tup [])
   [Va 2 (cWa x), Bx 2, Cw 3 (bad || xWa x), Ww 4 (l ++ eWa x).length, acc true 1 true (r8 (l ++ eWa x))] := by
 refine callG Tryz.func162 low162 (by simp [c162]) ?_
 simp only [c162]
 unfold fWa at hx
 obtain ⟨l1, e1⟩ : ∃ l1, l1 = l ++ num (uI x.1) := ⟨_, rfl⟩
 obtain ⟨l2, e2⟩ : ∃ l2, l2 = l1 ++ num (uI x.2) := ⟨_, rfl⟩
 obtain ⟨b2, d2⟩ : ∃ b2, b2 = (bad || decide (1000 < uI x.2)) := ⟨_, rfl⟩
 have el : l ++ eWa x = l2 := by rw [e2, e1]; simp [eWa]
 have eb : (bad || xWa x) = b2 := by rw [d2]; simp [xWa, Bool.or_assoc]
 rw [el] at hl
 rw [el, eb]
 have g1 : l1.length ≤ l2.length := by rw [e2, List.length_append]; omega
 have g0 : l.length ≤ l1.length := by rw [e1, List.length_append]; omega
 have h1 := name_w l bad 2 (cWa x) 0 x.1 rfl hx.1 (by omega)
 rw [← e1] at h1
 have h2 := numI_w l1 bad 2 (cWa x) 1 1000 x.2 rfl hx.2 (by omega) (by omega)
 rw [← e2, ← d2] at h2
 clear e1 e2 d2 el eb
 refine wk [94, 131] [] exYR3 ?_
 exact rtw [0, 1, 2, 3, 4] exYR3
theorem rowWa_w (l : List UInt8) (bad : Bool) (sz : Nat) (R : List D) (j most : Nat) (xs : List (Int × Int)) (hR : R[j]? = some (L (row2 .u32 .i64 xs))) (hm : most < 9223372036854775808) (hxl : xs.length ≤ 140737488351232) (hx : ∀ x ∈ xs, fWa x) (hl : (l ++ eRow eWa xs).length ≤ 1099511627776) :
  CallG Tryz.prog 161 [.ptr 0 0 0 1, .ptr 3 0 j 1, .int .i64 most, .fn 162 [.ptr 4 0 0 1]] [Cw 1 bad, Ww 2 l.length, acc true 1 true (r8 l), Va sz R, Bx 0] (.tup [])
   [Cw 1 (bad || xRow xWa most xs), Ww 2 (l ++ eRow eWa xs).length, acc true 1 true (r8 (l ++ eRow eWa xs)), Va sz R, Bx 0] :=
 rowS_w (rw_ := cWa) Tryz.func161 low161 (by decide) (by decide) rfl (fun _ => rfl) rfl rfl (fun _ => rfl) (fun _ => rfl) (fun _ => rfl) (fun l bad a => elWa_w l bad a) l bad sz R j most xs hR hm hxl hx hl
def ePa (x : Int × Int) : List UInt8 := num (uI x.1) ++ num (uI x.2)
def xPa (x : Int × Int) : Bool := false
def cPa (x : Int × Int) : List D := [.int .u32 x.1, .int .u32 x.2]
def fPa (x : Int × Int) : Prop := (0 ≤ x.1 ∧ x.1 ≤ 4294967295) ∧ (0 ≤ x.2 ∧ x.2 ≤ 4294967295)
theorem elPa_w (l : List UInt8) (bad : Bool) (x : Int × Int) (hx : fPa x) (hl : (l ++ ePa x).length ≤ 1099511627776) :
  CallG Tryz.prog 164 [.ptr 0 0 0 1, .ptr 1 0 0 1] [Va 2 (cPa x), Bx 2, Cw 3 bad, Ww 4 l.length, acc true 1 true (r8 l)] (.tup [])
   [Va 2 (cPa x), Bx 2, Cw 3 (bad || xPa x), Ww 4 (l ++ ePa x).length, acc true 1 true (r8 (l ++ ePa x))] := by
 refine callG Tryz.func164 low164 (by simp [c164]) ?_
 simp only [c164]
 unfold fPa at hx
 obtain ⟨l1, e1⟩ : ∃ l1, l1 = l ++ num (uI x.1) := ⟨_, rfl⟩
 obtain ⟨l2, e2⟩ : ∃ l2, l2 = l1 ++ num (uI x.2) := ⟨_, rfl⟩
 have el : l ++ ePa x = l2 := by rw [e2, e1]; simp [ePa]
 have eb : (bad || xPa x) = bad := by simp [xPa, Bool.or_assoc]
 rw [el] at hl
 rw [el, eb]
 have g1 : l1.length ≤ l2.length := by rw [e2, List.length_append]; omega
 have g0 : l.length ≤ l1.length := by rw [e1, List.length_append]; omega
 have h1 := name_w l bad 2 (cPa x) 0 x.1 rfl hx.1 (by omega)
 rw [← e1] at h1
 have h2 := name_w l1 bad 2 (cPa x) 1 x.2 rfl hx.2 (by omega)
 rw [← e2] at h2
 clear e1 e2 el eb
 refine wk [94] [] exYR3 ?_
 exact rtw [0, 1, 2, 3, 4] exYR3
theorem rowPa_w (l : List UInt8) (bad : Bool) (sz : Nat) (R : List D) (j most : Nat) (xs : List (Int × Int)) (hR : R[j]? = some (L (row2 .u32 .u32 xs))) (hm : most < 9223372036854775808) (hxl : xs.length ≤ 140737488351232) (hx : ∀ x ∈ xs, fPa x) (hl : (l ++ eRow ePa xs).length ≤ 1099511627776) :
  CallG Tryz.prog 163 [.ptr 0 0 0 1, .ptr 3 0 j 1, .int .i64 most, .fn 164 [.ptr 4 0 0 1]] [Cw 1 bad, Ww 2 l.length, acc true 1 true (r8 l), Va sz R, Bx 0] (.tup [])
   [Cw 1 (bad || xRow xPa most xs), Ww 2 (l ++ eRow ePa xs).length, acc true 1 true (r8 (l ++ eRow ePa xs)), Va sz R, Bx 0] :=
 rowS_w (rw_ := cPa) Tryz.func163 low163 (by decide) (by decide) rfl (fun _ => rfl) rfl rfl (fun _ => rfl) (fun _ => rfl) (fun _ => rfl) (fun l bad a => elPa_w l bad a) l bad sz R j most xs hR hm hxl hx hl
def eTs (x : Int) : List UInt8 := num (zz x)
def xTs (x : Int) : Bool := false
def cTs (x : Int) : List D := [.int .i64 x]
def fTs (x : Int) : Prop := Fit x
theorem elTs_w (l : List UInt8) (bad : Bool) (x : Int) (hx : fTs x) (hl : (l ++ eTs x).length ≤ 1099511627776) :
  CallG Tryz.prog 128 [.ptr 0 0 0 1, .ptr 1 0 0 1] [Va 1 (cTs x), Bx 2, Cw 3 bad, Ww 4 l.length, acc true 1 true (r8 l)] (.tup [])
   [Va 1 (cTs x), Bx 2, Cw 3 (bad || xTs x), Ww 4 (l ++ eTs x).length, acc true 1 true (r8 (l ++ eTs x))] := by
 refine callG Tryz.func128 low128 (by simp [c128]) ?_
 simp only [c128]
 unfold fTs at hx
 obtain ⟨l1, e1⟩ : ∃ l1, l1 = l ++ num (zz x) := ⟨_, rfl⟩
 have el : l ++ eTs x = l1 := by rw [e1]; simp [eTs]
 have eb : (bad || xTs x) = bad := by simp [xTs, Bool.or_assoc]
 rw [el] at hl
 rw [el, eb]
 have g0 : l.length ≤ l1.length := by rw [e1, List.length_append]; omega
 have h1 := minutes_w l bad 1 (cTs x) 0 x rfl hx (by omega)
 rw [← e1] at h1
 clear e1 el eb
 refine wk [87] [] exYR3 ?_
 exact rtw [0, 1, 2, 3, 4] exYR3
theorem rowTs_w (l : List UInt8) (bad : Bool) (sz : Nat) (R : List D) (j most : Nat) (xs : List Int) (hR : R[j]? = some (L (row1 .i64 xs))) (hm : most < 9223372036854775808) (hxl : xs.length ≤ 140737488351232) (hx : ∀ x ∈ xs, fTs x) (hl : (l ++ eRow eTs xs).length ≤ 1099511627776) :
  CallG Tryz.prog 127 [.ptr 0 0 0 1, .ptr 3 0 j 1, .int .i64 most, .fn 128 [.ptr 4 0 0 1]] [Cw 1 bad, Ww 2 l.length, acc true 1 true (r8 l), Va sz R, Bx 0] (.tup [])
   [Cw 1 (bad || xRow xTs most xs), Ww 2 (l ++ eRow eTs xs).length, acc true 1 true (r8 (l ++ eRow eTs xs)), Va sz R, Bx 0] :=
 rowI_w (kk := .i64) Tryz.func127 low127 (by decide) (fun l bad a => elTs_w l bad a) l bad sz R j most xs hR hm hxl hx hl
def eVo (x : Int × Int) : List UInt8 := num (uI x.1) ++ num (uI x.2)
def xVo (x : Int × Int) : Bool := decide (40 < uI x.2)
def cVo (x : Int × Int) : List D := [.int .u32 x.1, .int .i64 x.2]
def fVo (x : Int × Int) : Prop := (0 ≤ x.1 ∧ x.1 ≤ 4294967295) ∧ Fit x.2
theorem elVo_w (l : List UInt8) (bad : Bool) (x : Int × Int) (hx : fVo x) (hl : (l ++ eVo x).length ≤ 1099511627776) :
  CallG Tryz.prog 130 [.ptr 0 0 0 1, .ptr 1 0 0 1] [Va 2 (cVo x), Bx 2, Cw 3 bad, Ww 4 l.length, acc true 1 true (r8 l)] (.tup [])
   [Va 2 (cVo x), Bx 2, Cw 3 (bad || xVo x), Ww 4 (l ++ eVo x).length, acc true 1 true (r8 (l ++ eVo x))] := by
 refine callG Tryz.func130 low130 (by simp [c130]) ?_
 simp only [c130]
 unfold fVo at hx
 obtain ⟨l1, e1⟩ : ∃ l1, l1 = l ++ num (uI x.1) := ⟨_, rfl⟩
 obtain ⟨l2, e2⟩ : ∃ l2, l2 = l1 ++ num (uI x.2) := ⟨_, rfl⟩
 obtain ⟨b2, d2⟩ : ∃ b2, b2 = (bad || decide (40 < uI x.2)) := ⟨_, rfl⟩
 have el : l ++ eVo x = l2 := by rw [e2, e1]; simp [eVo]
 have eb : (bad || xVo x) = b2 := by rw [d2]; simp [xVo, Bool.or_assoc]
 rw [el] at hl
 rw [el, eb]
 have g1 : l1.length ≤ l2.length := by rw [e2, List.length_append]; omega
 have g0 : l.length ≤ l1.length := by rw [e1, List.length_append]; omega
 have h1 := name_w l bad 2 (cVo x) 0 x.1 rfl hx.1 (by omega)
 rw [← e1] at h1
 have h2 := numI_w l1 bad 2 (cVo x) 1 40 x.2 rfl hx.2 (by omega) (by omega)
 rw [← e2, ← d2] at h2
 clear e1 e2 d2 el eb
 refine wk [94, 131] [] exYR3 ?_
 exact rtw [0, 1, 2, 3, 4] exYR3
theorem rowVo_w (l : List UInt8) (bad : Bool) (sz : Nat) (R : List D) (j most : Nat) (xs : List (Int × Int)) (hR : R[j]? = some (L (row2 .u32 .i64 xs))) (hm : most < 9223372036854775808) (hxl : xs.length ≤ 140737488351232) (hx : ∀ x ∈ xs, fVo x) (hl : (l ++ eRow eVo xs).length ≤ 1099511627776) :
  CallG Tryz.prog 129 [.ptr 0 0 0 1, .ptr 3 0 j 1, .int .i64 most, .fn 130 [.ptr 4 0 0 1]] [Cw 1 bad, Ww 2 l.length, acc true 1 true (r8 l), Va sz R, Bx 0] (.tup [])
   [Cw 1 (bad || xRow xVo most xs), Ww 2 (l ++ eRow eVo xs).length, acc true 1 true (r8 (l ++ eRow eVo xs)), Va sz R, Bx 0] :=
 rowS_w (rw_ := cVo) Tryz.func129 low129 (by decide) (by decide) rfl (fun _ => rfl) rfl rfl (fun _ => rfl) (fun _ => rfl) (fun _ => rfl) (fun l bad a => elVo_w l bad a) l bad sz R j most xs hR hm hxl hx hl
def eDn (x : Int × Int × Int) : List UInt8 := num (uI x.1) ++ (num (uI x.2.1) ++ num (uI x.2.2))
def xDn (x : Int × Int × Int) : Bool := false
def cDn (x : Int × Int × Int) : List D := [.int .u32 x.1, .int .u64 x.2.1, .int .u64 x.2.2]
def fDn (x : Int × Int × Int) : Prop := (0 ≤ x.1 ∧ x.1 ≤ 4294967295) ∧ (0 ≤ x.2.1 ∧ x.2.1 ≤ 18446744073709551615) ∧ (0 ≤ x.2.2 ∧ x.2.2 ≤ 18446744073709551615)
theorem elDn_w (l : List UInt8) (bad : Bool) (x : Int × Int × Int) (hx : fDn x) (hl : (l ++ eDn x).length ≤ 1099511627776) :
  CallG Tryz.prog 93 [.ptr 0 0 0 1, .ptr 1 0 0 1] [Va 3 (cDn x), Bx 2, Cw 3 bad, Ww 4 l.length, acc true 1 true (r8 l)] (.tup [])
   [Va 3 (cDn x), Bx 2, Cw 3 (bad || xDn x), Ww 4 (l ++ eDn x).length, acc true 1 true (r8 (l ++ eDn x))] := by
 refine callG Tryz.func93 low93 (by simp [c93]) ?_
 simp only [c93]
 unfold fDn at hx
 obtain ⟨l1, e1⟩ : ∃ l1, l1 = l ++ num (uI x.1) := ⟨_, rfl⟩
 obtain ⟨l2, e2⟩ : ∃ l2, l2 = l1 ++ num (uI x.2.1) := ⟨_, rfl⟩
 obtain ⟨l3, e3⟩ : ∃ l3, l3 = l2 ++ num (uI x.2.2) := ⟨_, rfl⟩
 have el : l ++ eDn x = l3 := by rw [e3, e2, e1]; simp [eDn]
 have eb : (bad || xDn x) = bad := by simp [xDn, Bool.or_assoc]
 rw [el] at hl
 rw [el, eb]
 have g2 : l2.length ≤ l3.length := by rw [e3, List.length_append]; omega
 have g1 : l1.length ≤ l2.length := by rw [e2, List.length_append]; omega
 have g0 : l.length ≤ l1.length := by rw [e1, List.length_append]; omega
 have h1 := name_w l bad 3 (cDn x) 0 x.1 rfl hx.1 (by omega)
 rw [← e1] at h1
 have h2 := big_w l1 bad 3 (cDn x) 1 x.2.1 rfl hx.2.1 (by omega)
 rw [← e2] at h2
 have h3 := big_w l2 bad 3 (cDn x) 2 x.2.2 rfl hx.2.2 (by omega)
 rw [← e3] at h3
 clear e1 e2 e3 el eb
 refine wk [94, 95] [] exYR3 ?_
 exact rtw [0, 1, 2, 3, 4] exYR3
theorem rowDn_w (l : List UInt8) (bad : Bool) (sz : Nat) (R : List D) (j most : Nat) (xs : List (Int × Int × Int)) (hR : R[j]? = some (L (rowQ xs))) (hm : most < 9223372036854775808) (hxl : xs.length ≤ 140737488351232) (hx : ∀ x ∈ xs, fDn x) (hl : (l ++ eRow eDn xs).length ≤ 1099511627776) :
  CallG Tryz.prog 92 [.ptr 0 0 0 1, .ptr 3 0 j 1, .int .i64 most, .fn 93 [.ptr 4 0 0 1]] [Cw 1 bad, Ww 2 l.length, acc true 1 true (r8 l), Va sz R, Bx 0] (.tup [])
   [Cw 1 (bad || xRow xDn most xs), Ww 2 (l ++ eRow eDn xs).length, acc true 1 true (r8 (l ++ eRow eDn xs)), Va sz R, Bx 0] :=
 rowS_w (rw_ := cDn) Tryz.func92 low92 (by decide) (by decide) rfl (fun _ => rfl) rfl rfl (fun _ => rfl) (fun _ => rfl) (fun _ => rfl) (fun l bad a => elDn_w l bad a) l bad sz R j most xs hR hm hxl hx hl
end Go.Proofs.YtapennlmboabeaaGreat
