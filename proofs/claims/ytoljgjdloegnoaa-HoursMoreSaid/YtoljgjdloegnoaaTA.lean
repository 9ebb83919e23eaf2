import Derived.Test.YtoljgjdloegnoaaT0
import Derived.Test.YtoljgjdloegnoaaVi26
import Derived.Test.YtoljgjdloegnoaaVi27
import Derived.Test.YtoljgjdloegnoaaXX
import Derived.Test.YtoljgjdloegnoaaVi33
set_option linter.unusedVariables false
set_option linter.unusedSimpArgs false
set_option linter.unnecessarySimpa false
namespace Go.Proofs.Ytoljgjdloegnoaa
open Go Go.Vi
theorem mixed : Try.prog.follows .mixedOrders = true := by kernel_rfl
def row1 (k : IntKind) (l : List Int) : List (List D) := l.map fun x => [.int k x]
def row2 (k m : IntKind) (l : List (Int × Int)) : List (List D) := l.map fun x => [.int k x.1, .int m x.2]
def row3 (l : List (Int × Int × Int)) : List (List D) := l.map fun x => [.int .i64 x.1, .int .i64 x.2.1, .int .i64 x.2.2]
abbrev L (rows : List (List D)) : D := .list none false rows
theorem row1_len {k : IntKind} {l : List Int} : (row1 k l).length = l.length := by simp [row1]
theorem row2_len {k m : IntKind} {l : List (Int × Int)} : (row2 k m l).length = l.length := by simp [row2]
theorem row3_len {l : List (Int × Int × Int)} : (row3 l).length = l.length := by simp [row3]
theorem row1_get {k : IntKind} {l : List Int} {i : Nat} {x : Int} (h : l[i]? = some x) : (row1 k l)[i]? = some [.int k x] := by simp [row1, h]
theorem row2_get {k m : IntKind} {l : List (Int × Int)} {i : Nat} {x : Int × Int} (h : l[i]? = some x) : (row2 k m l)[i]? = some [.int k x.1, .int m x.2] := by simp [row2, h]
theorem row3_get {l : List (Int × Int × Int)} {i : Nat} {x : Int × Int × Int} (h : l[i]? = some x) : (row3 l)[i]? = some [.int .i64 x.1, .int .i64 x.2.1, .int .i64 x.2.2] := by simp [row3, h]
theorem pw_step {α : Type} {R : α → α → Prop} (tr : ∀ a b c, R a b → R b c → R a c) {l : List α} {i : Nat} {x y : α} (h : (l.take (i + 1)).Pairwise R) (hx : l[i]? = some x) (hy : l[i + 1]? = some y) (hxy : R x y) : (l.take (i + 1 + 1)).Pairwise R := by
 have e1 : l.take (i + 1 + 1) = l.take (i + 1) ++ [y] := by rw [List.take_add_one (i := i + 1), hy]; rfl
 have e2 : l.take (i + 1) = l.take i ++ [x] := by rw [List.take_add_one, hx]; rfl
 rw [e1, List.pairwise_append]
 refine ⟨h, by simp, fun a ha b hb => ?_⟩
 simp at hb; subst hb
 rw [e2] at ha h
 rcases List.mem_append.1 ha with h' | h'
 ·exact tr _ _ _ ((List.pairwise_append.1 h).2.2 a h' x (by simp)) hxy
 ·simp at h'; subst h'; exact hxy
theorem pw_no {α : Type} {R : α → α → Prop} {l : List α} {i : Nat} {x y : α} (hx : l[i]? = some x) (hy : l[i + 1]? = some y) (hxy : ¬ R x y) : ¬ l.Pairwise R := fun h => by
 obtain ⟨h1, rfl⟩ := List.getElem?_eq_some_iff.1 hx
 obtain ⟨h2, rfl⟩ := List.getElem?_eq_some_iff.1 hy
 exact hxy (List.pairwise_iff_getElem.1 h i (i + 1) h1 h2 (Nat.lt_succ_self i))
theorem all_step {α : Type} {f : α → Bool} {l : List α} {i : Nat} {x : α} (h : (l.take i).all f = true) (hx : l[i]? = some x) (hf : f x = true) : (l.take (i + 1)).all f = true := by
 rw [List.take_add_one, hx]
 simp only [List.all_append, h, Option.toList_some, List.all_cons, hf, List.all_nil, Bool.and_self]
theorem all_no {α : Type} {f : α → Bool} {l : List α} {i : Nat} {x : α} (hx : l[i]? = some x) (hf : f x = false) : l.all f = false := by
 rw [List.all_eq_false]
 exact ⟨x, List.mem_of_getElem? hx, by simp [hf]⟩
def risB (l : List Int) : Bool := decide (l.Pairwise fun a b => a < b)
def wideB (n : Int) : Bool := decide (n < -900 ∨ 900 < n)
theorem exTK1 : type_of% (an @row1_len (an @row2_len (an @row3_len @rowsS_len))) := (an @row1_len (an @row2_len (an @row3_len @rowsS_len)))
theorem wide_p (n : Int) : PureD Try.prog 33 [.int .i64 n] (.bool (wideB n)) := by
 refine pureV Try.func33 low33 (by simp [c33]) ?_
 simp only [c33]
 exact wk1 [] [] (an exTK1 @wideB.eq_1)
def turnB (t : Int × Int) : Bool := !wideB t.2 && decide (0 ≤ t.1 ∧ t.1 ≤ 158310720)
def farT (a b : Int × Int) : Prop := a.1 + 2880 ≤ b.1
instance (a b : Int × Int) : Decidable (farT a b) := inferInstanceAs (Decidable (_ ≤ _))
theorem farT_trans (a b c : Int × Int) (h : farT a b) (h' : farT b c) : farT a c := by unfold farT at *; omega
def zoneB (base : Int) (l : List (Int × Int)) : Bool := (!wideB base && decide (l.length ≤ 700)) && (l.all turnB && decide (l.Pairwise farT))
set_option maxHeartbeats 4000000 in
theorem zoneMay_p (base : Int) (l : List (Int × Int)) (hl : l.length ≤ 140737488351232) : PureD Try.prog 21 [.agg [.int .i64 base, L (row2 .i64 .i64 l)]] (.bool (zoneB base l)) := by
 refine pureV Try.func21 low21 (by simp [c21]) ?_
 simp only [c21]
 have wb := wide_p base
 by_cases hb : wideB base = true
 ·rw [hb] at wb
  have e : zoneB base l = false := by simp [zoneB, hb]
  rw [e]
  exact wk0 [] [] exTK1
 have hb' : wideB base = false := by simpa using hb
 rw [hb'] at wb
 by_cases hbig : 700 < l.length
 ·have c0 : ((l.length : Int) > 700) = True := by simp; omega
  have e : zoneB base l = false := by
   have : ¬ l.length ≤ 700 := by omega
   simp [zoneB, this]
  rw [e]
  exact wk0 [] [] (an exTK1 c0)
 have c0 : ((l.length : Int) > 700) = False := by simp; omega
 have e0 : zoneB base l = (l.all turnB && decide (l.Pairwise farT)) := by
  have : l.length ≤ 700 := by omega
  simp [zoneB, hb', this]
 rw [e0]
 refine wk [] [] (an exTK1 c0) ?_
 refine Run_loop (ι := {i : Nat // i ≤ l.length ∧ (l.take i).all turnB = true ∧ (l.take i).Pairwise farT}) (fun i => ([(1, .ptr 0 0 0 1), (15, L (row2 .i64 .i64 l)), (16, .int .i64 l.length), (17, .int .i64 i.1)], [⟨true, false, true, false, 2, [[.int .i64 base, L (row2 .i64 .i64 l)]], some 0⟩])) (fun i => l.length - i.1) ⟨0, by simp⟩ ?_ ?_
 ·exact gcw [0] exTK1
 rintro ⟨i, hi, ha, hp⟩ hk
 dsimp only at hk ⊢
 by_cases hlt : i < l.length
 ·have c2 : ((i : Int) < (l.length : Int)) = True := by simp; omega
  obtain ⟨x, hx⟩ : ∃ x, l[i]? = some x := ⟨_, List.getElem?_eq_getElem hlt⟩
  have rx := row2_get (k := .i64) (m := .i64) hx
  have wx := wide_p x.2
  by_cases hs : turnB x = true
  ·have hs' := hs
   simp only [turnB, Bool.and_eq_true, Bool.not_eq_true', decide_eq_true_eq] at hs'
   obtain ⟨n1, n2, n3⟩ := hs'
   rw [n1] at wx
   have d1 : (x.1 < 0) = False := by simp; omega
   have d2 : (x.1 > 158310720) = False := by simp; omega
   cases i with
   | zero =>
    refine wk [] [] (an exTK1 (an c2 (an rx (an d1 d2)))) ?_
    refine hk ⟨1, by omega, all_step ha hx hs, by rw [List.take_add_one, hx]; simp⟩ _ _ (by dsimp only; omega) ?_
    dsimp only
    exact gcw [0] exTK1
   | succ i =>
    obtain ⟨y, hy⟩ : ∃ y, l[i]? = some y := ⟨_, List.getElem?_eq_getElem (by omega)⟩
    have ry := row2_get (k := .i64) (m := .i64) hy
    have hty : turnB y = true := by
     have hm : y ∈ l.take (i + 1) := List.mem_of_getElem? (i := i) (by rw [List.getElem?_take, if_pos (by omega)]; exact hy)
     exact List.all_eq_true.1 ha y hm
    simp only [turnB, Bool.and_eq_true, Bool.not_eq_true', decide_eq_true_eq] at hty
    obtain ⟨_, m2, m3⟩ := hty
    have c7 : (((i + 1 : Nat) : Int) > 0) = True := by rw [eq_iff_iff]; exact ⟨fun _ => trivial, fun _ => by omega⟩
    have c8 : (((i + 1 : Nat) : Int) - 1) = (i : Int) := by omega
    by_cases hyx : farT y x
    ·have h9 := hyx
     unfold farT at h9
     have c9 : (x.1 < y.1) = False := by simp; omega
     have c10 : (x.1 - y.1 < 2880) = False := by simp; omega
     refine wk [] [] (an exTK1 (an c2 (an c7 (an c8 (an c9 (an c10 (an d1 (an d2 (an rx ry))))))))) ?_
     refine hk ⟨i + 1 + 1, by omega, all_step ha hx hs, pw_step farT_trans hp hy hx hyx⟩ _ _ (by dsimp only; omega) ?_
     dsimp only
     exact gcw [0] exTK1
    ·have e : (l.all turnB && decide (l.Pairwise farT)) = false := by
      have : decide (l.Pairwise farT) = false := by simpa using pw_no hy hx hyx
      rw [this, Bool.and_false]
     rw [e]
     unfold farT at hyx
     by_cases h9 : x.1 < y.1
     ·have c9 : (x.1 < y.1) = True := by simpa using h9
      exact wk0 [] [] (an exTK1 (an c2 (an c7 (an c8 (an c9 (an d1 (an d2 (an rx ry))))))))
     ·have c9 : (x.1 < y.1) = False := by simpa using h9
      have c10 : (x.1 - y.1 < 2880) = True := by simp; omega
      exact wk0 [] [] (an exTK1 (an c2 (an c7 (an c8 (an c9 (an c10 (an d1 (an d2 (an rx ry)))))))))
  ·have hs' : turnB x = false := by simpa using hs
   have e : (l.all turnB && decide (l.Pairwise farT)) = false := by rw [all_no hx hs', Bool.false_and]
   rw [e]
   by_cases n1 : wideB x.2 = true
   ·rw [n1] at wx
    exact wk0 [] [] (an exTK1 (an c2 rx))
   have n1' : wideB x.2 = false := by simpa using n1
   rw [n1'] at wx
   by_cases n2 : x.1 < 0
   ·have d1 : (x.1 < 0) = True := by simpa using n2
    exact wk0 [] [] (an exTK1 (an c2 (an rx d1)))
   have d1 : (x.1 < 0) = False := by simpa using n2
   have d2 : (x.1 > 158310720) = True := by
    simp only [turnB, n1', Bool.not_false, Bool.true_and, decide_eq_false_iff_not] at hs'
    simp; omega
   exact wk0 [] [] (an exTK1 (an c2 (an rx (an d1 d2))))
 ·have c2 : ((i : Int) < (l.length : Int)) = False := by simp; omega
  obtain rfl : i = l.length := by omega
  rw [List.take_length] at ha hp
  rw [ha, decide_eq_true hp]
  exact wk0 [] [] (an exTK1 c2)
def shiftB (s : Int × Int × Int) : Bool := decide (1 ≤ s.1 ∧ s.1 ≤ 127 ∧ 0 ≤ s.2.1 ∧ s.2.1 < s.2.2 ∧ s.2.2 ≤ 1440)
theorem shift_p (s : Int × Int × Int) : PureD Try.prog 20 [.agg [.int .i64 s.1, .int .i64 s.2.1, .int .i64 s.2.2]] (.bool (shiftB s)) := by
 refine pureV Try.func20 low20 (by simp [c20]) ?_
 simp only [c20]
 exact wk1 [] [] (an exTK1 @shiftB.eq_1)
theorem noShift_p (s : Int × Int × Int) : PureD Try.prog 19 [.agg [.int .i64 s.1, .int .i64 s.2.1, .int .i64 s.2.2]] (.bool (!shiftB s)) := by
 refine pureV Try.func19 low19 (by simp [c19]) ?_
 have h := shift_p s
 generalize shiftB s = b at h ⊢
 simp only [c19]
 exact wk0 [] [] exTK1
def idxS : List (Int × Int × Int) → Nat → Int
 | [], _ => -1
 | s :: l, n => if shiftB s = true then idxS l (n + 1) else n
theorem idxS_neg : ∀ (l : List (Int × Int × Int)) (n : Nat), (decide (idxS l n ≥ 0)) = !l.all shiftB
 | [], n => by simp [idxS]
 | s :: l, n => by
  by_cases h : shiftB s = true
  ·simp [idxS, h]; simpa using idxS_neg l (n + 1)
  ·have h' : shiftB s = false := by simpa using h
   simp [idxS, h']
theorem idxS_p (l : List (Int × Int × Int)) (hl : l.length ≤ 140737488351232) : PureD Try.prog 32 [L (row3 l), .fn 19 []] (.int .i64 (idxS l 0)) := by
 refine pureV Try.func32 low32 (by simp [c32]) ?_
 simp only [c32]
 refine wk [] [] exTK1 ?_
 refine Run_loop (ι := {i : Nat // i ≤ l.length ∧ idxS l 0 = idxS (l.drop i) i}) (fun i => ([(0, L (row3 l)), (1, .fn 19 []), (7, .int .i64 l.length), (8, .int .i64 i.1)], [])) (fun i => l.length - i.1) ⟨0, by simp⟩ ?_ ?_
 ·exact gcw [] exTK1
 rintro ⟨i, hi, hx⟩ hk
 dsimp only at hk ⊢
 by_cases hlt : i < l.length
 ·have c1 : ((i : Int) < (l.length : Int)) = True := by simp; omega
  obtain ⟨p, hp⟩ : ∃ p, l[i]? = some p := ⟨_, List.getElem?_eq_getElem hlt⟩
  have hr := row3_get hp
  have hdr : l.drop i = p :: l.drop (i + 1) := by
   rw [List.getElem?_eq_getElem hlt] at hp; cases hp; exact List.drop_eq_getElem_cons hlt
  have lv := noShift_p p
  by_cases hc : shiftB p = true
  ·rw [hc] at lv
   have e : idxS l 0 = idxS (l.drop (i + 1)) (i + 1) := by rw [hx, hdr]; simp [idxS, hc]
   simp only [Bool.not_true] at lv
   refine wk [] [] (an exTK1 (an c1 hr)) ?_
   refine hk ⟨i + 1, by omega, e⟩ _ _ (by dsimp only; omega) ?_
   dsimp only
   exact gcw [] exTK1
  ·have hc' : shiftB p = false := by simpa using hc
   rw [hc'] at lv
   have e : idxS l 0 = i := by rw [hx, hdr]; simp [idxS, hc']
   rw [e]
   simp only [Bool.not_false] at lv
   exact wk0 [] [] (an exTK1 (an c1 hr))
 ·have c1 : ((i : Int) < (l.length : Int)) = False := by simp; omega
  have e : idxS l 0 = -1 := by rw [hx, List.drop_eq_nil_of_le (by omega)]; rfl
  rw [e]
  exact wk0 [] [] (an exTK1 c1)
theorem conS_p (l : List (Int × Int × Int)) (hl : l.length ≤ 140737488351232) : PureD Try.prog 18 [L (row3 l), .fn 19 []] (.bool (!l.all shiftB)) := by
 refine pureV Try.func18 low18 (by simp [c18]) ?_
 simp only [c18]
 have ix := idxS_p l hl
 rw [← idxS_neg l 0]
 generalize idxS l 0 = n at ix ⊢
 exact wk0 [] [] exTK1
def dayOffB (n : Int) : Bool := decide (0 ≤ n ∧ n < 109938)
def hoursB (s : List (Int × Int × Int)) (off : List Int) : Bool := decide (s.length ≤ 10 ∧ off.length ≤ 60) && ((off.all dayOffB && risB off) && s.all shiftB)
set_option maxHeartbeats 4000000 in
theorem hoursMay_p (s : List (Int × Int × Int)) (l : List Int) (hs : s.length ≤ 140737488351232) (hl : l.length ≤ 140737488351232) : PureD Try.prog 10 [.agg [L (row3 s), L (row1 .i64 l)]] (.bool (hoursB s l)) := by
 refine pureV Try.func10 low10 (by simp [c10]) ?_
 simp only [c10]
 have cs := conS_p s hs
 by_cases hbig : 10 < s.length
 ·have c0 : ((s.length : Int) > 10) = True := by simp; omega
  have e : hoursB s l = false := by
   have : ¬ s.length ≤ 10 := by omega
   simp [hoursB, this]
  rw [e]
  exact wk0 [] [] (an exTK1 c0)
 have c0 : ((s.length : Int) > 10) = False := by simp; omega
 by_cases hbig2 : 60 < l.length
 ·have c1 : ((l.length : Int) > 60) = True := by simp; omega
  have e : hoursB s l = false := by
   have : ¬ l.length ≤ 60 := by omega
   simp [hoursB, this]
  rw [e]
  exact wk0 [] [] (an exTK1 (an c0 c1))
 have c1 : ((l.length : Int) > 60) = False := by simp; omega
 have e0 : hoursB s l = ((l.all dayOffB && risB l) && s.all shiftB) := by
  have h1 : s.length ≤ 10 := by omega
  have h2 : l.length ≤ 60 := by omega
  simp [hoursB, h1, h2]
 rw [e0]
 generalize s.all shiftB = sb at cs ⊢
 refine wk [] [] (an exTK1 (an c0 c1)) ?_
 refine Run_loop (ι := {i : Nat // i ≤ l.length ∧ (l.take i).all dayOffB = true ∧ (l.take i).Pairwise fun a b => a < b}) (fun i => ([(1, .ptr 0 0 0 1), (16, L (row1 .i64 l)), (17, .int .i64 l.length), (18, .int .i64 i.1)], [⟨true, false, true, false, 2, [[L (row3 s), L (row1 .i64 l)]], some 0⟩])) (fun i => l.length - i.1) ⟨0, by simp⟩ ?_ ?_
 ·exact gcw [0] exTK1
 rintro ⟨i, hi, ha, hp⟩ hk
 dsimp only at hk ⊢
 by_cases hlt : i < l.length
 ·have c2 : ((i : Int) < (l.length : Int)) = True := by simp; omega
  obtain ⟨x, hx⟩ : ∃ x, l[i]? = some x := ⟨_, List.getElem?_eq_getElem hlt⟩
  have rx := row1_get (k := .i64) hx
  by_cases hss : dayOffB x = true
  ·have hs' := hss
   simp only [dayOffB, decide_eq_true_eq] at hs'
   have d1 : (x < 0) = False := by simp; omega
   have d2 : (x ≥ 109938) = False := by simp; omega
   cases i with
   | zero =>
    refine wk [] [] (an exTK1 (an c2 (an d1 (an d2 rx)))) ?_
    refine hk ⟨1, by omega, all_step ha hx hss, by rw [List.take_add_one, hx]; simp⟩ _ _ (by dsimp only; omega) ?_
    dsimp only
    exact gcw [0] exTK1
   | succ i =>
    obtain ⟨y, hy⟩ : ∃ y, l[i]? = some y := ⟨_, List.getElem?_eq_getElem (by omega)⟩
    have ry := row1_get (k := .i64) hy
    have c7 : (((i + 1 : Nat) : Int) > 0) = True := by rw [eq_iff_iff]; exact ⟨fun _ => trivial, fun _ => by omega⟩
    have c8 : (((i + 1 : Nat) : Int) - 1) = (i : Int) := by omega
    by_cases hyx : y < x
    ·have c9 : (y ≥ x) = False := by simp; omega
     refine wk [] [] (an exTK1 (an c2 (an c7 (an c8 (an c9 (an d1 (an d2 (an rx ry)))))))) ?_
     refine hk ⟨i + 1 + 1, by omega, all_step ha hx hss, pw_step (R := fun a b : Int => a < b) (fun _ _ _ => Int.lt_trans) hp hy hx hyx⟩ _ _ (by dsimp only; omega) ?_
     dsimp only
     exact gcw [0] exTK1
    ·have c9 : (y ≥ x) = True := by simp; omega
     have e : ((l.all dayOffB && risB l) && sb) = false := by
      have : risB l = false := by simpa [risB] using pw_no hy hx hyx
      simp [this]
     rw [e]
     exact wk0 [] [] (an exTK1 (an c2 (an c7 (an c8 (an c9 (an d1 (an d2 (an rx ry))))))))
  ·have hs' : dayOffB x = false := by simpa using hss
   have e : ((l.all dayOffB && risB l) && sb) = false := by simp only [all_no hx hs', Bool.false_and]
   rw [e]
   by_cases n1 : x < 0
   ·have d1 : (x < 0) = True := by simpa using n1
    exact wk0 [] [] (an exTK1 (an c2 (an d1 rx)))
   have d1 : (x < 0) = False := by simpa using n1
   have d2 : (x ≥ 109938) = True := by
    simp only [dayOffB, decide_eq_false_iff_not] at hs'
    simp; omega
   exact wk0 [] [] (an exTK1 (an c2 (an d1 (an d2 rx))))
 ·have c2 : ((i : Int) < (l.length : Int)) = False := by simp; omega
  obtain rfl : i = l.length := by omega
  rw [List.take_length] at ha hp
  have hr : risB l = true := by simpa [risB] using hp
  rw [ha, hr, Bool.true_and, Bool.true_and]
  exact wk1 [] [] (an exTK1 c2)
end Go.Proofs.Ytoljgjdloegnoaa

namespace Go.Proofs.Ytoljgjdloegnoaa
open Go Go.Vi
theorem exTK2 : type_of% (an @row1_len (an @row2_len (an @row3_len @rowsS_len))) := (an @row1_len (an @row2_len (an @row3_len @rowsS_len)))
set_option maxHeartbeats 4000000 in
theorem refHours_p (s : List (Int × Int × Int)) (l : List Int) (hs : s.length ≤ 140737488351232) (hl : l.length ≤ 140737488351232) : PureD Try.prog 11 [.agg [L (row3 s), L (row1 .i64 l)]] (.bool (hoursB s l)) := by
 refine pureV Try.func11 low11 (by simp [c11]) ?_
 simp only [c11]
 by_cases hbig : 10 < s.length
 ·have c0 : ((s.length : Int) > 10) = True := by simp; omega
  have e : hoursB s l = false := by
   have : ¬ s.length ≤ 10 := by omega
   simp [hoursB, this]
  rw [e]
  exact wk0 [] [] (an exTK2 c0)
 have c0 : ((s.length : Int) > 10) = False := by simp; omega
 by_cases hbig2 : 60 < l.length
 ·have c1 : ((l.length : Int) > 60) = True := by simp; omega
  have e : hoursB s l = false := by
   have : ¬ l.length ≤ 60 := by omega
   simp [hoursB, this]
  rw [e]
  exact wk0 [] [] (an exTK2 (an c0 c1))
 have c1 : ((l.length : Int) > 60) = False := by simp; omega
 have e0 : hoursB s l = ((l.all dayOffB && risB l) && s.all shiftB) := by
  have h1 : s.length ≤ 10 := by omega
  have h2 : l.length ≤ 60 := by omega
  simp [hoursB, h1, h2]
 rw [e0]
 refine wk [] [] (an exTK2 (an c0 c1)) ?_
 refine Run_loop (ι := {i : Nat // i ≤ s.length ∧ (s.take i).all shiftB = true}) (fun i => ([(1, .ptr 0 0 0 1), (18, .int .i64 s.length), (19, .int .i64 i.1)], [⟨true, false, true, false, 2, [[L (row3 s), L (row1 .i64 l)]], some 0⟩])) (fun i => s.length - i.1) ⟨0, by simp⟩ ?_ ?_
 ·exact gcw [0] exTK2
 rintro ⟨i, hi, ha⟩ hk
 dsimp only at hk ⊢
 by_cases hlt : i < s.length
 ·have c2 : ((i : Int) < (s.length : Int)) = True := by simp; omega
  obtain ⟨x, hx⟩ : ∃ x, s[i]? = some x := ⟨_, List.getElem?_eq_getElem hlt⟩
  have rx := row3_get hx
  by_cases hb : shiftB x = true
  ·have hb' := hb
   simp only [shiftB, decide_eq_true_eq] at hb'
   have d1 : (x.1 < 1) = False := by simp; omega
   have d2 : (x.1 > 127) = False := by simp; omega
   have d3 : (x.2.1 < 0) = False := by simp; omega
   have d4 : (x.2.2 ≤ x.2.1) = False := by simp; omega
   have d5 : (x.2.2 > 1440) = False := by simp; omega
   refine wk [] [] (an exTK2 (an c2 (an rx (an d1 (an d2 (an d3 (an d4 d5))))))) ?_
   refine hk ⟨i + 1, by omega, all_step ha hx hb⟩ _ _ (by dsimp only; omega) ?_
   dsimp only
   exact gcw [0] exTK2
  ·have hb' : shiftB x = false := by simpa using hb
   have e : ((l.all dayOffB && risB l) && s.all shiftB) = false := by rw [all_no hx hb', Bool.and_false]
   rw [e]
   by_cases n1 : x.1 < 1
   ·have d1 : (x.1 < 1) = True := by simpa using n1
    exact wk0 [] [] (an exTK2 (an c2 (an rx d1)))
   have d1 : (x.1 < 1) = False := by simpa using n1
   by_cases n2 : x.1 > 127
   ·have d2 : (x.1 > 127) = True := by simpa using n2
    exact wk0 [] [] (an exTK2 (an c2 (an rx (an d1 d2))))
   have d2 : (x.1 > 127) = False := by simpa using n2
   by_cases n3 : x.2.1 < 0
   ·have d3 : (x.2.1 < 0) = True := by simpa using n3
    exact wk0 [] [] (an exTK2 (an c2 (an rx (an d1 (an d2 d3)))))
   have d3 : (x.2.1 < 0) = False := by simpa using n3
   by_cases n4 : x.2.2 ≤ x.2.1
   ·have d4 : (x.2.2 ≤ x.2.1) = True := by simpa using n4
    exact wk0 [] [] (an exTK2 (an c2 (an rx (an d1 (an d2 (an d3 d4))))))
   have d4 : (x.2.2 ≤ x.2.1) = False := by simpa using n4
   have d5 : (x.2.2 > 1440) = True := by
    simp only [shiftB, decide_eq_false_iff_not] at hb'
    simp; omega
   exact wk0 [] [] (an exTK2 (an c2 (an rx (an d1 (an d2 (an d3 (an d4 d5)))))))
 ·have c2 : ((i : Int) < (s.length : Int)) = False := by simp; omega
  obtain rfl : i = s.length := by omega
  rw [List.take_length] at ha
  rw [ha, Bool.and_true]
  clear ha hk c2 hlt
  have c2 : ((s.length : Int) < (s.length : Int)) = False := by simp
  refine wk [] [] (an exTK2 c2) ?_
  refine Run_loop (ι := {i : Nat // i ≤ l.length ∧ (l.take i).all dayOffB = true ∧ (l.take i).Pairwise fun a b => a < b}) (fun i => ([(1, .ptr 0 0 0 1), (55, .int .i64 l.length), (56, .int .i64 i.1)], [⟨true, false, true, false, 2, [[L (row3 s), L (row1 .i64 l)]], some 0⟩])) (fun i => l.length - i.1) ⟨0, by simp⟩ ?_ ?_
  ·exact gcw [0] exTK2
  rintro ⟨i, hi, ha, hp⟩ hk
  dsimp only at hk ⊢
  by_cases hlt : i < l.length
  ·have c2 : ((i : Int) < (l.length : Int)) = True := by simp; omega
   obtain ⟨x, hx⟩ : ∃ x, l[i]? = some x := ⟨_, List.getElem?_eq_getElem hlt⟩
   have rx := row1_get (k := .i64) hx
   by_cases hss : dayOffB x = true
   ·have hs' := hss
    simp only [dayOffB, decide_eq_true_eq] at hs'
    have d1 : (x < 0) = False := by simp; omega
    have d2 : (x > 109937) = False := by simp; omega
    cases i with
    | zero =>
     refine wk [] [] (an exTK2 (an c2 (an d1 (an d2 rx)))) ?_
     refine hk ⟨1, by omega, all_step ha hx hss, by rw [List.take_add_one, hx]; simp⟩ _ _ (by dsimp only; omega) ?_
     dsimp only
     exact gcw [0] exTK2
    | succ i =>
     obtain ⟨y, hy⟩ : ∃ y, l[i]? = some y := ⟨_, List.getElem?_eq_getElem (by omega)⟩
     have ry := row1_get (k := .i64) hy
     have c7 : (((i + 1 : Nat) : Int) > 0) = True := by rw [eq_iff_iff]; exact ⟨fun _ => trivial, fun _ => by omega⟩
     have c8 : (((i + 1 : Nat) : Int) - 1) = (i : Int) := by omega
     by_cases hyx : y < x
     ·have c9 : (y ≥ x) = False := by simp; omega
      refine wk [] [] (an exTK2 (an c2 (an c7 (an c8 (an c9 (an d1 (an d2 (an rx ry)))))))) ?_
      refine hk ⟨i + 1 + 1, by omega, all_step ha hx hss, pw_step (R := fun a b : Int => a < b) (fun _ _ _ => Int.lt_trans) hp hy hx hyx⟩ _ _ (by dsimp only; omega) ?_
      dsimp only
      exact gcw [0] exTK2
     ·have c9 : (y ≥ x) = True := by simp; omega
      have e : (l.all dayOffB && risB l) = false := by
       have : risB l = false := by simpa [risB] using pw_no hy hx hyx
       simp [this]
      rw [e]
      exact wk0 [] [] (an exTK2 (an c2 (an c7 (an c8 (an c9 (an d1 (an d2 (an rx ry))))))))
   ·have hs' : dayOffB x = false := by simpa using hss
    have e : (l.all dayOffB && risB l) = false := by simp only [all_no hx hs', Bool.false_and]
    rw [e]
    by_cases n1 : x < 0
    ·have d1 : (x < 0) = True := by simpa using n1
     exact wk0 [] [] (an exTK2 (an c2 (an d1 rx)))
    have d1 : (x < 0) = False := by simpa using n1
    have d2 : (x > 109937) = True := by
     simp only [dayOffB, decide_eq_false_iff_not] at hs'
     simp; omega
    exact wk0 [] [] (an exTK2 (an c2 (an d1 (an d2 rx))))
  ·have c2 : ((i : Int) < (l.length : Int)) = False := by simp; omega
   obtain rfl : i = l.length := by omega
   rw [List.take_length] at ha hp
   have hr : risB l = true := by simpa [risB] using hp
   rw [ha, hr, Bool.true_and]
   exact wk0 [] [] (an exTK2 c2)
end Go.Proofs.Ytoljgjdloegnoaa

namespace Go.Proofs.Ytoljgjdloegnoaa
open Go Go.Vi
theorem exTK3 : type_of% (an @row1_len (an @row2_len (an @row3_len @rowsS_len))) := (an @row1_len (an @row2_len (an @row3_len @rowsS_len)))
theorem isNaN_p (a : Int) : PureD Try.prog 45 [.int .i64 a] (.bool false) := by
 refine pureV Try.func45 low45 (by simp [c45]) ?_
 simp only [c45]
 have h : (a != a) = false := by simp
 exact wk0 [] [] (an exTK3 h)
def cmpI (a b : Int) : Int := if a < b then -1 else if b < a then 1 else 0
theorem cmp_p (a b : Int) : PureD Try.prog 38 [.int .i64 a, .int .i64 b] (.int .i64 (cmpI a b)) := by
 refine pureV Try.func38 low38 (by simp [c38]) ?_
 simp only [c38]
 unfold cmpI
 have uc1 := @isNaN_p
 exact wk0 [] [] exTK3
theorem cmp_neg {a b : Int} : cmpI a b < 0 ↔ a < b := by unfold cmpI; (repeat' split) <;> omega
theorem cmp_zero {a b : Int} : cmpI a b = 0 ↔ a = b := by unfold cmpI; (repeat' split) <;> omega
theorem clos_p (t : Tn) (u : Int) : PureD Try.prog 42 [.agg [.int .i64 t.1, .int .i64 t.2], .int .i64 u] (.int .i64 (cmpI t.1 u)) := by
 refine pureV Try.func42 low42 (by simp [c42]) ?_
 simp only [c42]
 have uc1 := @cmp_p
 exact wk0 [] [] exTK3
def isT (ts : List Tn) (k : Nat) (u : Int) : Bool := match ts[k]? with | some t => t.1 == u | none => false
theorem bs_p (l : List Tn) (u : Int) (k : Nat) (hl : l.length ≤ 140737488351232) (hk : k ≤ l.length) (hs : ∀ (h : Nat) (d : Tn), l[h]? = some d → (d.1 < u ↔ h < k)) :
  PureD Try.prog 41 [L (row2 .i64 .i64 l), .int .i64 u, .fn 42 []] (.tup [.int .i64 k, .bool (isT l k u)]) := by
 refine pureV Try.func41 low41 (by simp [c41]) ?_
 simp only [c41]
 refine wk [] [] exTK3 ?_
 refine Run_loop (ι := {p : Nat × Nat // p.1 ≤ k ∧ k ≤ p.2 ∧ p.2 ≤ l.length}) (fun p => ([(0, L (row2 .i64 .i64 l)), (1, .int .i64 u), (2, .fn 42 []), (8, .int .i64 l.length), (9, .int .i64 p.1.1), (10, .int .i64 p.1.2)], [])) (fun p => p.1.2 - p.1.1) ⟨(0, l.length), by simp, hk, by simp⟩ ?_ ?_
 ·exact gcw [] exTK3
 rintro ⟨⟨i, j⟩, h1, h2, h3⟩ hk'
 dsimp only at h1 h2 h3 hk' ⊢
 by_cases hij : i < j
 ·have c1 : ((i : Int) < (j : Int)) = True := by simp; omega
  obtain ⟨h, hh⟩ : ∃ h : Nat, h = (i + j) / 2 := ⟨_, rfl⟩
  have e2 : ((i : Int) + (j : Int)) / 2 = (h : Int) := by omega
  obtain ⟨d, hd⟩ : ∃ d, l[h]? = some d := ⟨_, List.getElem?_eq_getElem (by omega)⟩
  have hsd := hs h d hd
  have hd' := row2_get (k := .i64) (m := .i64) hd
  have pl := clos_p d u
  by_cases hlt : h < k
  ·have c2 : (cmpI d.1 u < 0) = True := by simp; exact cmp_neg.2 (hsd.2 hlt)
   refine wk [] [] (an exTK3 (an c1 (an e2 (an hd' c2)))) ?_
   refine hk' ⟨(h + 1, j), by omega, by omega, by omega⟩ _ _ (by dsimp only; omega) ?_
   dsimp only
   exact gcw [] exTK3
  ·have c2 : (cmpI d.1 u < 0) = False := by simp; have := mt hsd.1 hlt; have := mt cmp_neg.1 this; omega
   refine wk [] [] (an exTK3 (an c1 (an e2 (an hd' c2)))) ?_
   refine hk' ⟨(i, h), by omega, by omega, by omega⟩ _ _ (by dsimp only; omega) ?_
   dsimp only
   exact gcw [] exTK3
 ·have c1 : ((i : Int) < (j : Int)) = False := by simp; omega
  obtain rfl : i = k := by omega
  by_cases hkl : i < l.length
  ·have c2 : ((i : Int) < (l.length : Int)) = True := by simp; omega
   obtain ⟨d, hd⟩ : ∃ d, l[i]? = some d := ⟨_, List.getElem?_eq_getElem (by omega)⟩
   have hd' := row2_get (k := .i64) (m := .i64) hd
   have pl := clos_p d u
   have e : isT l i u = (cmpI d.1 u == 0) := by
    unfold isT; rw [hd, Bool.eq_iff_iff]; simp [cmp_zero]
   rw [e]
   exact wk0 [] [] (an exTK3 (an c1 (an c2 hd')))
  ·have c2 : ((i : Int) < (l.length : Int)) = False := by simp; omega
   have e : isT l i u = false := by unfold isT; rw [List.getElem?_eq_none (by omega)]
   rw [e]
   exact wk0 [] [] (an exTK3 (an c1 c2))
abbrev Zn (b : Int) (ts : List Tn) : D := .agg [.int .i64 b, L (row2 .i64 .i64 ts)]
structure ZoneOk (b : Int) (ts : List Tn) : Prop where
 b1 : -900 ≤ b ∧ b ≤ 900
 len : ts.length ≤ 700
 ok : ∀ t ∈ ts, (-900 ≤ t.2 ∧ t.2 ≤ 900) ∧ 0 ≤ t.1 ∧ t.1 ≤ 158310720
 asc : Asc ts
theorem zoneOk {b : Int} {ts : List Tn} (h : zoneB b ts = true) : ZoneOk b ts := by
 simp only [zoneB, turnB, wideB, Bool.and_eq_true, Bool.not_eq_true', decide_eq_false_iff_not, decide_eq_true_eq, List.all_eq_true] at h
 obtain ⟨⟨h1, h2⟩, h3, h4⟩ := h
 refine ⟨by omega, h2, fun t ht => by have := h3 t ht; omega, asc_of (h4.imp fun h => ?_)⟩
 unfold farT at h; omega
theorem lt_bh (ts : List Tn) (u : Int) : lt ts u = bh ts (u - 1) := by
 unfold lt bh
 congr 1
 funext t
 rw [Bool.eq_iff_iff]; simp; omega
theorem lt_split {ts : List Tn} (ha : Asc ts) (u : Int) (h : Nat) (d : Tn) (hd : ts[h]? = some d) : d.1 < u ↔ h < lt ts u := by
 rw [lt_bh]
 obtain ⟨h1, h2⟩ := bh_split ha (u - 1)
 constructor
 ·intro hlt
  by_cases hh : h < bh ts (u - 1)
  ·exact hh
  ·have := h2 h d (by omega) hd; omega
 ·intro hlt
  have := h1 h d hlt hd; omega
theorem isT_hit {ts : List Tn} (ha : Asc ts) (u : Int) : isT ts (lt ts u) u = hit ts u := by
 rw [Bool.eq_iff_iff]
 unfold isT hit
 constructor
 ·intro h
  cases hd : ts[lt ts u]? with
  | none => rw [hd] at h; cases h
  | some d =>
   rw [hd] at h
   exact List.any_eq_true.2 ⟨d, List.mem_of_getElem? hd, by simpa using h⟩
 ·intro h
  obtain ⟨d, hm, he⟩ := List.any_eq_true.1 h
  obtain ⟨k, hk⟩ := List.getElem?_of_mem hm
  have he : d.1 = u := by simpa using he
  have h1 := mt (lt_split ha u k d hk).2 (by omega)
  have h2 : k ≤ lt ts u := by
   rcases Nat.lt_or_ge (lt ts u) k with h | h
   ·obtain ⟨e, hx⟩ : ∃ e, ts[lt ts u]? = some e := ⟨_, List.getElem?_eq_getElem (by have := (List.getElem?_eq_some_iff.1 hk).1; omega)⟩
    have := ha _ _ e d h hx hk
    have := (lt_split ha u _ e hx).1 (by omega)
    omega
   ·exact h
  obtain rfl : k = lt ts u := by omega
  rw [hk]; simpa using he
theorem behind_p {b : Int} {ts : List Tn} (u : Int) (hz : ZoneOk b ts) : PureD Try.prog 34 [Zn b ts, .int .i64 u] (.int .i64 (bh ts u)) := by
 refine pureV Try.func34 low34 (by simp [c34]) ?_
 have hb := bs_p ts u (lt ts u) (by have := hz.len; omega) lt_le (lt_split hz.asc u)
 have hl := @lt_le ts u
 have hlen := hz.len
 rw [isT_hit hz.asc] at hb
 rw [bh_eq hz.asc]
 generalize lt ts u = n at hb hl ⊢
 simp only [c34]
 cases hh : hit ts u
 ·rw [hh] at hb
  simp only [Bool.false_eq_true, if_false, Nat.add_zero]
  exact wk0 [] [] exTK3
 ·rw [hh] at hb
  have c1 : ((n + 1 : Nat) : Int) = (n : Int) + 1 := by omega
  rw [if_pos rfl, c1]
  repeat' ((first | refine Run_seq ?_ | refine Run_skip ?_ | refine Run_block ?_ | refine Run_blk ?_ | refine Run_exit rfl ?_ | refine Run_ret ?_ | refine Run_nil ?_ | refine Run_condK ?_ | refine Run_ops mixed ?_ | refine Run_opsX mixed ?_ | with_reducible refine PostV_open ?_ | with_reducible refine PostG_open ?_ | with_reducible refine PostQ_open ?_ | with_reducible refine ro_callV ?_ | with_reducible refine ro_callVX ?_ | refine CallV_pure (hb) ?_ ?_ | simp (disch := omega) only [w64, wu64, wu32, wu16, wu8, Int.tdiv_eq_ediv_of_nonneg, Int.tmod_eq_emod_of_nonneg] | (with_reducible refine SliceK_own rfl rfl ?_ ?_; (focus ((try simp only [row1_len, row2_len, row3_len, rowsS_len, reduceIte, Int.natCast_nonneg, Int.le_refl, List.length_append, List.length_map, Nat.sub_zero]) <;> ((repeat' (with_reducible refine And.intro ?_ ?_)) <;> first | exact trivial | assumption | (simp; done) | (simp only [List.length_map] at *; omega) | omega | (simp [D.cells, D.ok, D.one, D.pt, D.pt1]; done))))) | (refine GuardK_split (fun hc => ?_) (fun hc => ?_) <;> (try simp only [hc]) <;> (try simp at hc)) | (refine CondK_split (fun hc => ?_) (fun hc => ?_) <;> (try simp only [hc]) <;> (try simp at hc)) | (with_reducible refine And.intro ?_ ?_; (focus ((repeat' (with_reducible refine And.intro ?_ ?_)) <;> first | exact trivial | assumption | (simp; done) | (simp only [List.length_map] at *; omega) | omega | (simp [D.cells, D.ok, D.one, D.pt, D.pt1]; done)))) | (with_reducible intro x hx) | omega) <;> (try simp only [row1_len, row2_len, row3_len, rowsS_len, ro_nil, oo_def, om_def, ol_def, oa_def, on_def, og_def, gm_def, gl_def, ga_def, kc_def, kx_def, gk_def, kk_def, kb_def, pf_def, pt_def, ro_mov, ro_mkfn, ro_pick, ro_build, ro_slit, SlitK_t, SlitK_f, ro_chk, ro_bin, ro_eq, ro_un, ro_conv, ro_same, ro_b2s, ro_faddr, ro_fld, ro_idx, ro_ext, ro_len, ro_mx, ro_mn, ro_slice, SliceK_str, SliceK_list, ro_slice3, ro_load, LoadK_elt, LoadK_ptr, LoadO_some, LoadR_some, LoadR_map, ro_box, ro_alloc, ro_store, StoreK_ptr, StoreO_some, StoreR_some, ro_iaddr, IaddrK_list, IaddrK_own, IaddrR_some, IaddrR_map, ro_app, ro_appz, newsD_list, newsD_str, newsD_own, newsO_some, newsC_list, newsC_str, newsC_own, newsCO_some, AppN_some, AppZ_int, AppS_nil, AppS_own, AppO_acc, ro_cap, CapK_own, CapO, ro_ovl, OvlK_own, OvlO_some, ro_copy, CopyK_own, CopyO_some, ro_clear, ClearK_own, ClearO_some, ClearK_nil, ro_mks, MksK_int, winD_all, viewS_list, viewS_own', viewO_some, eqO_ptr, eqO_bool, eqO_func, eqO_row, eqO_list, eqO_own, eqOo_some, rx_nil, rx_cons, keepK_nil, keepK_cons, keepE_nil, keepE_cons, keepN_nil, keepN_cons, D.names, D.namesL, acc_real, acc_nl, acc_pure, acc_fz, acc_sz, acc_rows, acc_spare, ro_guard, GuardK_tt, GuardK_no, GuardK_ff, GuardK_tf, GuardK_ft, CondK_t, CondK_f, contP_some, lk_nil, lk_hit, lk_miss, Nat.reduceBEq, put_some, put_none, ev_t, ev_c, argEnv, reduceIte, Nat.reduceEqDiff, Nat.reduceAdd, Nat.reduceSub, Nat.reduceMul, Nat.reduceLT, Nat.reduceLeDiff, reduceCtorEq, binD, binInt, binStr, eqD, eqCell, eqCells, eqN, boolD, okD, aggD, unD, pickD, chkD, convD, sameD, strD, faddrD, fldD, idxD, extD, lenD, mxD, mnD, sliceD, slice3D, bndD, loadD, fillD, splice, D.cells, D.ok, D.one, D.pt, D.pt1, D.pt0, D.norm1, D.norm, cond_true, cond_false, true_and, and_true, and_self, Bool.true_and, Bool.and_true, Bool.false_and, Bool.and_false, Bool.not_true, Bool.not_false, Bool.true_or, Bool.false_or, Bool.or_true, Bool.or_false, List.getElem?_cons_zero, List.getElem?_cons_succ, List.getElem?_nil, List.length_cons, List.length_nil, List.length_map, List.length_append, List.length_set, List.length_take, List.length_drop, List.length_replicate, List.take_succ_cons, List.take_zero, List.take_nil, List.drop_succ_cons, List.drop_zero, List.drop_nil, List.cons_append, List.nil_append, List.append_nil, List.map_cons, List.map_nil, List.all_cons, List.all_nil, List.set_cons_zero, List.set_cons_succ, List.isEmpty_cons, List.isEmpty_nil, List.forall_mem_cons, List.not_mem_nil, List.forall_mem_nil, false_imp_iff, implies_true, ne_eq, not_false_eq_true, Option.map_some, Option.map_none, Nat.zero_add, Nat.add_zero, Nat.sub_self, Int.toNat_natCast, Int.reduceToNat, Int.reduceLT, Int.reduceLE, Int.reduceEq, Int.reduceBEq, beq_self_eq_true, Int.reduceNeg, decide_true, decide_false, IntKind.bits, Nat.min_eq_left, Int.reducePow, Nat.reducePow, Int.fdiv_eq_ediv_of_nonneg, Nat.lt_irrefl, Int.le_refl, Nat.le_refl, Int.natCast_nonneg, Nat.lt_add_one, Nat.zero_lt_succ, view, view2, view1, view0, mapO, capsD_fn, D.sc, D.sc1, D.sc2, pull, pull2, pull1, pull0, idx_hit, idx_miss, idx_nil, sucO_some, sucO_none, gate, pullσ, pullOb, Go.Vi.freeze, Go.Vi.freeze1, capt, capt.captL, reachL, reachO, isin, List.flatten_cons, List.flatten_nil, merge, mset, renOb, fr, D.ren, D.renL, List.getD_cons_zero, List.getD_cons_succ, List.nodup_cons, List.nodup_nil, List.mem_cons, or_false, false_or, resK_nil, resK_tmp, resK_cell, ResC_ptr, ResO_some, ResR_some, ResL_some, ofRes, List.reverse_nil, Option.some.injEq, D.bool.injEq, D.int.injEq, D.str.injEq, D.agg.injEq, D.tup.injEq, D.list.injEq, D.ptr.injEq, D.own.injEq, List.cons.injEq, BndE_fn]))
  skip
theorem added_p {b : Int} {ts : List Tn} (n : Nat) (hz : ZoneOk b ts) (hn : n ≤ ts.length) : PureD Try.prog 35 [Zn b ts, .int .i64 n] (.int .i64 (addO b ts n)) := by
 refine pureV Try.func35 low35 (by simp [c35]) ?_
 simp only [c35]
 have hlen := hz.len
 cases n with
 | zero =>
  have c1 : (((0 : Nat) : Int) == 0) = true := by simp
  have c2 : ((0 : Int) == 0) = true := by simp
  exact wk0 [] [] (an exTK3 (an c1 (an c2 @addO.eq_1)))
 | succ n =>
  have c1 : (((n + 1 : Nat) : Int) == 0) = false := by simp; omega
  have c3 : (((n + 1 : Nat) : Int) - 1) = (n : Int) := by omega
  obtain ⟨t, ht⟩ : ∃ t, ts[n]? = some t := ⟨_, List.getElem?_eq_getElem (by omega)⟩
  have ht' := row2_get (k := .i64) (m := .i64) ht
  have e : addO b ts (n + 1) = t.2 := by simp [addO, ht]
  rw [e]
  repeat' ((first | refine Run_seq ?_ | refine Run_skip ?_ | refine Run_block ?_ | refine Run_blk ?_ | refine Run_exit rfl ?_ | refine Run_ret ?_ | refine Run_nil ?_ | refine Run_condK ?_ | refine Run_ops mixed ?_ | refine Run_opsX mixed ?_ | with_reducible refine PostV_open ?_ | with_reducible refine PostG_open ?_ | with_reducible refine PostQ_open ?_ | with_reducible refine ro_callV ?_ | with_reducible refine ro_callVX ?_ | simp (disch := omega) only [w64, wu64, wu32, wu16, wu8, Int.tdiv_eq_ediv_of_nonneg, Int.tmod_eq_emod_of_nonneg] | (with_reducible refine SliceK_own rfl rfl ?_ ?_; (focus ((try simp only [row1_len, row2_len, row3_len, rowsS_len, reduceIte, Int.natCast_nonneg, Int.le_refl, List.length_append, List.length_map, Nat.sub_zero]) <;> ((repeat' (with_reducible refine And.intro ?_ ?_)) <;> first | exact trivial | assumption | (simp; done) | (simp only [List.length_map] at *; omega) | omega | (simp [D.cells, D.ok, D.one, D.pt, D.pt1]; done))))) | (refine GuardK_split (fun hc => ?_) (fun hc => ?_) <;> (try simp only [hc]) <;> (try simp at hc)) | (refine CondK_split (fun hc => ?_) (fun hc => ?_) <;> (try simp only [hc]) <;> (try simp at hc)) | (with_reducible refine And.intro ?_ ?_; (focus ((repeat' (with_reducible refine And.intro ?_ ?_)) <;> first | exact trivial | assumption | (simp; done) | (simp only [List.length_map] at *; omega) | omega | (simp [D.cells, D.ok, D.one, D.pt, D.pt1]; done)))) | (with_reducible intro x hx) | omega) <;> (try simp only [row1_len, row2_len, row3_len, rowsS_len, c1, c3, ht', LoadR_some, IaddrR_some, ro_nil, oo_def, om_def, ol_def, oa_def, on_def, og_def, gm_def, gl_def, ga_def, kc_def, kx_def, gk_def, kk_def, kb_def, pf_def, pt_def, ro_mov, ro_mkfn, ro_pick, ro_build, ro_slit, SlitK_t, SlitK_f, ro_chk, ro_bin, ro_eq, ro_un, ro_conv, ro_same, ro_b2s, ro_faddr, ro_fld, ro_idx, ro_ext, ro_len, ro_mx, ro_mn, ro_slice, SliceK_str, SliceK_list, ro_slice3, ro_load, LoadK_elt, LoadK_ptr, LoadO_some, LoadR_some, LoadR_map, ro_box, ro_alloc, ro_store, StoreK_ptr, StoreO_some, StoreR_some, ro_iaddr, IaddrK_list, IaddrK_own, IaddrR_some, IaddrR_map, ro_app, ro_appz, newsD_list, newsD_str, newsD_own, newsO_some, newsC_list, newsC_str, newsC_own, newsCO_some, AppN_some, AppZ_int, AppS_nil, AppS_own, AppO_acc, ro_cap, CapK_own, CapO, ro_ovl, OvlK_own, OvlO_some, ro_copy, CopyK_own, CopyO_some, ro_clear, ClearK_own, ClearO_some, ClearK_nil, ro_mks, MksK_int, winD_all, viewS_list, viewS_own', viewO_some, eqO_ptr, eqO_bool, eqO_func, eqO_row, eqO_list, eqO_own, eqOo_some, rx_nil, rx_cons, keepK_nil, keepK_cons, keepE_nil, keepE_cons, keepN_nil, keepN_cons, D.names, D.namesL, acc_real, acc_nl, acc_pure, acc_fz, acc_sz, acc_rows, acc_spare, ro_guard, GuardK_tt, GuardK_no, GuardK_ff, GuardK_tf, GuardK_ft, CondK_t, CondK_f, contP_some, lk_nil, lk_hit, lk_miss, Nat.reduceBEq, put_some, put_none, ev_t, ev_c, argEnv, reduceIte, Nat.reduceEqDiff, Nat.reduceAdd, Nat.reduceSub, Nat.reduceMul, Nat.reduceLT, Nat.reduceLeDiff, reduceCtorEq, binD, binInt, binStr, eqD, eqCell, eqCells, eqN, boolD, okD, aggD, unD, pickD, chkD, convD, sameD, strD, faddrD, fldD, idxD, extD, lenD, mxD, mnD, sliceD, slice3D, bndD, loadD, fillD, splice, D.cells, D.ok, D.one, D.pt, D.pt1, D.pt0, D.norm1, D.norm, cond_true, cond_false, true_and, and_true, and_self, Bool.true_and, Bool.and_true, Bool.false_and, Bool.and_false, Bool.not_true, Bool.not_false, Bool.true_or, Bool.false_or, Bool.or_true, Bool.or_false, List.getElem?_cons_zero, List.getElem?_cons_succ, List.getElem?_nil, List.length_cons, List.length_nil, List.length_map, List.length_append, List.length_set, List.length_take, List.length_drop, List.length_replicate, List.take_succ_cons, List.take_zero, List.take_nil, List.drop_succ_cons, List.drop_zero, List.drop_nil, List.cons_append, List.nil_append, List.append_nil, List.map_cons, List.map_nil, List.all_cons, List.all_nil, List.set_cons_zero, List.set_cons_succ, List.isEmpty_cons, List.isEmpty_nil, List.forall_mem_cons, List.not_mem_nil, List.forall_mem_nil, false_imp_iff, implies_true, ne_eq, not_false_eq_true, Option.map_some, Option.map_none, Nat.zero_add, Nat.add_zero, Nat.sub_self, Int.toNat_natCast, Int.reduceToNat, Int.reduceLT, Int.reduceLE, Int.reduceEq, Int.reduceBEq, beq_self_eq_true, Int.reduceNeg, decide_true, decide_false, IntKind.bits, Nat.min_eq_left, Int.reducePow, Nat.reducePow, Int.fdiv_eq_ediv_of_nonneg, Nat.lt_irrefl, Int.le_refl, Nat.le_refl, Int.natCast_nonneg, Nat.lt_add_one, Nat.zero_lt_succ, view, view2, view1, view0, mapO, capsD_fn, D.sc, D.sc1, D.sc2, pull, pull2, pull1, pull0, idx_hit, idx_miss, idx_nil, sucO_some, sucO_none, gate, pullσ, pullOb, Go.Vi.freeze, Go.Vi.freeze1, capt, capt.captL, reachL, reachO, isin, List.flatten_cons, List.flatten_nil, merge, mset, renOb, fr, D.ren, D.renL, List.getD_cons_zero, List.getD_cons_succ, List.nodup_cons, List.nodup_nil, List.mem_cons, or_false, false_or, resK_nil, resK_tmp, resK_cell, ResC_ptr, ResO_some, ResR_some, ResL_some, ofRes, List.reverse_nil, Option.some.injEq, D.bool.injEq, D.int.injEq, D.str.injEq, D.agg.injEq, D.tup.injEq, D.list.injEq, D.ptr.injEq, D.own.injEq, List.cons.injEq, BndE_fn]))
  skip
theorem addO_b {b : Int} {ts : List Tn} (hz : ZoneOk b ts) (n : Nat) : -900 ≤ addO b ts n ∧ addO b ts n ≤ 900 := by
 cases n with
 | zero => exact hz.b1
 | succ n =>
  simp only [addO]
  cases ht : ts[n]? with
  | none => simp
  | some t => simpa using (hz.ok t (List.mem_of_getElem? ht)).1
theorem offset_p {b : Int} {ts : List Tn} (u : Int) (hz : zoneB b ts = true) : PureD Try.prog 25 [Zn b ts, .int .i64 u] (.int .i64 (addO b ts (bh ts u))) := by
 refine pureV Try.func25 low25 (by simp [c25]) ?_
 simp only [c25]
 have ho := zoneOk hz
 have h1 := zoneMay_p b ts (by have := ho.len; omega)
 rw [hz] at h1
 have h2 := behind_p u ho
 have h3 := added_p (bh ts u) ho bh_le
 generalize bh ts u = n at h2 h3 ⊢
 repeat' ((first | refine Run_seq ?_ | refine Run_skip ?_ | refine Run_block ?_ | refine Run_blk ?_ | refine Run_exit rfl ?_ | refine Run_ret ?_ | refine Run_nil ?_ | refine Run_condK ?_ | refine Run_ops mixed ?_ | refine Run_opsX mixed ?_ | with_reducible refine PostV_open ?_ | with_reducible refine PostG_open ?_ | with_reducible refine PostQ_open ?_ | with_reducible refine ro_callV ?_ | with_reducible refine ro_callVX ?_ | refine CallV_pure (h1) ?_ ?_ | refine CallV_pure (h2) ?_ ?_ | refine CallV_pure (h3) ?_ ?_ | simp (disch := omega) only [w64, wu64, wu32, wu16, wu8, Int.tdiv_eq_ediv_of_nonneg, Int.tmod_eq_emod_of_nonneg] | (with_reducible refine SliceK_own rfl rfl ?_ ?_; (focus ((try simp only [row1_len, row2_len, row3_len, rowsS_len, reduceIte, Int.natCast_nonneg, Int.le_refl, List.length_append, List.length_map, Nat.sub_zero]) <;> ((repeat' (with_reducible refine And.intro ?_ ?_)) <;> first | exact trivial | assumption | (simp; done) | (simp only [List.length_map] at *; omega) | omega | (simp [D.cells, D.ok, D.one, D.pt, D.pt1]; done))))) | (refine GuardK_split (fun hc => ?_) (fun hc => ?_) <;> (try simp only [hc]) <;> (try simp at hc)) | (refine CondK_split (fun hc => ?_) (fun hc => ?_) <;> (try simp only [hc]) <;> (try simp at hc)) | (with_reducible refine And.intro ?_ ?_; (focus ((repeat' (with_reducible refine And.intro ?_ ?_)) <;> first | exact trivial | assumption | (simp; done) | (simp only [List.length_map] at *; omega) | omega | (simp [D.cells, D.ok, D.one, D.pt, D.pt1]; done)))) | (with_reducible intro x hx) | omega) <;> (try simp only [row1_len, row2_len, row3_len, rowsS_len, ro_nil, oo_def, om_def, ol_def, oa_def, on_def, og_def, gm_def, gl_def, ga_def, kc_def, kx_def, gk_def, kk_def, kb_def, pf_def, pt_def, ro_mov, ro_mkfn, ro_pick, ro_build, ro_slit, SlitK_t, SlitK_f, ro_chk, ro_bin, ro_eq, ro_un, ro_conv, ro_same, ro_b2s, ro_faddr, ro_fld, ro_idx, ro_ext, ro_len, ro_mx, ro_mn, ro_slice, SliceK_str, SliceK_list, ro_slice3, ro_load, LoadK_elt, LoadK_ptr, LoadO_some, LoadR_some, LoadR_map, ro_box, ro_alloc, ro_store, StoreK_ptr, StoreO_some, StoreR_some, ro_iaddr, IaddrK_list, IaddrK_own, IaddrR_some, IaddrR_map, ro_app, ro_appz, newsD_list, newsD_str, newsD_own, newsO_some, newsC_list, newsC_str, newsC_own, newsCO_some, AppN_some, AppZ_int, AppS_nil, AppS_own, AppO_acc, ro_cap, CapK_own, CapO, ro_ovl, OvlK_own, OvlO_some, ro_copy, CopyK_own, CopyO_some, ro_clear, ClearK_own, ClearO_some, ClearK_nil, ro_mks, MksK_int, winD_all, viewS_list, viewS_own', viewO_some, eqO_ptr, eqO_bool, eqO_func, eqO_row, eqO_list, eqO_own, eqOo_some, rx_nil, rx_cons, keepK_nil, keepK_cons, keepE_nil, keepE_cons, keepN_nil, keepN_cons, D.names, D.namesL, acc_real, acc_nl, acc_pure, acc_fz, acc_sz, acc_rows, acc_spare, ro_guard, GuardK_tt, GuardK_no, GuardK_ff, GuardK_tf, GuardK_ft, CondK_t, CondK_f, contP_some, lk_nil, lk_hit, lk_miss, Nat.reduceBEq, put_some, put_none, ev_t, ev_c, argEnv, reduceIte, Nat.reduceEqDiff, Nat.reduceAdd, Nat.reduceSub, Nat.reduceMul, Nat.reduceLT, Nat.reduceLeDiff, reduceCtorEq, binD, binInt, binStr, eqD, eqCell, eqCells, eqN, boolD, okD, aggD, unD, pickD, chkD, convD, sameD, strD, faddrD, fldD, idxD, extD, lenD, mxD, mnD, sliceD, slice3D, bndD, loadD, fillD, splice, D.cells, D.ok, D.one, D.pt, D.pt1, D.pt0, D.norm1, D.norm, cond_true, cond_false, true_and, and_true, and_self, Bool.true_and, Bool.and_true, Bool.false_and, Bool.and_false, Bool.not_true, Bool.not_false, Bool.true_or, Bool.false_or, Bool.or_true, Bool.or_false, List.getElem?_cons_zero, List.getElem?_cons_succ, List.getElem?_nil, List.length_cons, List.length_nil, List.length_map, List.length_append, List.length_set, List.length_take, List.length_drop, List.length_replicate, List.take_succ_cons, List.take_zero, List.take_nil, List.drop_succ_cons, List.drop_zero, List.drop_nil, List.cons_append, List.nil_append, List.append_nil, List.map_cons, List.map_nil, List.all_cons, List.all_nil, List.set_cons_zero, List.set_cons_succ, List.isEmpty_cons, List.isEmpty_nil, List.forall_mem_cons, List.not_mem_nil, List.forall_mem_nil, false_imp_iff, implies_true, ne_eq, not_false_eq_true, Option.map_some, Option.map_none, Nat.zero_add, Nat.add_zero, Nat.sub_self, Int.toNat_natCast, Int.reduceToNat, Int.reduceLT, Int.reduceLE, Int.reduceEq, Int.reduceBEq, beq_self_eq_true, Int.reduceNeg, decide_true, decide_false, IntKind.bits, Nat.min_eq_left, Int.reducePow, Nat.reducePow, Int.fdiv_eq_ediv_of_nonneg, Nat.lt_irrefl, Int.le_refl, Nat.le_refl, Int.natCast_nonneg, Nat.lt_add_one, Nat.zero_lt_succ, view, view2, view1, view0, mapO, capsD_fn, D.sc, D.sc1, D.sc2, pull, pull2, pull1, pull0, idx_hit, idx_miss, idx_nil, sucO_some, sucO_none, gate, pullσ, pullOb, Go.Vi.freeze, Go.Vi.freeze1, capt, capt.captL, reachL, reachO, isin, List.flatten_cons, List.flatten_nil, merge, mset, renOb, fr, D.ren, D.renL, List.getD_cons_zero, List.getD_cons_succ, List.nodup_cons, List.nodup_nil, List.mem_cons, or_false, false_or, resK_nil, resK_tmp, resK_cell, ResC_ptr, ResO_some, ResR_some, ResL_some, ofRes, List.reverse_nil, Option.some.injEq, D.bool.injEq, D.int.injEq, D.str.injEq, D.agg.injEq, D.tup.injEq, D.list.injEq, D.ptr.injEq, D.own.injEq, List.cons.injEq, BndE_fn]))
 skip
theorem next_p {b : Int} {ts : List Tn} (u : Int) (hz : zoneB b ts = true) : PureD Try.prog 23 [Zn b ts, .int .i64 u] (.tup [.int .i64 ((nextT ts u).getD 0), .bool (nextT ts u).isSome]) := by
 refine pureV Try.func23 low23 (by simp [c23]) ?_
 simp only [c23]
 have ho := zoneOk hz
 have hlen := ho.len
 have h1 := zoneMay_p b ts (by omega)
 rw [hz] at h1
 have h2 := behind_p u ho
 have h3 := @bh_le ts u
 unfold nextT
 generalize bh ts u = n at h2 h3 ⊢
 by_cases hn : n = ts.length
 ·have c1 : ((n : Int) == (ts.length : Int)) = true := by simp; omega
  have e : ts[n]? = none := List.getElem?_eq_none (by omega)
  rw [e]
  simp only [Option.map_none, Option.getD_none, Option.isSome_none]
  repeat' ((first | refine Run_seq ?_ | refine Run_skip ?_ | refine Run_block ?_ | refine Run_blk ?_ | refine Run_exit rfl ?_ | refine Run_ret ?_ | refine Run_nil ?_ | refine Run_condK ?_ | refine Run_ops mixed ?_ | refine Run_opsX mixed ?_ | with_reducible refine PostV_open ?_ | with_reducible refine PostG_open ?_ | with_reducible refine PostQ_open ?_ | with_reducible refine ro_callV ?_ | with_reducible refine ro_callVX ?_ | refine CallV_pure (h1) ?_ ?_ | refine CallV_pure (h2) ?_ ?_ | simp (disch := omega) only [w64, wu64, wu32, wu16, wu8, Int.tdiv_eq_ediv_of_nonneg, Int.tmod_eq_emod_of_nonneg] | (with_reducible refine SliceK_own rfl rfl ?_ ?_; (focus ((try simp only [row1_len, row2_len, row3_len, rowsS_len, reduceIte, Int.natCast_nonneg, Int.le_refl, List.length_append, List.length_map, Nat.sub_zero]) <;> ((repeat' (with_reducible refine And.intro ?_ ?_)) <;> first | exact trivial | assumption | (simp; done) | (simp only [List.length_map] at *; omega) | omega | (simp [D.cells, D.ok, D.one, D.pt, D.pt1]; done))))) | (refine GuardK_split (fun hc => ?_) (fun hc => ?_) <;> (try simp only [hc]) <;> (try simp at hc)) | (refine CondK_split (fun hc => ?_) (fun hc => ?_) <;> (try simp only [hc]) <;> (try simp at hc)) | (with_reducible refine And.intro ?_ ?_; (focus ((repeat' (with_reducible refine And.intro ?_ ?_)) <;> first | exact trivial | assumption | (simp; done) | (simp only [List.length_map] at *; omega) | omega | (simp [D.cells, D.ok, D.one, D.pt, D.pt1]; done)))) | (with_reducible intro x hx) | omega) <;> (try simp only [row1_len, row2_len, row3_len, rowsS_len, c1, ro_nil, oo_def, om_def, ol_def, oa_def, on_def, og_def, gm_def, gl_def, ga_def, kc_def, kx_def, gk_def, kk_def, kb_def, pf_def, pt_def, ro_mov, ro_mkfn, ro_pick, ro_build, ro_slit, SlitK_t, SlitK_f, ro_chk, ro_bin, ro_eq, ro_un, ro_conv, ro_same, ro_b2s, ro_faddr, ro_fld, ro_idx, ro_ext, ro_len, ro_mx, ro_mn, ro_slice, SliceK_str, SliceK_list, ro_slice3, ro_load, LoadK_elt, LoadK_ptr, LoadO_some, LoadR_some, LoadR_map, ro_box, ro_alloc, ro_store, StoreK_ptr, StoreO_some, StoreR_some, ro_iaddr, IaddrK_list, IaddrK_own, IaddrR_some, IaddrR_map, ro_app, ro_appz, newsD_list, newsD_str, newsD_own, newsO_some, newsC_list, newsC_str, newsC_own, newsCO_some, AppN_some, AppZ_int, AppS_nil, AppS_own, AppO_acc, ro_cap, CapK_own, CapO, ro_ovl, OvlK_own, OvlO_some, ro_copy, CopyK_own, CopyO_some, ro_clear, ClearK_own, ClearO_some, ClearK_nil, ro_mks, MksK_int, winD_all, viewS_list, viewS_own', viewO_some, eqO_ptr, eqO_bool, eqO_func, eqO_row, eqO_list, eqO_own, eqOo_some, rx_nil, rx_cons, keepK_nil, keepK_cons, keepE_nil, keepE_cons, keepN_nil, keepN_cons, D.names, D.namesL, acc_real, acc_nl, acc_pure, acc_fz, acc_sz, acc_rows, acc_spare, ro_guard, GuardK_tt, GuardK_no, GuardK_ff, GuardK_tf, GuardK_ft, CondK_t, CondK_f, contP_some, lk_nil, lk_hit, lk_miss, Nat.reduceBEq, put_some, put_none, ev_t, ev_c, argEnv, reduceIte, Nat.reduceEqDiff, Nat.reduceAdd, Nat.reduceSub, Nat.reduceMul, Nat.reduceLT, Nat.reduceLeDiff, reduceCtorEq, binD, binInt, binStr, eqD, eqCell, eqCells, eqN, boolD, okD, aggD, unD, pickD, chkD, convD, sameD, strD, faddrD, fldD, idxD, extD, lenD, mxD, mnD, sliceD, slice3D, bndD, loadD, fillD, splice, D.cells, D.ok, D.one, D.pt, D.pt1, D.pt0, D.norm1, D.norm, cond_true, cond_false, true_and, and_true, and_self, Bool.true_and, Bool.and_true, Bool.false_and, Bool.and_false, Bool.not_true, Bool.not_false, Bool.true_or, Bool.false_or, Bool.or_true, Bool.or_false, List.getElem?_cons_zero, List.getElem?_cons_succ, List.getElem?_nil, List.length_cons, List.length_nil, List.length_map, List.length_append, List.length_set, List.length_take, List.length_drop, List.length_replicate, List.take_succ_cons, List.take_zero, List.take_nil, List.drop_succ_cons, List.drop_zero, List.drop_nil, List.cons_append, List.nil_append, List.append_nil, List.map_cons, List.map_nil, List.all_cons, List.all_nil, List.set_cons_zero, List.set_cons_succ, List.isEmpty_cons, List.isEmpty_nil, List.forall_mem_cons, List.not_mem_nil, List.forall_mem_nil, false_imp_iff, implies_true, ne_eq, not_false_eq_true, Option.map_some, Option.map_none, Nat.zero_add, Nat.add_zero, Nat.sub_self, Int.toNat_natCast, Int.reduceToNat, Int.reduceLT, Int.reduceLE, Int.reduceEq, Int.reduceBEq, beq_self_eq_true, Int.reduceNeg, decide_true, decide_false, IntKind.bits, Nat.min_eq_left, Int.reducePow, Nat.reducePow, Int.fdiv_eq_ediv_of_nonneg, Nat.lt_irrefl, Int.le_refl, Nat.le_refl, Int.natCast_nonneg, Nat.lt_add_one, Nat.zero_lt_succ, view, view2, view1, view0, mapO, capsD_fn, D.sc, D.sc1, D.sc2, pull, pull2, pull1, pull0, idx_hit, idx_miss, idx_nil, sucO_some, sucO_none, gate, pullσ, pullOb, Go.Vi.freeze, Go.Vi.freeze1, capt, capt.captL, reachL, reachO, isin, List.flatten_cons, List.flatten_nil, merge, mset, renOb, fr, D.ren, D.renL, List.getD_cons_zero, List.getD_cons_succ, List.nodup_cons, List.nodup_nil, List.mem_cons, or_false, false_or, resK_nil, resK_tmp, resK_cell, ResC_ptr, ResO_some, ResR_some, ResL_some, ofRes, List.reverse_nil, Option.some.injEq, D.bool.injEq, D.int.injEq, D.str.injEq, D.agg.injEq, D.tup.injEq, D.list.injEq, D.ptr.injEq, D.own.injEq, List.cons.injEq, BndE_fn]))
  skip
 ·have c1 : ((n : Int) == (ts.length : Int)) = false := by simp; omega
  obtain ⟨t, ht⟩ : ∃ t, ts[n]? = some t := ⟨_, List.getElem?_eq_getElem (by omega)⟩
  have ht' := row2_get (k := .i64) (m := .i64) ht
  rw [ht]
  simp only [Option.map_some, Option.getD_some, Option.isSome_some]
  repeat' ((first | refine Run_seq ?_ | refine Run_skip ?_ | refine Run_block ?_ | refine Run_blk ?_ | refine Run_exit rfl ?_ | refine Run_ret ?_ | refine Run_nil ?_ | refine Run_condK ?_ | refine Run_ops mixed ?_ | refine Run_opsX mixed ?_ | with_reducible refine PostV_open ?_ | with_reducible refine PostG_open ?_ | with_reducible refine PostQ_open ?_ | with_reducible refine ro_callV ?_ | with_reducible refine ro_callVX ?_ | refine CallV_pure (h1) ?_ ?_ | refine CallV_pure (h2) ?_ ?_ | simp (disch := omega) only [w64, wu64, wu32, wu16, wu8, Int.tdiv_eq_ediv_of_nonneg, Int.tmod_eq_emod_of_nonneg] | (with_reducible refine SliceK_own rfl rfl ?_ ?_; (focus ((try simp only [row1_len, row2_len, row3_len, rowsS_len, reduceIte, Int.natCast_nonneg, Int.le_refl, List.length_append, List.length_map, Nat.sub_zero]) <;> ((repeat' (with_reducible refine And.intro ?_ ?_)) <;> first | exact trivial | assumption | (simp; done) | (simp only [List.length_map] at *; omega) | omega | (simp [D.cells, D.ok, D.one, D.pt, D.pt1]; done))))) | (refine GuardK_split (fun hc => ?_) (fun hc => ?_) <;> (try simp only [hc]) <;> (try simp at hc)) | (refine CondK_split (fun hc => ?_) (fun hc => ?_) <;> (try simp only [hc]) <;> (try simp at hc)) | (with_reducible refine And.intro ?_ ?_; (focus ((repeat' (with_reducible refine And.intro ?_ ?_)) <;> first | exact trivial | assumption | (simp; done) | (simp only [List.length_map] at *; omega) | omega | (simp [D.cells, D.ok, D.one, D.pt, D.pt1]; done)))) | (with_reducible intro x hx) | omega) <;> (try simp only [row1_len, row2_len, row3_len, rowsS_len, c1, ht', LoadR_some, IaddrR_some, ro_nil, oo_def, om_def, ol_def, oa_def, on_def, og_def, gm_def, gl_def, ga_def, kc_def, kx_def, gk_def, kk_def, kb_def, pf_def, pt_def, ro_mov, ro_mkfn, ro_pick, ro_build, ro_slit, SlitK_t, SlitK_f, ro_chk, ro_bin, ro_eq, ro_un, ro_conv, ro_same, ro_b2s, ro_faddr, ro_fld, ro_idx, ro_ext, ro_len, ro_mx, ro_mn, ro_slice, SliceK_str, SliceK_list, ro_slice3, ro_load, LoadK_elt, LoadK_ptr, LoadO_some, LoadR_some, LoadR_map, ro_box, ro_alloc, ro_store, StoreK_ptr, StoreO_some, StoreR_some, ro_iaddr, IaddrK_list, IaddrK_own, IaddrR_some, IaddrR_map, ro_app, ro_appz, newsD_list, newsD_str, newsD_own, newsO_some, newsC_list, newsC_str, newsC_own, newsCO_some, AppN_some, AppZ_int, AppS_nil, AppS_own, AppO_acc, ro_cap, CapK_own, CapO, ro_ovl, OvlK_own, OvlO_some, ro_copy, CopyK_own, CopyO_some, ro_clear, ClearK_own, ClearO_some, ClearK_nil, ro_mks, MksK_int, winD_all, viewS_list, viewS_own', viewO_some, eqO_ptr, eqO_bool, eqO_func, eqO_row, eqO_list, eqO_own, eqOo_some, rx_nil, rx_cons, keepK_nil, keepK_cons, keepE_nil, keepE_cons, keepN_nil, keepN_cons, D.names, D.namesL, acc_real, acc_nl, acc_pure, acc_fz, acc_sz, acc_rows, acc_spare, ro_guard, GuardK_tt, GuardK_no, GuardK_ff, GuardK_tf, GuardK_ft, CondK_t, CondK_f, contP_some, lk_nil, lk_hit, lk_miss, Nat.reduceBEq, put_some, put_none, ev_t, ev_c, argEnv, reduceIte, Nat.reduceEqDiff, Nat.reduceAdd, Nat.reduceSub, Nat.reduceMul, Nat.reduceLT, Nat.reduceLeDiff, reduceCtorEq, binD, binInt, binStr, eqD, eqCell, eqCells, eqN, boolD, okD, aggD, unD, pickD, chkD, convD, sameD, strD, faddrD, fldD, idxD, extD, lenD, mxD, mnD, sliceD, slice3D, bndD, loadD, fillD, splice, D.cells, D.ok, D.one, D.pt, D.pt1, D.pt0, D.norm1, D.norm, cond_true, cond_false, true_and, and_true, and_self, Bool.true_and, Bool.and_true, Bool.false_and, Bool.and_false, Bool.not_true, Bool.not_false, Bool.true_or, Bool.false_or, Bool.or_true, Bool.or_false, List.getElem?_cons_zero, List.getElem?_cons_succ, List.getElem?_nil, List.length_cons, List.length_nil, List.length_map, List.length_append, List.length_set, List.length_take, List.length_drop, List.length_replicate, List.take_succ_cons, List.take_zero, List.take_nil, List.drop_succ_cons, List.drop_zero, List.drop_nil, List.cons_append, List.nil_append, List.append_nil, List.map_cons, List.map_nil, List.all_cons, List.all_nil, List.set_cons_zero, List.set_cons_succ, List.isEmpty_cons, List.isEmpty_nil, List.forall_mem_cons, List.not_mem_nil, List.forall_mem_nil, false_imp_iff, implies_true, ne_eq, not_false_eq_true, Option.map_some, Option.map_none, Nat.zero_add, Nat.add_zero, Nat.sub_self, Int.toNat_natCast, Int.reduceToNat, Int.reduceLT, Int.reduceLE, Int.reduceEq, Int.reduceBEq, beq_self_eq_true, Int.reduceNeg, decide_true, decide_false, IntKind.bits, Nat.min_eq_left, Int.reducePow, Nat.reducePow, Int.fdiv_eq_ediv_of_nonneg, Nat.lt_irrefl, Int.le_refl, Nat.le_refl, Int.natCast_nonneg, Nat.lt_add_one, Nat.zero_lt_succ, view, view2, view1, view0, mapO, capsD_fn, D.sc, D.sc1, D.sc2, pull, pull2, pull1, pull0, idx_hit, idx_miss, idx_nil, sucO_some, sucO_none, gate, pullσ, pullOb, Go.Vi.freeze, Go.Vi.freeze1, capt, capt.captL, reachL, reachO, isin, List.flatten_cons, List.flatten_nil, merge, mset, renOb, fr, D.ren, D.renL, List.getD_cons_zero, List.getD_cons_succ, List.nodup_cons, List.nodup_nil, List.mem_cons, or_false, false_or, resK_nil, resK_tmp, resK_cell, ResC_ptr, ResO_some, ResR_some, ResL_some, ofRes, List.reverse_nil, Option.some.injEq, D.bool.injEq, D.int.injEq, D.str.injEq, D.agg.injEq, D.tup.injEq, D.list.injEq, D.ptr.injEq, D.own.injEq, List.cons.injEq, BndE_fn]))
  skip
end Go.Proofs.Ytoljgjdloegnoaa

namespace Go.Proofs.Ytoljgjdloegnoaa
open Go Go.Vi
theorem exTK4 : type_of% (an @row1_len (an @row2_len (an @row3_len @rowsS_len))) := (an @row1_len (an @row2_len (an @row3_len @rowsS_len)))
theorem day_p (l : Int) (h1 : -1440 ≤ l) (h2 : l ≤ 1099511627776) : PureD Try.prog 27 [.int .i64 l] (.int .i64 (l / 1440)) := by
 refine pureV Try.func27 low27 (by simp [c27]) ?_
 simp only [c27]
 by_cases h : l < 0
 ·have c1 : (l < 0) = True := by simpa using h
  have e : l / 1440 = -1 := by omega
  rw [e]
  exact wk0 [] [] (an exTK4 c1)
 ·have c1 : (l < 0) = False := by simpa using h
  repeat' ((first | refine Run_seq ?_ | refine Run_skip ?_ | refine Run_block ?_ | refine Run_blk ?_ | refine Run_exit rfl ?_ | refine Run_ret ?_ | refine Run_nil ?_ | refine Run_condK ?_ | refine Run_ops mixed ?_ | refine Run_opsX mixed ?_ | with_reducible refine PostV_open ?_ | with_reducible refine PostG_open ?_ | with_reducible refine PostQ_open ?_ | with_reducible refine ro_callV ?_ | with_reducible refine ro_callVX ?_ | simp (disch := omega) only [w64, wu64, wu32, wu16, wu8, Int.tdiv_eq_ediv_of_nonneg, Int.tmod_eq_emod_of_nonneg] | (with_reducible refine SliceK_own rfl rfl ?_ ?_; (focus ((try simp only [row1_len, row2_len, row3_len, rowsS_len, reduceIte, Int.natCast_nonneg, Int.le_refl, List.length_append, List.length_map, Nat.sub_zero]) <;> ((repeat' (with_reducible refine And.intro ?_ ?_)) <;> first | exact trivial | assumption | (simp; done) | (simp only [List.length_map] at *; omega) | omega | (simp [D.cells, D.ok, D.one, D.pt, D.pt1]; done))))) | (refine GuardK_split (fun hc => ?_) (fun hc => ?_) <;> (try simp only [hc]) <;> (try simp at hc)) | (refine CondK_split (fun hc => ?_) (fun hc => ?_) <;> (try simp only [hc]) <;> (try simp at hc)) | (with_reducible refine And.intro ?_ ?_; (focus ((repeat' (with_reducible refine And.intro ?_ ?_)) <;> first | exact trivial | assumption | (simp; done) | (simp only [List.length_map] at *; omega) | omega | (simp [D.cells, D.ok, D.one, D.pt, D.pt1]; done)))) | (with_reducible intro x hx) | omega) <;> (try simp only [row1_len, row2_len, row3_len, rowsS_len, c1, ro_nil, oo_def, om_def, ol_def, oa_def, on_def, og_def, gm_def, gl_def, ga_def, kc_def, kx_def, gk_def, kk_def, kb_def, pf_def, pt_def, ro_mov, ro_mkfn, ro_pick, ro_build, ro_slit, SlitK_t, SlitK_f, ro_chk, ro_bin, ro_eq, ro_un, ro_conv, ro_same, ro_b2s, ro_faddr, ro_fld, ro_idx, ro_ext, ro_len, ro_mx, ro_mn, ro_slice, SliceK_str, SliceK_list, ro_slice3, ro_load, LoadK_elt, LoadK_ptr, LoadO_some, LoadR_some, LoadR_map, ro_box, ro_alloc, ro_store, StoreK_ptr, StoreO_some, StoreR_some, ro_iaddr, IaddrK_list, IaddrK_own, IaddrR_some, IaddrR_map, ro_app, ro_appz, newsD_list, newsD_str, newsD_own, newsO_some, newsC_list, newsC_str, newsC_own, newsCO_some, AppN_some, AppZ_int, AppS_nil, AppS_own, AppO_acc, ro_cap, CapK_own, CapO, ro_ovl, OvlK_own, OvlO_some, ro_copy, CopyK_own, CopyO_some, ro_clear, ClearK_own, ClearO_some, ClearK_nil, ro_mks, MksK_int, winD_all, viewS_list, viewS_own', viewO_some, eqO_ptr, eqO_bool, eqO_func, eqO_row, eqO_list, eqO_own, eqOo_some, rx_nil, rx_cons, keepK_nil, keepK_cons, keepE_nil, keepE_cons, keepN_nil, keepN_cons, D.names, D.namesL, acc_real, acc_nl, acc_pure, acc_fz, acc_sz, acc_rows, acc_spare, ro_guard, GuardK_tt, GuardK_no, GuardK_ff, GuardK_tf, GuardK_ft, CondK_t, CondK_f, contP_some, lk_nil, lk_hit, lk_miss, Nat.reduceBEq, put_some, put_none, ev_t, ev_c, argEnv, reduceIte, Nat.reduceEqDiff, Nat.reduceAdd, Nat.reduceSub, Nat.reduceMul, Nat.reduceLT, Nat.reduceLeDiff, reduceCtorEq, binD, binInt, binStr, eqD, eqCell, eqCells, eqN, boolD, okD, aggD, unD, pickD, chkD, convD, sameD, strD, faddrD, fldD, idxD, extD, lenD, mxD, mnD, sliceD, slice3D, bndD, loadD, fillD, splice, D.cells, D.ok, D.one, D.pt, D.pt1, D.pt0, D.norm1, D.norm, cond_true, cond_false, true_and, and_true, and_self, Bool.true_and, Bool.and_true, Bool.false_and, Bool.and_false, Bool.not_true, Bool.not_false, Bool.true_or, Bool.false_or, Bool.or_true, Bool.or_false, List.getElem?_cons_zero, List.getElem?_cons_succ, List.getElem?_nil, List.length_cons, List.length_nil, List.length_map, List.length_append, List.length_set, List.length_take, List.length_drop, List.length_replicate, List.take_succ_cons, List.take_zero, List.take_nil, List.drop_succ_cons, List.drop_zero, List.drop_nil, List.cons_append, List.nil_append, List.append_nil, List.map_cons, List.map_nil, List.all_cons, List.all_nil, List.set_cons_zero, List.set_cons_succ, List.isEmpty_cons, List.isEmpty_nil, List.forall_mem_cons, List.not_mem_nil, List.forall_mem_nil, false_imp_iff, implies_true, ne_eq, not_false_eq_true, Option.map_some, Option.map_none, Nat.zero_add, Nat.add_zero, Nat.sub_self, Int.toNat_natCast, Int.reduceToNat, Int.reduceLT, Int.reduceLE, Int.reduceEq, Int.reduceBEq, beq_self_eq_true, Int.reduceNeg, decide_true, decide_false, IntKind.bits, Nat.min_eq_left, Int.reducePow, Nat.reducePow, Int.fdiv_eq_ediv_of_nonneg, Nat.lt_irrefl, Int.le_refl, Nat.le_refl, Int.natCast_nonneg, Nat.lt_add_one, Nat.zero_lt_succ, view, view2, view1, view0, mapO, capsD_fn, D.sc, D.sc1, D.sc2, pull, pull2, pull1, pull0, idx_hit, idx_miss, idx_nil, sucO_some, sucO_none, gate, pullσ, pullOb, Go.Vi.freeze, Go.Vi.freeze1, capt, capt.captL, reachL, reachO, isin, List.flatten_cons, List.flatten_nil, merge, mset, renOb, fr, D.ren, D.renL, List.getD_cons_zero, List.getD_cons_succ, List.nodup_cons, List.nodup_nil, List.mem_cons, or_false, false_or, resK_nil, resK_tmp, resK_cell, ResC_ptr, ResO_some, ResR_some, ResL_some, ofRes, List.reverse_nil, Option.some.injEq, D.bool.injEq, D.int.injEq, D.str.injEq, D.agg.injEq, D.tup.injEq, D.list.injEq, D.ptr.injEq, D.own.injEq, List.cons.injEq, BndE_fn]))
  skip
theorem weekday_p (n : Int) (h1 : -1 ≤ n) (h2 : n ≤ 1099511627776) : PureD Try.prog 40 [.int .i64 n] (.int .i64 (n % 7)) := by
 refine pureV Try.func40 low40 (by simp [c40]) ?_
 simp only [c40]
 by_cases h : n < 0
 ·obtain rfl : n = -1 := by omega
  have e1 : Int.tmod (-1) 7 = -1 := by decide
  have e2 : (-1 : Int) + 7 = 6 := by decide
  have e3 : Int.tmod 6 7 = 6 := by decide
  have e4 : (-1 : Int) % 7 = 6 := by decide
  rw [e4]
  repeat' ((first | refine Run_seq ?_ | refine Run_skip ?_ | refine Run_block ?_ | refine Run_blk ?_ | refine Run_exit rfl ?_ | refine Run_ret ?_ | refine Run_nil ?_ | refine Run_condK ?_ | refine Run_ops mixed ?_ | refine Run_opsX mixed ?_ | with_reducible refine PostV_open ?_ | with_reducible refine PostG_open ?_ | with_reducible refine PostQ_open ?_ | with_reducible refine ro_callV ?_ | with_reducible refine ro_callVX ?_ | simp (disch := omega) only [w64, wu64, wu32, wu16, wu8, Int.tdiv_eq_ediv_of_nonneg, Int.tmod_eq_emod_of_nonneg] | (with_reducible refine SliceK_own rfl rfl ?_ ?_; (focus ((try simp only [row1_len, row2_len, row3_len, rowsS_len, reduceIte, Int.natCast_nonneg, Int.le_refl, List.length_append, List.length_map, Nat.sub_zero]) <;> ((repeat' (with_reducible refine And.intro ?_ ?_)) <;> first | exact trivial | assumption | (simp; done) | (simp only [List.length_map] at *; omega) | omega | (simp [D.cells, D.ok, D.one, D.pt, D.pt1]; done))))) | (refine GuardK_split (fun hc => ?_) (fun hc => ?_) <;> (try simp only [hc]) <;> (try simp at hc)) | (refine CondK_split (fun hc => ?_) (fun hc => ?_) <;> (try simp only [hc]) <;> (try simp at hc)) | (with_reducible refine And.intro ?_ ?_; (focus ((repeat' (with_reducible refine And.intro ?_ ?_)) <;> first | exact trivial | assumption | (simp; done) | (simp only [List.length_map] at *; omega) | omega | (simp [D.cells, D.ok, D.one, D.pt, D.pt1]; done)))) | (with_reducible intro x hx) | omega) <;> (try simp only [row1_len, row2_len, row3_len, rowsS_len, e1, e2, e3, ro_nil, oo_def, om_def, ol_def, oa_def, on_def, og_def, gm_def, gl_def, ga_def, kc_def, kx_def, gk_def, kk_def, kb_def, pf_def, pt_def, ro_mov, ro_mkfn, ro_pick, ro_build, ro_slit, SlitK_t, SlitK_f, ro_chk, ro_bin, ro_eq, ro_un, ro_conv, ro_same, ro_b2s, ro_faddr, ro_fld, ro_idx, ro_ext, ro_len, ro_mx, ro_mn, ro_slice, SliceK_str, SliceK_list, ro_slice3, ro_load, LoadK_elt, LoadK_ptr, LoadO_some, LoadR_some, LoadR_map, ro_box, ro_alloc, ro_store, StoreK_ptr, StoreO_some, StoreR_some, ro_iaddr, IaddrK_list, IaddrK_own, IaddrR_some, IaddrR_map, ro_app, ro_appz, newsD_list, newsD_str, newsD_own, newsO_some, newsC_list, newsC_str, newsC_own, newsCO_some, AppN_some, AppZ_int, AppS_nil, AppS_own, AppO_acc, ro_cap, CapK_own, CapO, ro_ovl, OvlK_own, OvlO_some, ro_copy, CopyK_own, CopyO_some, ro_clear, ClearK_own, ClearO_some, ClearK_nil, ro_mks, MksK_int, winD_all, viewS_list, viewS_own', viewO_some, eqO_ptr, eqO_bool, eqO_func, eqO_row, eqO_list, eqO_own, eqOo_some, rx_nil, rx_cons, keepK_nil, keepK_cons, keepE_nil, keepE_cons, keepN_nil, keepN_cons, D.names, D.namesL, acc_real, acc_nl, acc_pure, acc_fz, acc_sz, acc_rows, acc_spare, ro_guard, GuardK_tt, GuardK_no, GuardK_ff, GuardK_tf, GuardK_ft, CondK_t, CondK_f, contP_some, lk_nil, lk_hit, lk_miss, Nat.reduceBEq, put_some, put_none, ev_t, ev_c, argEnv, reduceIte, Nat.reduceEqDiff, Nat.reduceAdd, Nat.reduceSub, Nat.reduceMul, Nat.reduceLT, Nat.reduceLeDiff, reduceCtorEq, binD, binInt, binStr, eqD, eqCell, eqCells, eqN, boolD, okD, aggD, unD, pickD, chkD, convD, sameD, strD, faddrD, fldD, idxD, extD, lenD, mxD, mnD, sliceD, slice3D, bndD, loadD, fillD, splice, D.cells, D.ok, D.one, D.pt, D.pt1, D.pt0, D.norm1, D.norm, cond_true, cond_false, true_and, and_true, and_self, Bool.true_and, Bool.and_true, Bool.false_and, Bool.and_false, Bool.not_true, Bool.not_false, Bool.true_or, Bool.false_or, Bool.or_true, Bool.or_false, List.getElem?_cons_zero, List.getElem?_cons_succ, List.getElem?_nil, List.length_cons, List.length_nil, List.length_map, List.length_append, List.length_set, List.length_take, List.length_drop, List.length_replicate, List.take_succ_cons, List.take_zero, List.take_nil, List.drop_succ_cons, List.drop_zero, List.drop_nil, List.cons_append, List.nil_append, List.append_nil, List.map_cons, List.map_nil, List.all_cons, List.all_nil, List.set_cons_zero, List.set_cons_succ, List.isEmpty_cons, List.isEmpty_nil, List.forall_mem_cons, List.not_mem_nil, List.forall_mem_nil, false_imp_iff, implies_true, ne_eq, not_false_eq_true, Option.map_some, Option.map_none, Nat.zero_add, Nat.add_zero, Nat.sub_self, Int.toNat_natCast, Int.reduceToNat, Int.reduceLT, Int.reduceLE, Int.reduceEq, Int.reduceBEq, beq_self_eq_true, Int.reduceNeg, decide_true, decide_false, IntKind.bits, Nat.min_eq_left, Int.reducePow, Nat.reducePow, Int.fdiv_eq_ediv_of_nonneg, Nat.lt_irrefl, Int.le_refl, Nat.le_refl, Int.natCast_nonneg, Nat.lt_add_one, Nat.zero_lt_succ, view, view2, view1, view0, mapO, capsD_fn, D.sc, D.sc1, D.sc2, pull, pull2, pull1, pull0, idx_hit, idx_miss, idx_nil, sucO_some, sucO_none, gate, pullσ, pullOb, Go.Vi.freeze, Go.Vi.freeze1, capt, capt.captL, reachL, reachO, isin, List.flatten_cons, List.flatten_nil, merge, mset, renOb, fr, D.ren, D.renL, List.getD_cons_zero, List.getD_cons_succ, List.nodup_cons, List.nodup_nil, List.mem_cons, or_false, false_or, resK_nil, resK_tmp, resK_cell, ResC_ptr, ResO_some, ResR_some, ResL_some, ofRes, List.reverse_nil, Option.some.injEq, D.bool.injEq, D.int.injEq, D.str.injEq, D.agg.injEq, D.tup.injEq, D.list.injEq, D.ptr.injEq, D.own.injEq, List.cons.injEq, BndE_fn]))
  skip
 ·have e1 : n.tmod 7 = n % 7 := Int.tmod_eq_emod_of_nonneg (by omega)
  have e2 : (n % 7 + 7).tmod 7 = n % 7 := by rw [Int.tmod_eq_emod_of_nonneg (by omega)]; omega
  repeat' ((first | refine Run_seq ?_ | refine Run_skip ?_ | refine Run_block ?_ | refine Run_blk ?_ | refine Run_exit rfl ?_ | refine Run_ret ?_ | refine Run_nil ?_ | refine Run_condK ?_ | refine Run_ops mixed ?_ | refine Run_opsX mixed ?_ | with_reducible refine PostV_open ?_ | with_reducible refine PostG_open ?_ | with_reducible refine PostQ_open ?_ | with_reducible refine ro_callV ?_ | with_reducible refine ro_callVX ?_ | simp (disch := omega) only [w64, wu64, wu32, wu16, wu8, Int.tdiv_eq_ediv_of_nonneg, Int.tmod_eq_emod_of_nonneg] | (with_reducible refine SliceK_own rfl rfl ?_ ?_; (focus ((try simp only [row1_len, row2_len, row3_len, rowsS_len, reduceIte, Int.natCast_nonneg, Int.le_refl, List.length_append, List.length_map, Nat.sub_zero]) <;> ((repeat' (with_reducible refine And.intro ?_ ?_)) <;> first | exact trivial | assumption | (simp; done) | (simp only [List.length_map] at *; omega) | omega | (simp [D.cells, D.ok, D.one, D.pt, D.pt1]; done))))) | (refine GuardK_split (fun hc => ?_) (fun hc => ?_) <;> (try simp only [hc]) <;> (try simp at hc)) | (refine CondK_split (fun hc => ?_) (fun hc => ?_) <;> (try simp only [hc]) <;> (try simp at hc)) | (with_reducible refine And.intro ?_ ?_; (focus ((repeat' (with_reducible refine And.intro ?_ ?_)) <;> first | exact trivial | assumption | (simp; done) | (simp only [List.length_map] at *; omega) | omega | (simp [D.cells, D.ok, D.one, D.pt, D.pt1]; done)))) | (with_reducible intro x hx) | omega) <;> (try simp only [row1_len, row2_len, row3_len, rowsS_len, e1, e2, ro_nil, oo_def, om_def, ol_def, oa_def, on_def, og_def, gm_def, gl_def, ga_def, kc_def, kx_def, gk_def, kk_def, kb_def, pf_def, pt_def, ro_mov, ro_mkfn, ro_pick, ro_build, ro_slit, SlitK_t, SlitK_f, ro_chk, ro_bin, ro_eq, ro_un, ro_conv, ro_same, ro_b2s, ro_faddr, ro_fld, ro_idx, ro_ext, ro_len, ro_mx, ro_mn, ro_slice, SliceK_str, SliceK_list, ro_slice3, ro_load, LoadK_elt, LoadK_ptr, LoadO_some, LoadR_some, LoadR_map, ro_box, ro_alloc, ro_store, StoreK_ptr, StoreO_some, StoreR_some, ro_iaddr, IaddrK_list, IaddrK_own, IaddrR_some, IaddrR_map, ro_app, ro_appz, newsD_list, newsD_str, newsD_own, newsO_some, newsC_list, newsC_str, newsC_own, newsCO_some, AppN_some, AppZ_int, AppS_nil, AppS_own, AppO_acc, ro_cap, CapK_own, CapO, ro_ovl, OvlK_own, OvlO_some, ro_copy, CopyK_own, CopyO_some, ro_clear, ClearK_own, ClearO_some, ClearK_nil, ro_mks, MksK_int, winD_all, viewS_list, viewS_own', viewO_some, eqO_ptr, eqO_bool, eqO_func, eqO_row, eqO_list, eqO_own, eqOo_some, rx_nil, rx_cons, keepK_nil, keepK_cons, keepE_nil, keepE_cons, keepN_nil, keepN_cons, D.names, D.namesL, acc_real, acc_nl, acc_pure, acc_fz, acc_sz, acc_rows, acc_spare, ro_guard, GuardK_tt, GuardK_no, GuardK_ff, GuardK_tf, GuardK_ft, CondK_t, CondK_f, contP_some, lk_nil, lk_hit, lk_miss, Nat.reduceBEq, put_some, put_none, ev_t, ev_c, argEnv, reduceIte, Nat.reduceEqDiff, Nat.reduceAdd, Nat.reduceSub, Nat.reduceMul, Nat.reduceLT, Nat.reduceLeDiff, reduceCtorEq, binD, binInt, binStr, eqD, eqCell, eqCells, eqN, boolD, okD, aggD, unD, pickD, chkD, convD, sameD, strD, faddrD, fldD, idxD, extD, lenD, mxD, mnD, sliceD, slice3D, bndD, loadD, fillD, splice, D.cells, D.ok, D.one, D.pt, D.pt1, D.pt0, D.norm1, D.norm, cond_true, cond_false, true_and, and_true, and_self, Bool.true_and, Bool.and_true, Bool.false_and, Bool.and_false, Bool.not_true, Bool.not_false, Bool.true_or, Bool.false_or, Bool.or_true, Bool.or_false, List.getElem?_cons_zero, List.getElem?_cons_succ, List.getElem?_nil, List.length_cons, List.length_nil, List.length_map, List.length_append, List.length_set, List.length_take, List.length_drop, List.length_replicate, List.take_succ_cons, List.take_zero, List.take_nil, List.drop_succ_cons, List.drop_zero, List.drop_nil, List.cons_append, List.nil_append, List.append_nil, List.map_cons, List.map_nil, List.all_cons, List.all_nil, List.set_cons_zero, List.set_cons_succ, List.isEmpty_cons, List.isEmpty_nil, List.forall_mem_cons, List.not_mem_nil, List.forall_mem_nil, false_imp_iff, implies_true, ne_eq, not_false_eq_true, Option.map_some, Option.map_none, Nat.zero_add, Nat.add_zero, Nat.sub_self, Int.toNat_natCast, Int.reduceToNat, Int.reduceLT, Int.reduceLE, Int.reduceEq, Int.reduceBEq, beq_self_eq_true, Int.reduceNeg, decide_true, decide_false, IntKind.bits, Nat.min_eq_left, Int.reducePow, Nat.reducePow, Int.fdiv_eq_ediv_of_nonneg, Nat.lt_irrefl, Int.le_refl, Nat.le_refl, Int.natCast_nonneg, Nat.lt_add_one, Nat.zero_lt_succ, view, view2, view1, view0, mapO, capsD_fn, D.sc, D.sc1, D.sc2, pull, pull2, pull1, pull0, idx_hit, idx_miss, idx_nil, sucO_some, sucO_none, gate, pullσ, pullOb, Go.Vi.freeze, Go.Vi.freeze1, capt, capt.captL, reachL, reachO, isin, List.flatten_cons, List.flatten_nil, merge, mset, renOb, fr, D.ren, D.renL, List.getD_cons_zero, List.getD_cons_succ, List.nodup_cons, List.nodup_nil, List.mem_cons, or_false, false_or, resK_nil, resK_tmp, resK_cell, ResC_ptr, ResO_some, ResR_some, ResL_some, ofRes, List.reverse_nil, Option.some.injEq, D.bool.injEq, D.int.injEq, D.str.injEq, D.agg.injEq, D.tup.injEq, D.list.injEq, D.ptr.injEq, D.own.injEq, List.cons.injEq, BndE_fn]))
  skip
theorem sNaN_p (a : Int) : PureD Try.prog 47 [.int .i64 a] (.bool false) := by
 refine pureV Try.func47 low47 (by simp [c47]) ?_
 simp only [c47]
 have h : (a != a) = false := by simp
 exact wk0 [] [] (an exTK4 h)
theorem cNaN_p (a : Int) : PureD Try.prog 58 [.int .i64 a] (.bool false) := by
 refine pureV Try.func58 low58 (by simp [c58]) ?_
 simp only [c58]
 have h : (a != a) = false := by simp
 exact wk0 [] [] (an exTK4 h)
theorem less_p (a b : Int) : PureD Try.prog 46 [.int .i64 a, .int .i64 b] (.bool (decide (a < b))) := by
 refine pureV Try.func46 low46 (by simp [c46]) ?_
 simp only [c46]
 have uc1 := @cNaN_p
 exact wk0 [] [] exTK4
def isI (l : List Int) (k : Nat) (u : Int) : Bool := match l[k]? with | some t => t == u | none => false
set_option maxHeartbeats 1000000 in
theorem bsI_p (l : List Int) (u : Int) (k : Nat) (hl : l.length ≤ 140737488351232) (hk : k ≤ l.length) (hs : ∀ (h : Nat) (d : Int), l[h]? = some d → (d < u ↔ h < k)) :
  PureD Try.prog 39 [L (row1 .i64 l), .int .i64 u] (.tup [.int .i64 k, .bool (isI l k u)]) := by
 refine pureV Try.func39 low39 (by simp [c39]) ?_
 simp only [c39]
 refine wk [] [] exTK4 ?_
 refine Run_loop (ι := {p : Nat × Nat // p.1 ≤ k ∧ k ≤ p.2 ∧ p.2 ≤ l.length}) (fun p => ([(0, L (row1 .i64 l)), (1, .int .i64 u), (6, .int .i64 l.length), (7, .int .i64 p.1.1), (8, .int .i64 p.1.2)], [])) (fun p => p.1.2 - p.1.1) ⟨(0, l.length), by simp, hk, by simp⟩ ?_ ?_
 ·exact gcw [] exTK4
 rintro ⟨⟨i, j⟩, h1, h2, h3⟩ hk'
 dsimp only at h1 h2 h3 hk' ⊢
 by_cases hij : i < j
 ·have c1 : ((i : Int) < (j : Int)) = True := by simp; omega
  obtain ⟨h, hh⟩ : ∃ h : Nat, h = (i + j) / 2 := ⟨_, rfl⟩
  have e2 : ((i : Int) + (j : Int)) / 2 = (h : Int) := by omega
  obtain ⟨d, hd⟩ : ∃ d, l[h]? = some d := ⟨_, List.getElem?_eq_getElem (by omega)⟩
  have hsd := hs h d hd
  have hd' := row1_get (k := .i64) hd
  have pl := less_p d u
  by_cases hlt : h < k
  ·have c2 : decide (d < u) = true := by simpa using hsd.2 hlt
   rw [c2] at pl
   refine wk [] [] (an exTK4 (an c1 (an e2 hd'))) ?_
   refine hk' ⟨(h + 1, j), by omega, by omega, by omega⟩ _ _ (by dsimp only; omega) ?_
   dsimp only
   exact gcw [] exTK4
  ·have c2 : decide (d < u) = false := by have := mt hsd.1 hlt; simpa using this
   rw [c2] at pl
   refine wk [] [] (an exTK4 (an c1 (an e2 hd'))) ?_
   refine hk' ⟨(i, h), by omega, by omega, by omega⟩ _ _ (by dsimp only; omega) ?_
   dsimp only
   exact gcw [] exTK4
 ·have c1 : ((i : Int) < (j : Int)) = False := by simp; omega
  obtain rfl : i = k := by omega
  have n1 := sNaN_p u
  by_cases hkl : i < l.length
  ·have c2 : ((i : Int) < (l.length : Int)) = True := by simp; omega
   obtain ⟨d, hd⟩ : ∃ d, l[i]? = some d := ⟨_, List.getElem?_eq_getElem (by omega)⟩
   have hd' := row1_get (k := .i64) hd
   have n2 := sNaN_p d
   have e : isI l i u = (d == u) := by unfold isI; rw [hd]
   rw [e]
   by_cases hdu : d = u
   ·have c3 : (d == u) = true := by simpa using hdu
    rw [c3]
    repeat' ((first | refine Run_seq ?_ | refine Run_skip ?_ | refine Run_block ?_ | refine Run_blk ?_ | refine Run_exit rfl ?_ | refine Run_ret ?_ | refine Run_nil ?_ | refine Run_condK ?_ | refine Run_ops mixed ?_ | refine Run_opsX mixed ?_ | with_reducible refine PostV_open ?_ | with_reducible refine PostG_open ?_ | with_reducible refine PostQ_open ?_ | with_reducible refine ro_callV ?_ | with_reducible refine ro_callVX ?_ | refine CallV_pure (n1) ?_ ?_ | refine CallV_pure (n2) ?_ ?_ | simp (disch := omega) only [w64, wu64, wu32, wu16, wu8, Int.tdiv_eq_ediv_of_nonneg, Int.tmod_eq_emod_of_nonneg] | (with_reducible refine SliceK_own rfl rfl ?_ ?_; (focus ((try simp only [row1_len, row2_len, row3_len, rowsS_len, reduceIte, Int.natCast_nonneg, Int.le_refl, List.length_append, List.length_map, Nat.sub_zero]) <;> ((repeat' (with_reducible refine And.intro ?_ ?_)) <;> first | exact trivial | assumption | (simp; done) | (simp only [List.length_map] at *; omega) | omega | (simp [D.cells, D.ok, D.one, D.pt, D.pt1]; done))))) | (refine GuardK_split (fun hc => ?_) (fun hc => ?_) <;> (try simp only [hc]) <;> (try simp at hc)) | (refine CondK_split (fun hc => ?_) (fun hc => ?_) <;> (try simp only [hc]) <;> (try simp at hc)) | (with_reducible refine And.intro ?_ ?_; (focus ((repeat' (with_reducible refine And.intro ?_ ?_)) <;> first | exact trivial | assumption | (simp; done) | (simp only [List.length_map] at *; omega) | omega | (simp [D.cells, D.ok, D.one, D.pt, D.pt1]; done)))) | (with_reducible intro x hx) | omega) <;> (try simp only [row1_len, row2_len, row3_len, rowsS_len, c1, c2, c3, hd', LoadR_some, IaddrR_some, ro_nil, oo_def, om_def, ol_def, oa_def, on_def, og_def, gm_def, gl_def, ga_def, kc_def, kx_def, gk_def, kk_def, kb_def, pf_def, pt_def, ro_mov, ro_mkfn, ro_pick, ro_build, ro_slit, SlitK_t, SlitK_f, ro_chk, ro_bin, ro_eq, ro_un, ro_conv, ro_same, ro_b2s, ro_faddr, ro_fld, ro_idx, ro_ext, ro_len, ro_mx, ro_mn, ro_slice, SliceK_str, SliceK_list, ro_slice3, ro_load, LoadK_elt, LoadK_ptr, LoadO_some, LoadR_some, LoadR_map, ro_box, ro_alloc, ro_store, StoreK_ptr, StoreO_some, StoreR_some, ro_iaddr, IaddrK_list, IaddrK_own, IaddrR_some, IaddrR_map, ro_app, ro_appz, newsD_list, newsD_str, newsD_own, newsO_some, newsC_list, newsC_str, newsC_own, newsCO_some, AppN_some, AppZ_int, AppS_nil, AppS_own, AppO_acc, ro_cap, CapK_own, CapO, ro_ovl, OvlK_own, OvlO_some, ro_copy, CopyK_own, CopyO_some, ro_clear, ClearK_own, ClearO_some, ClearK_nil, ro_mks, MksK_int, winD_all, viewS_list, viewS_own', viewO_some, eqO_ptr, eqO_bool, eqO_func, eqO_row, eqO_list, eqO_own, eqOo_some, rx_nil, rx_cons, keepK_nil, keepK_cons, keepE_nil, keepE_cons, keepN_nil, keepN_cons, D.names, D.namesL, acc_real, acc_nl, acc_pure, acc_fz, acc_sz, acc_rows, acc_spare, ro_guard, GuardK_tt, GuardK_no, GuardK_ff, GuardK_tf, GuardK_ft, CondK_t, CondK_f, contP_some, lk_nil, lk_hit, lk_miss, Nat.reduceBEq, put_some, put_none, ev_t, ev_c, argEnv, reduceIte, Nat.reduceEqDiff, Nat.reduceAdd, Nat.reduceSub, Nat.reduceMul, Nat.reduceLT, Nat.reduceLeDiff, reduceCtorEq, binD, binInt, binStr, eqD, eqCell, eqCells, eqN, boolD, okD, aggD, unD, pickD, chkD, convD, sameD, strD, faddrD, fldD, idxD, extD, lenD, mxD, mnD, sliceD, slice3D, bndD, loadD, fillD, splice, D.cells, D.ok, D.one, D.pt, D.pt1, D.pt0, D.norm1, D.norm, cond_true, cond_false, true_and, and_true, and_self, Bool.true_and, Bool.and_true, Bool.false_and, Bool.and_false, Bool.not_true, Bool.not_false, Bool.true_or, Bool.false_or, Bool.or_true, Bool.or_false, List.getElem?_cons_zero, List.getElem?_cons_succ, List.getElem?_nil, List.length_cons, List.length_nil, List.length_map, List.length_append, List.length_set, List.length_take, List.length_drop, List.length_replicate, List.take_succ_cons, List.take_zero, List.take_nil, List.drop_succ_cons, List.drop_zero, List.drop_nil, List.cons_append, List.nil_append, List.append_nil, List.map_cons, List.map_nil, List.all_cons, List.all_nil, List.set_cons_zero, List.set_cons_succ, List.isEmpty_cons, List.isEmpty_nil, List.forall_mem_cons, List.not_mem_nil, List.forall_mem_nil, false_imp_iff, implies_true, ne_eq, not_false_eq_true, Option.map_some, Option.map_none, Nat.zero_add, Nat.add_zero, Nat.sub_self, Int.toNat_natCast, Int.reduceToNat, Int.reduceLT, Int.reduceLE, Int.reduceEq, Int.reduceBEq, beq_self_eq_true, Int.reduceNeg, decide_true, decide_false, IntKind.bits, Nat.min_eq_left, Int.reducePow, Nat.reducePow, Int.fdiv_eq_ediv_of_nonneg, Nat.lt_irrefl, Int.le_refl, Nat.le_refl, Int.natCast_nonneg, Nat.lt_add_one, Nat.zero_lt_succ, view, view2, view1, view0, mapO, capsD_fn, D.sc, D.sc1, D.sc2, pull, pull2, pull1, pull0, idx_hit, idx_miss, idx_nil, sucO_some, sucO_none, gate, pullσ, pullOb, Go.Vi.freeze, Go.Vi.freeze1, capt, capt.captL, reachL, reachO, isin, List.flatten_cons, List.flatten_nil, merge, mset, renOb, fr, D.ren, D.renL, List.getD_cons_zero, List.getD_cons_succ, List.nodup_cons, List.nodup_nil, List.mem_cons, or_false, false_or, resK_nil, resK_tmp, resK_cell, ResC_ptr, ResO_some, ResR_some, ResL_some, ofRes, List.reverse_nil, Option.some.injEq, D.bool.injEq, D.int.injEq, D.str.injEq, D.agg.injEq, D.tup.injEq, D.list.injEq, D.ptr.injEq, D.own.injEq, List.cons.injEq, BndE_fn]))
    skip
   ·have c3 : (d == u) = false := by simpa using hdu
    rw [c3]
    repeat' ((first | refine Run_seq ?_ | refine Run_skip ?_ | refine Run_block ?_ | refine Run_blk ?_ | refine Run_exit rfl ?_ | refine Run_ret ?_ | refine Run_nil ?_ | refine Run_condK ?_ | refine Run_ops mixed ?_ | refine Run_opsX mixed ?_ | with_reducible refine PostV_open ?_ | with_reducible refine PostG_open ?_ | with_reducible refine PostQ_open ?_ | with_reducible refine ro_callV ?_ | with_reducible refine ro_callVX ?_ | refine CallV_pure (n1) ?_ ?_ | refine CallV_pure (n2) ?_ ?_ | simp (disch := omega) only [w64, wu64, wu32, wu16, wu8, Int.tdiv_eq_ediv_of_nonneg, Int.tmod_eq_emod_of_nonneg] | (with_reducible refine SliceK_own rfl rfl ?_ ?_; (focus ((try simp only [row1_len, row2_len, row3_len, rowsS_len, reduceIte, Int.natCast_nonneg, Int.le_refl, List.length_append, List.length_map, Nat.sub_zero]) <;> ((repeat' (with_reducible refine And.intro ?_ ?_)) <;> first | exact trivial | assumption | (simp; done) | (simp only [List.length_map] at *; omega) | omega | (simp [D.cells, D.ok, D.one, D.pt, D.pt1]; done))))) | (refine GuardK_split (fun hc => ?_) (fun hc => ?_) <;> (try simp only [hc]) <;> (try simp at hc)) | (refine CondK_split (fun hc => ?_) (fun hc => ?_) <;> (try simp only [hc]) <;> (try simp at hc)) | (with_reducible refine And.intro ?_ ?_; (focus ((repeat' (with_reducible refine And.intro ?_ ?_)) <;> first | exact trivial | assumption | (simp; done) | (simp only [List.length_map] at *; omega) | omega | (simp [D.cells, D.ok, D.one, D.pt, D.pt1]; done)))) | (with_reducible intro x hx) | omega) <;> (try simp only [row1_len, row2_len, row3_len, rowsS_len, c1, c2, c3, hd', LoadR_some, IaddrR_some, ro_nil, oo_def, om_def, ol_def, oa_def, on_def, og_def, gm_def, gl_def, ga_def, kc_def, kx_def, gk_def, kk_def, kb_def, pf_def, pt_def, ro_mov, ro_mkfn, ro_pick, ro_build, ro_slit, SlitK_t, SlitK_f, ro_chk, ro_bin, ro_eq, ro_un, ro_conv, ro_same, ro_b2s, ro_faddr, ro_fld, ro_idx, ro_ext, ro_len, ro_mx, ro_mn, ro_slice, SliceK_str, SliceK_list, ro_slice3, ro_load, LoadK_elt, LoadK_ptr, LoadO_some, LoadR_some, LoadR_map, ro_box, ro_alloc, ro_store, StoreK_ptr, StoreO_some, StoreR_some, ro_iaddr, IaddrK_list, IaddrK_own, IaddrR_some, IaddrR_map, ro_app, ro_appz, newsD_list, newsD_str, newsD_own, newsO_some, newsC_list, newsC_str, newsC_own, newsCO_some, AppN_some, AppZ_int, AppS_nil, AppS_own, AppO_acc, ro_cap, CapK_own, CapO, ro_ovl, OvlK_own, OvlO_some, ro_copy, CopyK_own, CopyO_some, ro_clear, ClearK_own, ClearO_some, ClearK_nil, ro_mks, MksK_int, winD_all, viewS_list, viewS_own', viewO_some, eqO_ptr, eqO_bool, eqO_func, eqO_row, eqO_list, eqO_own, eqOo_some, rx_nil, rx_cons, keepK_nil, keepK_cons, keepE_nil, keepE_cons, keepN_nil, keepN_cons, D.names, D.namesL, acc_real, acc_nl, acc_pure, acc_fz, acc_sz, acc_rows, acc_spare, ro_guard, GuardK_tt, GuardK_no, GuardK_ff, GuardK_tf, GuardK_ft, CondK_t, CondK_f, contP_some, lk_nil, lk_hit, lk_miss, Nat.reduceBEq, put_some, put_none, ev_t, ev_c, argEnv, reduceIte, Nat.reduceEqDiff, Nat.reduceAdd, Nat.reduceSub, Nat.reduceMul, Nat.reduceLT, Nat.reduceLeDiff, reduceCtorEq, binD, binInt, binStr, eqD, eqCell, eqCells, eqN, boolD, okD, aggD, unD, pickD, chkD, convD, sameD, strD, faddrD, fldD, idxD, extD, lenD, mxD, mnD, sliceD, slice3D, bndD, loadD, fillD, splice, D.cells, D.ok, D.one, D.pt, D.pt1, D.pt0, D.norm1, D.norm, cond_true, cond_false, true_and, and_true, and_self, Bool.true_and, Bool.and_true, Bool.false_and, Bool.and_false, Bool.not_true, Bool.not_false, Bool.true_or, Bool.false_or, Bool.or_true, Bool.or_false, List.getElem?_cons_zero, List.getElem?_cons_succ, List.getElem?_nil, List.length_cons, List.length_nil, List.length_map, List.length_append, List.length_set, List.length_take, List.length_drop, List.length_replicate, List.take_succ_cons, List.take_zero, List.take_nil, List.drop_succ_cons, List.drop_zero, List.drop_nil, List.cons_append, List.nil_append, List.append_nil, List.map_cons, List.map_nil, List.all_cons, List.all_nil, List.set_cons_zero, List.set_cons_succ, List.isEmpty_cons, List.isEmpty_nil, List.forall_mem_cons, List.not_mem_nil, List.forall_mem_nil, false_imp_iff, implies_true, ne_eq, not_false_eq_true, Option.map_some, Option.map_none, Nat.zero_add, Nat.add_zero, Nat.sub_self, Int.toNat_natCast, Int.reduceToNat, Int.reduceLT, Int.reduceLE, Int.reduceEq, Int.reduceBEq, beq_self_eq_true, Int.reduceNeg, decide_true, decide_false, IntKind.bits, Nat.min_eq_left, Int.reducePow, Nat.reducePow, Int.fdiv_eq_ediv_of_nonneg, Nat.lt_irrefl, Int.le_refl, Nat.le_refl, Int.natCast_nonneg, Nat.lt_add_one, Nat.zero_lt_succ, view, view2, view1, view0, mapO, capsD_fn, D.sc, D.sc1, D.sc2, pull, pull2, pull1, pull0, idx_hit, idx_miss, idx_nil, sucO_some, sucO_none, gate, pullσ, pullOb, Go.Vi.freeze, Go.Vi.freeze1, capt, capt.captL, reachL, reachO, isin, List.flatten_cons, List.flatten_nil, merge, mset, renOb, fr, D.ren, D.renL, List.getD_cons_zero, List.getD_cons_succ, List.nodup_cons, List.nodup_nil, List.mem_cons, or_false, false_or, resK_nil, resK_tmp, resK_cell, ResC_ptr, ResO_some, ResR_some, ResL_some, ofRes, List.reverse_nil, Option.some.injEq, D.bool.injEq, D.int.injEq, D.str.injEq, D.agg.injEq, D.tup.injEq, D.list.injEq, D.ptr.injEq, D.own.injEq, List.cons.injEq, BndE_fn]))
    skip
  ·have c2 : ((i : Int) < (l.length : Int)) = False := by simp; omega
   have e : isI l i u = false := by unfold isI; rw [List.getElem?_eq_none (by omega)]
   rw [e]
   repeat' ((first | refine Run_seq ?_ | refine Run_skip ?_ | refine Run_block ?_ | refine Run_blk ?_ | refine Run_exit rfl ?_ | refine Run_ret ?_ | refine Run_nil ?_ | refine Run_condK ?_ | refine Run_ops mixed ?_ | refine Run_opsX mixed ?_ | with_reducible refine PostV_open ?_ | with_reducible refine PostG_open ?_ | with_reducible refine PostQ_open ?_ | with_reducible refine ro_callV ?_ | with_reducible refine ro_callVX ?_ | refine CallV_pure (n1) ?_ ?_ | simp (disch := omega) only [w64, wu64, wu32, wu16, wu8, Int.tdiv_eq_ediv_of_nonneg, Int.tmod_eq_emod_of_nonneg] | (with_reducible refine SliceK_own rfl rfl ?_ ?_; (focus ((try simp only [row1_len, row2_len, row3_len, rowsS_len, reduceIte, Int.natCast_nonneg, Int.le_refl, List.length_append, List.length_map, Nat.sub_zero]) <;> ((repeat' (with_reducible refine And.intro ?_ ?_)) <;> first | exact trivial | assumption | (simp; done) | (simp only [List.length_map] at *; omega) | omega | (simp [D.cells, D.ok, D.one, D.pt, D.pt1]; done))))) | (refine GuardK_split (fun hc => ?_) (fun hc => ?_) <;> (try simp only [hc]) <;> (try simp at hc)) | (refine CondK_split (fun hc => ?_) (fun hc => ?_) <;> (try simp only [hc]) <;> (try simp at hc)) | (with_reducible refine And.intro ?_ ?_; (focus ((repeat' (with_reducible refine And.intro ?_ ?_)) <;> first | exact trivial | assumption | (simp; done) | (simp only [List.length_map] at *; omega) | omega | (simp [D.cells, D.ok, D.one, D.pt, D.pt1]; done)))) | (with_reducible intro x hx) | omega) <;> (try simp only [row1_len, row2_len, row3_len, rowsS_len, c1, c2, ro_nil, oo_def, om_def, ol_def, oa_def, on_def, og_def, gm_def, gl_def, ga_def, kc_def, kx_def, gk_def, kk_def, kb_def, pf_def, pt_def, ro_mov, ro_mkfn, ro_pick, ro_build, ro_slit, SlitK_t, SlitK_f, ro_chk, ro_bin, ro_eq, ro_un, ro_conv, ro_same, ro_b2s, ro_faddr, ro_fld, ro_idx, ro_ext, ro_len, ro_mx, ro_mn, ro_slice, SliceK_str, SliceK_list, ro_slice3, ro_load, LoadK_elt, LoadK_ptr, LoadO_some, LoadR_some, LoadR_map, ro_box, ro_alloc, ro_store, StoreK_ptr, StoreO_some, StoreR_some, ro_iaddr, IaddrK_list, IaddrK_own, IaddrR_some, IaddrR_map, ro_app, ro_appz, newsD_list, newsD_str, newsD_own, newsO_some, newsC_list, newsC_str, newsC_own, newsCO_some, AppN_some, AppZ_int, AppS_nil, AppS_own, AppO_acc, ro_cap, CapK_own, CapO, ro_ovl, OvlK_own, OvlO_some, ro_copy, CopyK_own, CopyO_some, ro_clear, ClearK_own, ClearO_some, ClearK_nil, ro_mks, MksK_int, winD_all, viewS_list, viewS_own', viewO_some, eqO_ptr, eqO_bool, eqO_func, eqO_row, eqO_list, eqO_own, eqOo_some, rx_nil, rx_cons, keepK_nil, keepK_cons, keepE_nil, keepE_cons, keepN_nil, keepN_cons, D.names, D.namesL, acc_real, acc_nl, acc_pure, acc_fz, acc_sz, acc_rows, acc_spare, ro_guard, GuardK_tt, GuardK_no, GuardK_ff, GuardK_tf, GuardK_ft, CondK_t, CondK_f, contP_some, lk_nil, lk_hit, lk_miss, Nat.reduceBEq, put_some, put_none, ev_t, ev_c, argEnv, reduceIte, Nat.reduceEqDiff, Nat.reduceAdd, Nat.reduceSub, Nat.reduceMul, Nat.reduceLT, Nat.reduceLeDiff, reduceCtorEq, binD, binInt, binStr, eqD, eqCell, eqCells, eqN, boolD, okD, aggD, unD, pickD, chkD, convD, sameD, strD, faddrD, fldD, idxD, extD, lenD, mxD, mnD, sliceD, slice3D, bndD, loadD, fillD, splice, D.cells, D.ok, D.one, D.pt, D.pt1, D.pt0, D.norm1, D.norm, cond_true, cond_false, true_and, and_true, and_self, Bool.true_and, Bool.and_true, Bool.false_and, Bool.and_false, Bool.not_true, Bool.not_false, Bool.true_or, Bool.false_or, Bool.or_true, Bool.or_false, List.getElem?_cons_zero, List.getElem?_cons_succ, List.getElem?_nil, List.length_cons, List.length_nil, List.length_map, List.length_append, List.length_set, List.length_take, List.length_drop, List.length_replicate, List.take_succ_cons, List.take_zero, List.take_nil, List.drop_succ_cons, List.drop_zero, List.drop_nil, List.cons_append, List.nil_append, List.append_nil, List.map_cons, List.map_nil, List.all_cons, List.all_nil, List.set_cons_zero, List.set_cons_succ, List.isEmpty_cons, List.isEmpty_nil, List.forall_mem_cons, List.not_mem_nil, List.forall_mem_nil, false_imp_iff, implies_true, ne_eq, not_false_eq_true, Option.map_some, Option.map_none, Nat.zero_add, Nat.add_zero, Nat.sub_self, Int.toNat_natCast, Int.reduceToNat, Int.reduceLT, Int.reduceLE, Int.reduceEq, Int.reduceBEq, beq_self_eq_true, Int.reduceNeg, decide_true, decide_false, IntKind.bits, Nat.min_eq_left, Int.reducePow, Nat.reducePow, Int.fdiv_eq_ediv_of_nonneg, Nat.lt_irrefl, Int.le_refl, Nat.le_refl, Int.natCast_nonneg, Nat.lt_add_one, Nat.zero_lt_succ, view, view2, view1, view0, mapO, capsD_fn, D.sc, D.sc1, D.sc2, pull, pull2, pull1, pull0, idx_hit, idx_miss, idx_nil, sucO_some, sucO_none, gate, pullσ, pullOb, Go.Vi.freeze, Go.Vi.freeze1, capt, capt.captL, reachL, reachO, isin, List.flatten_cons, List.flatten_nil, merge, mset, renOb, fr, D.ren, D.renL, List.getD_cons_zero, List.getD_cons_succ, List.nodup_cons, List.nodup_nil, List.mem_cons, or_false, false_or, resK_nil, resK_tmp, resK_cell, ResC_ptr, ResO_some, ResR_some, ResL_some, ofRes, List.reverse_nil, Option.some.injEq, D.bool.injEq, D.int.injEq, D.str.injEq, D.agg.injEq, D.tup.injEq, D.list.injEq, D.ptr.injEq, D.own.injEq, List.cons.injEq, BndE_fn]))
   skip
def lowI (l : List Int) (u : Int) : Nat := lt (l.map fun x => (x, 0)) u
theorem ascI {l : List Int} (h : risB l = true) : Asc (l.map fun x : Int => (x, (0 : Int))) := by
 refine asc_of ?_
 rw [List.pairwise_map]
 simpa [risB] using h
theorem lowI_le (l : List Int) (u : Int) : lowI l u ≤ l.length := by
 have := @lt_le (l.map fun x : Int => (x, (0 : Int))) u
 rwa [List.length_map] at this
theorem lowI_spec {l : List Int} (hr : risB l = true) (u : Int) (h : Nat) (d : Int) (hd : l[h]? = some d) : d < u ↔ h < lowI l u :=
 lt_split (ascI hr) u h (d, 0) (by simp [hd])
theorem isI_has {l : List Int} (hr : risB l = true) (u : Int) : isI l (lowI l u) u = l.contains u := by
 have h1 := isT_hit (ascI hr) u
 have h2 : isT (l.map fun x : Int => (x, (0 : Int))) (lowI l u) u = isI l (lowI l u) u := by
  unfold isT isI
  rw [List.getElem?_map]
  cases l[lowI l u]? <;> rfl
 have h3 : hit (l.map fun x : Int => (x, (0 : Int))) u = l.contains u := by
  rw [Bool.eq_iff_iff]
  unfold hit
  simp
 rw [← h2, ← h3]; exact h1
theorem bit1 (d w : Int) (h1 : 0 ≤ d) (h2 : d ≤ 127) (h3 : 0 ≤ w) (h4 : w < 7) : (bitAnd .i64 (d.fdiv (2 ^ w.toNat)) 1 == 1) = bitB d w := by
 have key : ∀ (a : Fin 128) (b : Fin 7), (bitAnd .i64 ((a.1 : Int).fdiv (2 ^ ((b.1 : Int)).toNat)) 1 == 1) = bitB a.1 b.1 := by decide +kernel
 have := key ⟨d.toNat, by omega⟩ ⟨w.toNat, by omega⟩
 dsimp only at this
 rw [show ((d.toNat : Nat) : Int) = d by omega, show ((w.toNat : Nat) : Int) = w by omega] at this
 exact this
abbrev Hr (sh : List Sf) (off : List Int) : List D := [L (row3 sh), L (row1 .i64 off)]
theorem on_p (sh : List Sf) (off : List Int) (s : Sf) (n : Int) (hl : off.length ≤ 60) (hr : risB off = true) (hs : 0 ≤ s.1 ∧ s.1 ≤ 127) (h1 : -1 ≤ n) (h2 : n ≤ 1099511627776) :
  PureD Try.prog 29 [.agg (Hr sh off), .agg [.int .i64 s.1, .int .i64 s.2.1, .int .i64 s.2.2], .int .i64 n] (.bool (onB off s n)) := by
 refine pureV Try.func29 low29 (by simp [c29]) ?_
 simp only [c29]
 have hb := bsI_p off n (lowI off n) (by omega) (lowI_le off n) (lowI_spec hr n)
 have hle := lowI_le off n
 rw [isI_has hr] at hb
 have hw := weekday_p n h1 h2
 have c5 := bit1 s.1 (n % 7) hs.1 hs.2 (by omega) (by omega)
 have c4 : min (n % 7).toNat 64 = (n % 7).toNat := by omega
 have w1 : 0 ≤ n % 7 := by omega
 unfold onB
 generalize lowI off n = k at hb hle
 generalize bitB s.1 (n % 7) = bb at c5 ⊢
 generalize n % 7 = w at hw c4 c5 w1
 cases hc : off.contains n
 ·rw [hc] at hb
  exact wk1 [] [] (an exTK4 (an c4 c5))
 ·rw [hc] at hb
  exact wk1 [] [] (an exTK4 (an c4 c5))
end Go.Proofs.Ytoljgjdloegnoaa

namespace Go.Proofs.Ytoljgjdloegnoaa
open Go Go.Vi
structure HoursOk (sh : List Sf) (off : List Int) : Prop where
 l1 : sh.length ≤ 10
 l2 : off.length ≤ 60
 ris : risB off = true
 days : ∀ n ∈ off, 0 ≤ n ∧ n < 109938
 ok : ∀ s ∈ sh, 1 ≤ s.1 ∧ s.1 ≤ 127 ∧ 0 ≤ s.2.1 ∧ s.2.1 < s.2.2 ∧ s.2.2 ≤ 1440
theorem hoursOk {sh : List Sf} {off : List Int} (h : hoursB sh off = true) : HoursOk sh off := by
 simp only [hoursB, shiftB, dayOffB, Bool.and_eq_true, decide_eq_true_eq, List.all_eq_true] at h
 obtain ⟨⟨h1, h2⟩, ⟨h3, h4⟩, h5⟩ := h
 exact ⟨h1, h2, h4, h3, h5⟩
def atB (off : List Int) (n m : Int) (s : Sf) : Bool := onB off s n && (decide (s.2.1 ≤ m) && decide (m < s.2.2))
theorem exTK5 : type_of% (an @row1_len (an @row2_len (an @row3_len @rowsS_len))) := (an @row1_len (an @row2_len (an @row3_len @rowsS_len)))
theorem works1_p (sh : List Sf) (off : List Int) (s : Sf) (n m : Int) (hl : off.length ≤ 60) (hr : risB off = true) (hs : 0 ≤ s.1 ∧ s.1 ≤ 127) (h1 : -1 ≤ n) (h2 : n ≤ 1099511627776) :
  PureD Try.prog 28 [.agg [.int .i64 s.1, .int .i64 s.2.1, .int .i64 s.2.2], .elt (Hr sh off) 0, .elt [.int .i64 n] 0, .elt [.int .i64 m] 0] (.bool (atB off n m s)) := by
 refine pureV Try.func28 low28 (by simp [c28]) ?_
 simp only [c28]
 have ho := on_p sh off s n hl hr hs h1 h2
 unfold atB
 generalize onB off s n = b at ho ⊢
 cases b
 ·repeat' ((first | refine Run_seq ?_ | refine Run_skip ?_ | refine Run_block ?_ | refine Run_blk ?_ | refine Run_exit rfl ?_ | refine Run_ret ?_ | refine Run_nil ?_ | refine Run_condK ?_ | refine Run_ops mixed ?_ | refine Run_opsX mixed ?_ | with_reducible refine PostV_open ?_ | with_reducible refine PostG_open ?_ | with_reducible refine PostQ_open ?_ | with_reducible refine ro_callV ?_ | with_reducible refine ro_callVX ?_ | refine CallV_pure (ho) ?_ ?_ | simp (disch := omega) only [w64, wu64, wu32, wu16, wu8, Int.tdiv_eq_ediv_of_nonneg, Int.tmod_eq_emod_of_nonneg] | (with_reducible refine SliceK_own rfl rfl ?_ ?_; (focus ((try simp only [row1_len, row2_len, row3_len, rowsS_len, reduceIte, Int.natCast_nonneg, Int.le_refl, List.length_append, List.length_map, Nat.sub_zero]) <;> ((repeat' (with_reducible refine And.intro ?_ ?_)) <;> first | exact trivial | assumption | (simp; done) | (simp only [List.length_map] at *; omega) | omega | (simp [D.cells, D.ok, D.one, D.pt, D.pt1]; done))))) | (refine GuardK_split (fun hc => ?_) (fun hc => ?_) <;> (try simp only [hc]) <;> (try simp at hc)) | (refine CondK_split (fun hc => ?_) (fun hc => ?_) <;> (try simp only [hc]) <;> (try simp at hc)) | (with_reducible refine And.intro ?_ ?_; (focus ((repeat' (with_reducible refine And.intro ?_ ?_)) <;> first | exact trivial | assumption | (simp; done) | (simp only [List.length_map] at *; omega) | omega | (simp [D.cells, D.ok, D.one, D.pt, D.pt1]; done)))) | (with_reducible intro x hx) | omega) <;> (try simp only [row1_len, row2_len, row3_len, rowsS_len, ro_nil, oo_def, om_def, ol_def, oa_def, on_def, og_def, gm_def, gl_def, ga_def, kc_def, kx_def, gk_def, kk_def, kb_def, pf_def, pt_def, ro_mov, ro_mkfn, ro_pick, ro_build, ro_slit, SlitK_t, SlitK_f, ro_chk, ro_bin, ro_eq, ro_un, ro_conv, ro_same, ro_b2s, ro_faddr, ro_fld, ro_idx, ro_ext, ro_len, ro_mx, ro_mn, ro_slice, SliceK_str, SliceK_list, ro_slice3, ro_load, LoadK_elt, LoadK_ptr, LoadO_some, LoadR_some, LoadR_map, ro_box, ro_alloc, ro_store, StoreK_ptr, StoreO_some, StoreR_some, ro_iaddr, IaddrK_list, IaddrK_own, IaddrR_some, IaddrR_map, ro_app, ro_appz, newsD_list, newsD_str, newsD_own, newsO_some, newsC_list, newsC_str, newsC_own, newsCO_some, AppN_some, AppZ_int, AppS_nil, AppS_own, AppO_acc, ro_cap, CapK_own, CapO, ro_ovl, OvlK_own, OvlO_some, ro_copy, CopyK_own, CopyO_some, ro_clear, ClearK_own, ClearO_some, ClearK_nil, ro_mks, MksK_int, winD_all, viewS_list, viewS_own', viewO_some, eqO_ptr, eqO_bool, eqO_func, eqO_row, eqO_list, eqO_own, eqOo_some, rx_nil, rx_cons, keepK_nil, keepK_cons, keepE_nil, keepE_cons, keepN_nil, keepN_cons, D.names, D.namesL, acc_real, acc_nl, acc_pure, acc_fz, acc_sz, acc_rows, acc_spare, ro_guard, GuardK_tt, GuardK_no, GuardK_ff, GuardK_tf, GuardK_ft, CondK_t, CondK_f, contP_some, lk_nil, lk_hit, lk_miss, Nat.reduceBEq, put_some, put_none, ev_t, ev_c, argEnv, reduceIte, Nat.reduceEqDiff, Nat.reduceAdd, Nat.reduceSub, Nat.reduceMul, Nat.reduceLT, Nat.reduceLeDiff, reduceCtorEq, binD, binInt, binStr, eqD, eqCell, eqCells, eqN, boolD, okD, aggD, unD, pickD, chkD, convD, sameD, strD, faddrD, fldD, idxD, extD, lenD, mxD, mnD, sliceD, slice3D, bndD, loadD, fillD, splice, D.cells, D.ok, D.one, D.pt, D.pt1, D.pt0, D.norm1, D.norm, cond_true, cond_false, true_and, and_true, and_self, Bool.true_and, Bool.and_true, Bool.false_and, Bool.and_false, Bool.not_true, Bool.not_false, Bool.true_or, Bool.false_or, Bool.or_true, Bool.or_false, List.getElem?_cons_zero, List.getElem?_cons_succ, List.getElem?_nil, List.length_cons, List.length_nil, List.length_map, List.length_append, List.length_set, List.length_take, List.length_drop, List.length_replicate, List.take_succ_cons, List.take_zero, List.take_nil, List.drop_succ_cons, List.drop_zero, List.drop_nil, List.cons_append, List.nil_append, List.append_nil, List.map_cons, List.map_nil, List.all_cons, List.all_nil, List.set_cons_zero, List.set_cons_succ, List.isEmpty_cons, List.isEmpty_nil, List.forall_mem_cons, List.not_mem_nil, List.forall_mem_nil, false_imp_iff, implies_true, ne_eq, not_false_eq_true, Option.map_some, Option.map_none, Nat.zero_add, Nat.add_zero, Nat.sub_self, Int.toNat_natCast, Int.reduceToNat, Int.reduceLT, Int.reduceLE, Int.reduceEq, Int.reduceBEq, beq_self_eq_true, Int.reduceNeg, decide_true, decide_false, IntKind.bits, Nat.min_eq_left, Int.reducePow, Nat.reducePow, Int.fdiv_eq_ediv_of_nonneg, Nat.lt_irrefl, Int.le_refl, Nat.le_refl, Int.natCast_nonneg, Nat.lt_add_one, Nat.zero_lt_succ, view, view2, view1, view0, mapO, capsD_fn, D.sc, D.sc1, D.sc2, pull, pull2, pull1, pull0, idx_hit, idx_miss, idx_nil, sucO_some, sucO_none, gate, pullσ, pullOb, Go.Vi.freeze, Go.Vi.freeze1, capt, capt.captL, reachL, reachO, isin, List.flatten_cons, List.flatten_nil, merge, mset, renOb, fr, D.ren, D.renL, List.getD_cons_zero, List.getD_cons_succ, List.nodup_cons, List.nodup_nil, List.mem_cons, or_false, false_or, resK_nil, resK_tmp, resK_cell, ResC_ptr, ResO_some, ResR_some, ResL_some, ofRes, List.reverse_nil, Option.some.injEq, D.bool.injEq, D.int.injEq, D.str.injEq, D.agg.injEq, D.tup.injEq, D.list.injEq, D.ptr.injEq, D.own.injEq, List.cons.injEq, BndE_fn]))
  skip
 ·exact wk1 [] [] exTK5
def idxG (f : Sf → Bool) : List Sf → Nat → Int
 | [], _ => -1
 | s :: l, n => if f s = true then n else idxG f l (n + 1)
theorem idxG_pos (f : Sf → Bool) : ∀ (l : List Sf) (n : Nat), decide (idxG f l n ≥ 0) = l.any f
 | [], n => by simp [idxG]
 | s :: l, n => by
  by_cases h : f s = true
  ·simp [idxG, h]
  ·simp [idxG, h]; simpa using idxG_pos f l (n + 1)
abbrev clW (sh : List Sf) (off : List Int) (n m : Int) : D := .fn 28 [.elt (Hr sh off) 0, .elt [.int .i64 n] 0, .elt [.int .i64 m] 0]
theorem ixW_p (sh : List Sf) (off : List Int) (n m : Int) (ho : HoursOk sh off) (h1 : -1 ≤ n) (h2 : n ≤ 1099511627776) :
  PureD Try.prog 32 [L (row3 sh), clW sh off n m] (.int .i64 (idxG (atB off n m) sh 0)) := by
 refine pureV Try.func32 low32 (by simp [c32]) ?_
 simp only [c32]
 have hl := ho.l1
 refine wk [] [] exTK5 ?_
 refine Run_loop (ι := {i : Nat // i ≤ sh.length ∧ idxG (atB off n m) sh 0 = idxG (atB off n m) (sh.drop i) i}) (fun i => ([(0, L (row3 sh)), (1, clW sh off n m), (7, .int .i64 sh.length), (8, .int .i64 i.1)], [])) (fun i => sh.length - i.1) ⟨0, by simp⟩ ?_ ?_
 ·exact gcw [] exTK5
 rintro ⟨i, hi, hx⟩ hk
 dsimp only at hk ⊢
 by_cases hlt : i < sh.length
 ·have c1 : ((i : Int) < (sh.length : Int)) = True := by simp; omega
  obtain ⟨p, hp⟩ : ∃ p, sh[i]? = some p := ⟨_, List.getElem?_eq_getElem hlt⟩
  have hr := row3_get hp
  have hdr : sh.drop i = p :: sh.drop (i + 1) := by
   rw [List.getElem?_eq_getElem hlt] at hp; cases hp; exact List.drop_eq_getElem_cons hlt
  have hpo := ho.ok p (List.mem_of_getElem? hp)
  have lv := works1_p sh off p n m ho.l2 ho.ris (by omega) h1 h2
  by_cases hc : atB off n m p = true
  ·rw [hc] at lv
   have e : idxG (atB off n m) sh 0 = i := by rw [hx, hdr]; simp [idxG, hc]
   rw [e]
   exact wk0 [] [] (an exTK5 (an c1 hr))
  ·have hc' : atB off n m p = false := by simpa using hc
   rw [hc'] at lv
   have e : idxG (atB off n m) sh 0 = idxG (atB off n m) (sh.drop (i + 1)) (i + 1) := by rw [hx, hdr]; simp [idxG, hc']
   refine wk [] [] (an exTK5 (an c1 hr)) ?_
   refine hk ⟨i + 1, by omega, e⟩ _ _ (by dsimp only; omega) ?_
   dsimp only
   exact gcw [] exTK5
 ·have c1 : ((i : Int) < (sh.length : Int)) = False := by simp; omega
  have e : idxG (atB off n m) sh 0 = -1 := by rw [hx, List.drop_eq_nil_of_le (by omega)]; rfl
  rw [e]
  exact wk0 [] [] (an exTK5 c1)
theorem conW_p (sh : List Sf) (off : List Int) (n m : Int) (ho : HoursOk sh off) (h1 : -1 ≤ n) (h2 : n ≤ 1099511627776) :
  PureD Try.prog 18 [L (row3 sh), clW sh off n m] (.bool (sh.any (atB off n m))) := by
 refine pureV Try.func18 low18 (by simp [c18]) ?_
 simp only [c18]
 have ix := ixW_p sh off n m ho h1 h2
 rw [← idxG_pos (atB off n m) sh 0]
 generalize idxG (atB off n m) sh 0 = k at ix ⊢
 exact wk0 [] [] exTK5
theorem locB_at (sh : List Sf) (off : List Int) (l : Int) : locB sh off l = sh.any (atB off (l / 1440) (l - l / 1440 * 1440)) := by
 have e : l - l / 1440 * 1440 = l % 1440 := by omega
 rw [e]; rfl
def workZ (b : Int) (ts : List Tn) (sh : List Sf) (off : List Int) (u : Int) : Bool := hoursB sh off && (zoneB b ts && workB b ts sh off u)
theorem works_p (b : Int) (ts : List Tn) (sh : List Sf) (off : List Int) (u : Int) (f1 : ts.length ≤ 140737488351232) (f2 : sh.length ≤ 140737488351232) (f3 : off.length ≤ 140737488351232) :
  PureD Try.prog 16 [Zn b ts, .agg (Hr sh off), .int .i64 u] (.bool (workZ b ts sh off u)) := by
 refine pureV Try.func16 low16 (by simp [c16]) ?_
 simp only [c16]
 unfold workZ workB
 by_cases h1 : u < 0
 ·have c1 : (u < 0) = True := by simpa using h1
  have e : (decide (0 ≤ u ∧ u < 158310720)) = false := by simp; omega
  rw [e, Bool.false_and, Bool.and_false, Bool.and_false]
  exact wk0 [] [] (an exTK5 c1)
 have c1 : (u < 0) = False := by simpa using h1
 by_cases h2 : u ≥ 158310720
 ·have c2 : (u ≥ 158310720) = True := by simpa using h2
  have e : (decide (0 ≤ u ∧ u < 158310720)) = false := by simp; omega
  rw [e, Bool.false_and, Bool.and_false, Bool.and_false]
  exact wk0 [] [] (an exTK5 (an c1 c2))
 have c2 : (u ≥ 158310720) = False := by simpa using h2
 have e : (decide (0 ≤ u ∧ u < 158310720)) = true := by simp; omega
 rw [e, Bool.true_and]
 have hm := hoursMay_p sh off f2 f3
 cases hh : hoursB sh off
 ·rw [hh] at hm
  rw [Bool.false_and]
  exact wk0 [] [] (an exTK5 (an c1 c2))
 have zm := zoneMay_p b ts f1
 rw [hh] at hm
 rw [Bool.true_and]
 cases hz : zoneB b ts
 ·rw [hz] at zm
  rw [Bool.false_and]
  exact wk0 [] [] (an exTK5 (an c1 c2))
 rw [hz] at zm
 rw [Bool.true_and]
 have ho := hoursOk hh
 have zo := zoneOk hz
 have hof := offset_p u hz
 have hab := addO_b zo (bh ts u)
 rw [locB_at]
 generalize addO b ts (bh ts u) = o at hof hab ⊢
 have hd := day_p (u + o) (by omega) (by omega)
 have hc := conW_p sh off ((u + o) / 1440) (u + o - (u + o) / 1440 * 1440) ho (by omega) (by omega)
 generalize hn : (u + o) / 1440 = n at hd hc ⊢
 generalize sh.any (atB off n (u + o - n * 1440)) = r at hc ⊢
 have n1 : -1 ≤ n := by omega
 have n2 : n ≤ 200000 := by omega
 repeat' ((first | refine Run_seq ?_ | refine Run_skip ?_ | refine Run_block ?_ | refine Run_blk ?_ | refine Run_exit rfl ?_ | refine Run_ret ?_ | refine Run_nil ?_ | refine Run_condK ?_ | refine Run_ops mixed ?_ | refine Run_opsX mixed ?_ | with_reducible refine PostV_open ?_ | with_reducible refine PostG_open ?_ | with_reducible refine PostQ_open ?_ | with_reducible refine ro_callV ?_ | with_reducible refine ro_callVX ?_ | refine CallV_pure (hm) ?_ ?_ | refine CallV_pure (zm) ?_ ?_ | refine CallV_pure (hof) ?_ ?_ | refine CallV_pure (hd) ?_ ?_ | refine CallV_pure (hc) ?_ ?_ | simp (disch := omega) only [w64, wu64, wu32, wu16, wu8, Int.tdiv_eq_ediv_of_nonneg, Int.tmod_eq_emod_of_nonneg] | (with_reducible refine SliceK_own rfl rfl ?_ ?_; (focus ((try simp only [row1_len, row2_len, row3_len, rowsS_len, reduceIte, Int.natCast_nonneg, Int.le_refl, List.length_append, List.length_map, Nat.sub_zero]) <;> ((repeat' (with_reducible refine And.intro ?_ ?_)) <;> first | exact trivial | assumption | (simp; done) | (simp only [List.length_map] at *; omega) | omega | (simp [D.cells, D.ok, D.one, D.pt, D.pt1]; done))))) | (refine GuardK_split (fun hc => ?_) (fun hc => ?_) <;> (try simp only [hc]) <;> (try simp at hc)) | (refine CondK_split (fun hc => ?_) (fun hc => ?_) <;> (try simp only [hc]) <;> (try simp at hc)) | (with_reducible refine And.intro ?_ ?_; (focus ((repeat' (with_reducible refine And.intro ?_ ?_)) <;> first | exact trivial | assumption | (simp; done) | (simp only [List.length_map] at *; omega) | omega | (simp [D.cells, D.ok, D.one, D.pt, D.pt1]; done)))) | (with_reducible intro x hx) | omega) <;> (try simp only [row1_len, row2_len, row3_len, rowsS_len, c1, c2, ro_nil, oo_def, om_def, ol_def, oa_def, on_def, og_def, gm_def, gl_def, ga_def, kc_def, kx_def, gk_def, kk_def, kb_def, pf_def, pt_def, ro_mov, ro_mkfn, ro_pick, ro_build, ro_slit, SlitK_t, SlitK_f, ro_chk, ro_bin, ro_eq, ro_un, ro_conv, ro_same, ro_b2s, ro_faddr, ro_fld, ro_idx, ro_ext, ro_len, ro_mx, ro_mn, ro_slice, SliceK_str, SliceK_list, ro_slice3, ro_load, LoadK_elt, LoadK_ptr, LoadO_some, LoadR_some, LoadR_map, ro_box, ro_alloc, ro_store, StoreK_ptr, StoreO_some, StoreR_some, ro_iaddr, IaddrK_list, IaddrK_own, IaddrR_some, IaddrR_map, ro_app, ro_appz, newsD_list, newsD_str, newsD_own, newsO_some, newsC_list, newsC_str, newsC_own, newsCO_some, AppN_some, AppZ_int, AppS_nil, AppS_own, AppO_acc, ro_cap, CapK_own, CapO, ro_ovl, OvlK_own, OvlO_some, ro_copy, CopyK_own, CopyO_some, ro_clear, ClearK_own, ClearO_some, ClearK_nil, ro_mks, MksK_int, winD_all, viewS_list, viewS_own', viewO_some, eqO_ptr, eqO_bool, eqO_func, eqO_row, eqO_list, eqO_own, eqOo_some, rx_nil, rx_cons, keepK_nil, keepK_cons, keepE_nil, keepE_cons, keepN_nil, keepN_cons, D.names, D.namesL, acc_real, acc_nl, acc_pure, acc_fz, acc_sz, acc_rows, acc_spare, ro_guard, GuardK_tt, GuardK_no, GuardK_ff, GuardK_tf, GuardK_ft, CondK_t, CondK_f, contP_some, lk_nil, lk_hit, lk_miss, Nat.reduceBEq, put_some, put_none, ev_t, ev_c, argEnv, reduceIte, Nat.reduceEqDiff, Nat.reduceAdd, Nat.reduceSub, Nat.reduceMul, Nat.reduceLT, Nat.reduceLeDiff, reduceCtorEq, binD, binInt, binStr, eqD, eqCell, eqCells, eqN, boolD, okD, aggD, unD, pickD, chkD, convD, sameD, strD, faddrD, fldD, idxD, extD, lenD, mxD, mnD, sliceD, slice3D, bndD, loadD, fillD, splice, D.cells, D.ok, D.one, D.pt, D.pt1, D.pt0, D.norm1, D.norm, cond_true, cond_false, true_and, and_true, and_self, Bool.true_and, Bool.and_true, Bool.false_and, Bool.and_false, Bool.not_true, Bool.not_false, Bool.true_or, Bool.false_or, Bool.or_true, Bool.or_false, List.getElem?_cons_zero, List.getElem?_cons_succ, List.getElem?_nil, List.length_cons, List.length_nil, List.length_map, List.length_append, List.length_set, List.length_take, List.length_drop, List.length_replicate, List.take_succ_cons, List.take_zero, List.take_nil, List.drop_succ_cons, List.drop_zero, List.drop_nil, List.cons_append, List.nil_append, List.append_nil, List.map_cons, List.map_nil, List.all_cons, List.all_nil, List.set_cons_zero, List.set_cons_succ, List.isEmpty_cons, List.isEmpty_nil, List.forall_mem_cons, List.not_mem_nil, List.forall_mem_nil, false_imp_iff, implies_true, ne_eq, not_false_eq_true, Option.map_some, Option.map_none, Nat.zero_add, Nat.add_zero, Nat.sub_self, Int.toNat_natCast, Int.reduceToNat, Int.reduceLT, Int.reduceLE, Int.reduceEq, Int.reduceBEq, beq_self_eq_true, Int.reduceNeg, decide_true, decide_false, IntKind.bits, Nat.min_eq_left, Int.reducePow, Nat.reducePow, Int.fdiv_eq_ediv_of_nonneg, Nat.lt_irrefl, Int.le_refl, Nat.le_refl, Int.natCast_nonneg, Nat.lt_add_one, Nat.zero_lt_succ, view, view2, view1, view0, mapO, capsD_fn, D.sc, D.sc1, D.sc2, pull, pull2, pull1, pull0, idx_hit, idx_miss, idx_nil, sucO_some, sucO_none, gate, pullσ, pullOb, Go.Vi.freeze, Go.Vi.freeze1, capt, capt.captL, reachL, reachO, isin, List.flatten_cons, List.flatten_nil, merge, mset, renOb, fr, D.ren, D.renL, List.getD_cons_zero, List.getD_cons_succ, List.nodup_cons, List.nodup_nil, List.mem_cons, or_false, false_or, resK_nil, resK_tmp, resK_cell, ResC_ptr, ResO_some, ResR_some, ResL_some, ofRes, List.reverse_nil, Option.some.injEq, D.bool.injEq, D.int.injEq, D.str.injEq, D.agg.injEq, D.tup.injEq, D.list.injEq, D.ptr.injEq, D.own.injEq, List.cons.injEq, BndE_fn]))
 skip
end Go.Proofs.Ytoljgjdloegnoaa

namespace Go.Proofs.Ytoljgjdloegnoaa
open Go Go.Vi
theorem snocK (F : List Sp) (x y : Int) : rowsS F ++ [[D.int .i64 x, D.int .i64 y]] = rowsS (F ++ [(x, y)]) := by simp [rowsS]
theorem mxE (a b : Int) : (if b > a then b else a) = max a b := by split <;> omega
theorem mnE (a b : Int) : (if b < a then b else a) = min a b := by split <;> omega
theorem exTK7 : type_of% (an @row1_len (an @row2_len (an @row3_len @rowsS_len))) := (an @row1_len (an @row2_len (an @row3_len @rowsS_len)))
set_option maxHeartbeats 4000000 in
theorem part_p (sh : List Sf) (off : List Int) (s : Sp) (o : Int) (out : List Sp) (ho : HoursOk sh off) (hs : s.1 < s.2) (s0 : 0 ≤ s.1) (s1 : s.2 ≤ 158310720) (o1 : -900 ≤ o) (o2 : o ≤ 900) (hl : out.length ≤ 10000000000) :
  CallG Try.prog 24 [.own 0 0 out.length out.length 2 none, .agg (Hr sh off), .agg [.int .i64 s.1, .int .i64 s.2], .int .i64 o] [acc true 2 true (rowsS out)]
   (.own 0 0 (out ++ partL sh off s o ((s.1 + o) / 1440) (daysN s o)).length (out ++ partL sh off s o ((s.1 + o) / 1440) (daysN s o)).length 2 none) [acc true 2 true (rowsS (out ++ partL sh off s o ((s.1 + o) / 1440) (daysN s o)))] := by
 refine callG Try.func24 low24 (by simp [c24]) ?_
 simp only [c24]
 have d1 := day_p (s.1 + o) (by omega) (by omega)
 have d2 := day_p (s.2 - 1 + o) (by omega) (by omega)
 have e2 : (s.2 - 1 + o) / 1440 = (s.1 + o) / 1440 + (daysN s o : Int) - 1 := by unfold daysN; omega
 have dl := daysN_le s o hs
 have hsl := ho.l1
 rw [e2] at d2
 have b1 : -1 ≤ (s.1 + o) / 1440 := by omega
 have b2 : (s.1 + o) / 1440 + (daysN s o : Int) ≤ 110000 := by unfold daysN; omega
 generalize (s.1 + o) / 1440 = n0 at d1 d2 b1 b2 ⊢
 generalize daysN s o = N at d2 dl b2 ⊢
 have hN : N ≤ 200000 := by omega
 refine wk [] [] exTK7 ?_
 refine Run_loop (ι := {i : Nat // i ≤ N}) (fun i => ([(0, .own 0 0 (out ++ partL sh off s o n0 i.1).length (out ++ partL sh off s o n0 i.1).length 2 none), (3, .int .i64 o), (5, .ptr 1 0 0 1), (6, .ptr 2 0 0 1), (9, .int .i64 (n0 + i.1))], [acc true 2 true (rowsS (out ++ partL sh off s o n0 i.1)), ⟨true, false, true, false, 2, [Hr sh off], some 0⟩, ⟨true, false, true, false, 2, [[.int .i64 s.1, .int .i64 s.2]], some 0⟩])) (fun i => N - i.1) ⟨0, by omega⟩ ?_ ?_
 ·have e : out ++ partL sh off s o n0 0 = out := by simp [partL]
  have e' : n0 + ((0 : Nat) : Int) = n0 := by omega
  dsimp only
  rw [e, e']
  exact gcw [0, 1, 2] exTK7
 rintro ⟨i, hi⟩ hk
 dsimp only at hk ⊢
 have hpl := partL_len sh off s o n0 i
 have hpl2 : i * sh.length ≤ 2000000 := Nat.le_trans (Nat.mul_le_mul_left i hsl) (by omega)
 by_cases hlt : i < N
 ·have c1 : (n0 + (i : Int) ≤ n0 + (N : Int) - 1) = True := by simp; omega
  have hsu := partL_succ sh off s o n0 i
  have hOl : (out ++ partL sh off s o n0 i).length ≤ 10010000000 := by rw [List.length_append]; omega
  have hsu' : out ++ partL sh off s o n0 (i + 1) = (out ++ partL sh off s o n0 i) ++ partN sh off s o (n0 + i) := by rw [hsu, List.append_assoc]
  generalize out ++ partL sh off s o n0 i = O at hOl hsu' ⊢
  have c9 : n0 + (i : Int) + 1 = n0 + ((i + 1 : Nat) : Int) := by omega
  have b3 : -1 ≤ n0 + (i : Int) := by omega
  have b4 : n0 + (i : Int) ≤ 200000 := by omega
  refine wk [] [] (an exTK7 c1) ?_
  refine Run_loop (ι := {j : Nat // j ≤ sh.length}) (fun j => ([(0, .own 0 0 (O ++ partN (sh.take j.1) off s o (n0 + i)).length (O ++ partN (sh.take j.1) off s o (n0 + i)).length 2 none), (3, .int .i64 o), (5, .ptr 1 0 0 1), (6, .ptr 2 0 0 1), (9, .int .i64 (n0 + i)), (10, .int .i64 ((n0 + i) * 1440 - o)), (34, L (row3 sh)), (35, .int .i64 sh.length), (36, .int .i64 j.1)], [acc true 2 true (rowsS (O ++ partN (sh.take j.1) off s o (n0 + i))), ⟨true, false, true, false, 2, [Hr sh off], some 0⟩, ⟨true, false, true, false, 2, [[.int .i64 s.1, .int .i64 s.2]], some 0⟩])) (fun j => sh.length - j.1) ⟨0, by omega⟩ ?_ ?_
  ·have e : O ++ partN (sh.take 0) off s o (n0 + i) = O := by simp [partN]
   dsimp only
   rw [e]
   exact gcw [0, 1, 2] exTK7
  rintro ⟨j, hj⟩ hk'
  dsimp only at hk' ⊢
  by_cases hjt : j < sh.length
  ·have c2 : ((j : Int) < (sh.length : Int)) = True := by simp; omega
   obtain ⟨x, hx⟩ : ∃ x, sh[j]? = some x := ⟨_, List.getElem?_eq_getElem hjt⟩
   have hr := row3_get hx
   have hxo := ho.ok x (List.mem_of_getElem? hx)
   have on := on_p sh off x (n0 + i) ho.l2 ho.ris (by omega) b3 (by omega)
   have htk := partN_take off s o (n0 + i) hx
   have hnl := partN_len (sh.take j) off s o (n0 + i)
   rw [List.length_take] at hnl
   have htk' : O ++ partN (sh.take (j + 1)) off s o (n0 + i) = (O ++ partN (sh.take j) off s o (n0 + i)) ++ partX off s o (n0 + i) x := by rw [htk, List.append_assoc]
   have hQl : (O ++ partN (sh.take j) off s o (n0 + i)).length ≤ 10020000000 := by rw [List.length_append]; omega
   generalize O ++ partN (sh.take j) off s o (n0 + i) = Q at hQl htk' ⊢
   unfold partX at htk'
   cases hon : onB off x (n0 + i)
   ·rw [hon] at on htk'
    simp only [Bool.false_eq_true, if_false, List.append_nil] at htk'
    refine wk [] [] (an exTK7 (an c2 hr)) ?_
    refine hk' ⟨j + 1, by omega⟩ _ _ (by dsimp only; omega) ?_
    dsimp only
    rw [htk']
    exact gcw [0, 1, 2] exTK7
   ·rw [hon] at on htk'
    simp only [if_true] at htk'
    have mE := mxE
    have nE := mnE
    by_cases hp : max ((n0 + i) * 1440 - o + x.2.1) s.1 < min ((n0 + i) * 1440 - o + x.2.2) s.2
    ·have c3 : (max ((n0 + i) * 1440 - o + x.2.1) s.1 < min ((n0 + i) * 1440 - o + x.2.2) s.2) = True := by simpa using hp
     rw [if_pos hp] at htk'
     have hu := snocK Q (max ((n0 + i) * 1440 - o + x.2.1) s.1) (min ((n0 + i) * 1440 - o + x.2.2) s.2)
     refine wk [] [] (an exTK7 (an c2 (an c3 (an hr (an mE (an nE hu)))))) ?_
     refine hk' ⟨j + 1, by omega⟩ _ _ (by dsimp only; omega) ?_
     dsimp only
     rw [htk']
     simp only [List.length_append, List.length_cons, List.length_nil]
     exact gcw [0, 1, 2] exTK7
    ·have c3 : (max ((n0 + i) * 1440 - o + x.2.1) s.1 < min ((n0 + i) * 1440 - o + x.2.2) s.2) = False := by simpa using hp
     rw [if_neg hp, List.append_nil] at htk'
     refine wk [] [] (an exTK7 (an c2 (an c3 (an hr (an mE nE))))) ?_
     refine hk' ⟨j + 1, by omega⟩ _ _ (by dsimp only; omega) ?_
     dsimp only
     rw [htk']
     exact gcw [0, 1, 2] exTK7
  ·have c2 : ((j : Int) < (sh.length : Int)) = False := by simp; omega
   obtain rfl : j = sh.length := by omega
   rw [List.take_length]
   refine wk [] [] (an exTK7 c2) ?_
   refine hk ⟨i + 1, by omega⟩ _ _ (by dsimp only; omega) ?_
   dsimp only
   rw [hsu', ← c9]
   exact gcw [0, 1, 2] exTK7
 ·have c1 : (n0 + (i : Int) ≤ n0 + (N : Int) - 1) = False := by simp; omega
  obtain rfl : i = N := by omega
  refine wk [] [] (an exTK7 c1) ?_
  exact rtw [0] exTK7
end Go.Proofs.Ytoljgjdloegnoaa
