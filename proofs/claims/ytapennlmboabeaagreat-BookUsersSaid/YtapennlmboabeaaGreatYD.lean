import Derived.Test.YtapennlmboabeaaGreatYC
import Derived.Test.YtapennlmboabeaaGreatVi33
set_option linter.unusedVariables false
set_option linter.unusedSimpArgs false
set_option linter.unnecessarySimpa false
namespace Go.Proofs.YtapennlmboabeaaGreat
open Go Go.Vi
def wideB (n : Int) : Bool := decide (n < -900 ∨ 900 < n)
theorem exYGS1 : type_of% (an @row1_len (an @row2_len (an @row3_len (an @rowsE_len (an @rowsU_len (an @rowsP_len @rowsD_len)))))) := (an @row1_len (an @row2_len (an @row3_len (an @rowsE_len (an @rowsU_len (an @rowsP_len @rowsD_len))))))
theorem wide_p (n : Int) : PureD Tryz.prog 66 [.int .i64 n] (.bool (wideB n)) := by
 refine pureV Tryz.func66 low66 (by simp [c66]) ?_
 simp only [c66]
 exact wk1 [] [] (an exYGS1 @wideB.eq_1)
def turnB (t : Int × Int) : Bool := !wideB t.2 && decide (0 ≤ t.1 ∧ t.1 ≤ 158310720)
def farT (a b : Int × Int) : Prop := a.1 + 2880 ≤ b.1
instance (a b : Int × Int) : Decidable (farT a b) := inferInstanceAs (Decidable (_ ≤ _))
theorem farT_trans (a b c : Int × Int) (h : farT a b) (h' : farT b c) : farT a c := by unfold farT at *; omega
def zoneB (base : Int) (l : List (Int × Int)) : Bool := (!wideB base && decide (l.length ≤ 700)) && (l.all turnB && decide (l.Pairwise farT))
set_option maxHeartbeats 4000000 in
theorem zoneMay_p (base : Int) (l : List (Int × Int)) (hl : l.length ≤ 140737488351232) : PureD Tryz.prog 35 [.agg [.int .i64 base, L (row2 .i64 .i64 l)]] (.bool (zoneB base l)) := by
 refine pureV Tryz.func35 low35 (by simp [c35]) ?_
 simp only [c35]
 have wb := wide_p base
 by_cases hb : wideB base = true
 ·rw [hb] at wb
  have e : zoneB base l = false := by simp [zoneB, hb]
  rw [e]
  exact wk0 [] [] exYGS1
 have hb' : wideB base = false := by simpa using hb
 rw [hb'] at wb
 by_cases hbig : 700 < l.length
 ·have c0 : ((l.length : Int) > 700) = True := by simp; omega
  have e : zoneB base l = false := by
   have : ¬ l.length ≤ 700 := by omega
   simp [zoneB, this]
  rw [e]
  exact wk0 [] [] (an exYGS1 c0)
 have c0 : ((l.length : Int) > 700) = False := by simp; omega
 have e0 : zoneB base l = (l.all turnB && decide (l.Pairwise farT)) := by
  have : l.length ≤ 700 := by omega
  simp [zoneB, hb', this]
 rw [e0]
 refine wk [] [] (an exYGS1 c0) ?_
 refine Run_loop (ι := {i : Nat // i ≤ l.length ∧ (l.take i).all turnB = true ∧ (l.take i).Pairwise farT}) (fun i => ([(1, .ptr 0 0 0 1), (15, L (row2 .i64 .i64 l)), (16, .int .i64 l.length), (17, .int .i64 i.1)], [⟨true, false, true, false, 2, [[.int .i64 base, L (row2 .i64 .i64 l)]], some 0⟩])) (fun i => l.length - i.1) ⟨0, by simp⟩ ?_ ?_
 ·exact gcw [0] exYGS1
 rintro ⟨i, hi, ha, hp⟩ hk
 dsimp only at hk ⊢
 by_cases hlt : i < l.length
 ·have c2 : ((i : Int) < (l.length : Int)) = True := by simp; omega
  obtain ⟨x, hx⟩ : ∃ x, l[i]? = some x := ⟨_, List.getElem?_eq_getElem hlt⟩
  have rx := row2_get (k := .i64) (m := .i64) hx
  have wx := wide_p x.2
  by_cases hs : turnB x = true
  ·have hs' := hs
   simp only [turnB, Bool.and_eq_true, Bool.not_eq_true', decide_eq_true_eq] at hs'
   obtain ⟨n1, n2, n3⟩ := hs'
   rw [n1] at wx
   have d1 : (x.1 < 0) = False := by simp; omega
   have d2 : (x.1 > 158310720) = False := by simp; omega
   cases i with
   | zero =>
    refine wk [] [] (an exYGS1 (an c2 (an rx (an d1 d2)))) ?_
    refine hk ⟨1, by omega, all_step ha hx hs, by rw [List.take_add_one, hx]; simp⟩ _ _ (by dsimp only; omega) ?_
    dsimp only
    exact gcw [0] exYGS1
   | succ i =>
    obtain ⟨y, hy⟩ : ∃ y, l[i]? = some y := ⟨_, List.getElem?_eq_getElem (by omega)⟩
    have ry := row2_get (k := .i64) (m := .i64) hy
    have hty : turnB y = true := by
     have hm : y ∈ l.take (i + 1) := List.mem_of_getElem? (i := i) (by rw [List.getElem?_take, if_pos (by omega)]; exact hy)
     exact List.all_eq_true.1 ha y hm
    simp only [turnB, Bool.and_eq_true, Bool.not_eq_true', decide_eq_true_eq] at hty
    obtain ⟨_, m2, m3⟩ := hty
    have c7 : (((i + 1 : Nat) : Int) > 0) = True := by rw [eq_iff_iff]; exact ⟨fun _ => trivial, fun _ => by omega⟩
    have c8 : (((i + 1 : Nat) : Int) - 1) = (i : Int) := by omega
    by_cases hyx : farT y x
    ·have h9 := hyx
     unfold farT at h9
     have c9 : (x.1 < y.1) = False := by simp; omega
     have c10 : (x.1 - y.1 < 2880) = False := by simp; omega
     refine wk [] [] (an exYGS1 (an c2 (an c7 (an c8 (an c9 (an c10 (an d1 (an d2 (an rx ry))))))))) ?_
     refine hk ⟨i + 1 + 1, by omega, all_step ha hx hs, pw_step farT_trans hp hy hx hyx⟩ _ _ (by dsimp only; omega) ?_
     dsimp only
     exact gcw [0] exYGS1
    ·have e : (l.all turnB && decide (l.Pairwise farT)) = false := by
      have : decide (l.Pairwise farT) = false := by simpa using pw_no hy hx hyx
      rw [this, Bool.and_false]
     rw [e]
     unfold farT at hyx
     by_cases h9 : x.1 < y.1
     ·have c9 : (x.1 < y.1) = True := by simpa using h9
      exact wk0 [] [] (an exYGS1 (an c2 (an c7 (an c8 (an c9 (an d1 (an d2 (an rx ry))))))))
     ·have c9 : (x.1 < y.1) = False := by simpa using h9
      have c10 : (x.1 - y.1 < 2880) = True := by simp; omega
      exact wk0 [] [] (an exYGS1 (an c2 (an c7 (an c8 (an c9 (an c10 (an d1 (an d2 (an rx ry)))))))))
  ·have hs' : turnB x = false := by simpa using hs
   have e : (l.all turnB && decide (l.Pairwise farT)) = false := by rw [all_no hx hs', Bool.false_and]
   rw [e]
   by_cases n1 : wideB x.2 = true
   ·rw [n1] at wx
    exact wk0 [] [] (an exYGS1 (an c2 rx))
   have n1' : wideB x.2 = false := by simpa using n1
   rw [n1'] at wx
   by_cases n2 : x.1 < 0
   ·have d1 : (x.1 < 0) = True := by simpa using n2
    exact wk0 [] [] (an exYGS1 (an c2 (an rx d1)))
   have d1 : (x.1 < 0) = False := by simpa using n2
   have d2 : (x.1 > 158310720) = True := by
    simp only [turnB, n1', Bool.not_false, Bool.true_and, decide_eq_false_iff_not] at hs'
    simp; omega
   exact wk0 [] [] (an exYGS1 (an c2 (an rx (an d1 d2))))
 ·have c2 : ((i : Int) < (l.length : Int)) = False := by simp; omega
  obtain rfl : i = l.length := by omega
  rw [List.take_length] at ha hp
  rw [ha, decide_eq_true hp]
  exact wk0 [] [] (an exYGS1 c2)
def shiftB (s : Int × Int × Int) : Bool := decide (1 ≤ s.1 ∧ s.1 ≤ 127 ∧ 0 ≤ s.2.1 ∧ s.2.1 < s.2.2 ∧ s.2.2 ≤ 1440)
theorem shift_p (s : Int × Int × Int) : PureD Tryz.prog 69 [.agg [.int .i64 s.1, .int .i64 s.2.1, .int .i64 s.2.2]] (.bool (shiftB s)) := by
 refine pureV Tryz.func69 low69 (by simp [c69]) ?_
 simp only [c69]
 exact wk1 [] [] (an exYGS1 @shiftB.eq_1)
theorem noShift_p (s : Int × Int × Int) : PureD Tryz.prog 68 [.agg [.int .i64 s.1, .int .i64 s.2.1, .int .i64 s.2.2]] (.bool (!shiftB s)) := by
 refine pureV Tryz.func68 low68 (by simp [c68]) ?_
 have h := shift_p s
 generalize shiftB s = b at h ⊢
 simp only [c68]
 exact wk0 [] [] exYGS1
def idxS : List (Int × Int × Int) → Nat → Int
 | [], _ => -1
 | s :: l, n => if shiftB s = true then idxS l (n + 1) else n
theorem idxS_neg : ∀ (l : List (Int × Int × Int)) (n : Nat), (decide (idxS l n ≥ 0)) = !l.all shiftB
 | [], n => by simp [idxS]
 | s :: l, n => by
  by_cases h : shiftB s = true
  ·simp [idxS, h]; simpa using idxS_neg l (n + 1)
  ·have h' : shiftB s = false := by simpa using h
   simp [idxS, h']
theorem idxS_p (l : List (Int × Int × Int)) (hl : l.length ≤ 140737488351232) : PureD Tryz.prog 111 [L (row3 l), .fn 68 []] (.int .i64 (idxS l 0)) := by
 refine pureV Tryz.func111 low111 (by simp [c111]) ?_
 simp only [c111]
 refine wk [] [] exYGS1 ?_
 refine Run_loop (ι := {i : Nat // i ≤ l.length ∧ idxS l 0 = idxS (l.drop i) i}) (fun i => ([(0, L (row3 l)), (1, .fn 68 []), (7, .int .i64 l.length), (8, .int .i64 i.1)], [])) (fun i => l.length - i.1) ⟨0, by simp⟩ ?_ ?_
 ·exact gcw [] exYGS1
 rintro ⟨i, hi, hx⟩ hk
 dsimp only at hk ⊢
 by_cases hlt : i < l.length
 ·have c1 : ((i : Int) < (l.length : Int)) = True := by simp; omega
  obtain ⟨p, hp⟩ : ∃ p, l[i]? = some p := ⟨_, List.getElem?_eq_getElem hlt⟩
  have hr := row3_get hp
  have hdr : l.drop i = p :: l.drop (i + 1) := by
   rw [List.getElem?_eq_getElem hlt] at hp; cases hp; exact List.drop_eq_getElem_cons hlt
  have lv := noShift_p p
  by_cases hc : shiftB p = true
  ·rw [hc] at lv
   have e : idxS l 0 = idxS (l.drop (i + 1)) (i + 1) := by rw [hx, hdr]; simp [idxS, hc]
   simp only [Bool.not_true] at lv
   refine wk [] [] (an exYGS1 (an c1 hr)) ?_
   refine hk ⟨i + 1, by omega, e⟩ _ _ (by dsimp only; omega) ?_
   dsimp only
   exact gcw [] exYGS1
  ·have hc' : shiftB p = false := by simpa using hc
   rw [hc'] at lv
   have e : idxS l 0 = i := by rw [hx, hdr]; simp [idxS, hc']
   rw [e]
   simp only [Bool.not_false] at lv
   exact wk0 [] [] (an exYGS1 (an c1 hr))
 ·have c1 : ((i : Int) < (l.length : Int)) = False := by simp; omega
  have e : idxS l 0 = -1 := by rw [hx, List.drop_eq_nil_of_le (by omega)]; rfl
  rw [e]
  exact wk0 [] [] (an exYGS1 c1)
theorem conS_p (l : List (Int × Int × Int)) (hl : l.length ≤ 140737488351232) : PureD Tryz.prog 67 [L (row3 l), .fn 68 []] (.bool (!l.all shiftB)) := by
 refine pureV Tryz.func67 low67 (by simp [c67]) ?_
 simp only [c67]
 have ix := idxS_p l hl
 rw [← idxS_neg l 0]
 generalize idxS l 0 = n at ix ⊢
 exact wk0 [] [] exYGS1
def dayOffB (n : Int) : Bool := decide (0 ≤ n ∧ n < 109938)
def hoursB (s : List (Int × Int × Int)) (off : List Int) : Bool := decide (s.length ≤ 10 ∧ off.length ≤ 60) && ((off.all dayOffB && risB off) && s.all shiftB)
set_option maxHeartbeats 4000000 in
theorem hoursMay_p (s : List (Int × Int × Int)) (l : List Int) (hs : s.length ≤ 140737488351232) (hl : l.length ≤ 140737488351232) : PureD Tryz.prog 36 [.agg [L (row3 s), L (row1 .i64 l)]] (.bool (hoursB s l)) := by
 refine pureV Tryz.func36 low36 (by simp [c36]) ?_
 simp only [c36]
 have cs := conS_p s hs
 by_cases hbig : 10 < s.length
 ·have c0 : ((s.length : Int) > 10) = True := by simp; omega
  have e : hoursB s l = false := by
   have : ¬ s.length ≤ 10 := by omega
   simp [hoursB, this]
  rw [e]
  exact wk0 [] [] (an exYGS1 c0)
 have c0 : ((s.length : Int) > 10) = False := by simp; omega
 by_cases hbig2 : 60 < l.length
 ·have c1 : ((l.length : Int) > 60) = True := by simp; omega
  have e : hoursB s l = false := by
   have : ¬ l.length ≤ 60 := by omega
   simp [hoursB, this]
  rw [e]
  exact wk0 [] [] (an exYGS1 (an c0 c1))
 have c1 : ((l.length : Int) > 60) = False := by simp; omega
 have e0 : hoursB s l = ((l.all dayOffB && risB l) && s.all shiftB) := by
  have h1 : s.length ≤ 10 := by omega
  have h2 : l.length ≤ 60 := by omega
  simp [hoursB, h1, h2]
 rw [e0]
 generalize s.all shiftB = sb at cs ⊢
 refine wk [] [] (an exYGS1 (an c0 c1)) ?_
 refine Run_loop (ι := {i : Nat // i ≤ l.length ∧ (l.take i).all dayOffB = true ∧ (l.take i).Pairwise fun a b => a < b}) (fun i => ([(1, .ptr 0 0 0 1), (16, L (row1 .i64 l)), (17, .int .i64 l.length), (18, .int .i64 i.1)], [⟨true, false, true, false, 2, [[L (row3 s), L (row1 .i64 l)]], some 0⟩])) (fun i => l.length - i.1) ⟨0, by simp⟩ ?_ ?_
 ·exact gcw [0] exYGS1
 rintro ⟨i, hi, ha, hp⟩ hk
 dsimp only at hk ⊢
 by_cases hlt : i < l.length
 ·have c2 : ((i : Int) < (l.length : Int)) = True := by simp; omega
  obtain ⟨x, hx⟩ : ∃ x, l[i]? = some x := ⟨_, List.getElem?_eq_getElem hlt⟩
  have rx := row1_get (k := .i64) hx
  by_cases hss : dayOffB x = true
  ·have hs' := hss
   simp only [dayOffB, decide_eq_true_eq] at hs'
   have d1 : (x < 0) = False := by simp; omega
   have d2 : (x ≥ 109938) = False := by simp; omega
   cases i with
   | zero =>
    refine wk [] [] (an exYGS1 (an c2 (an d1 (an d2 rx)))) ?_
    refine hk ⟨1, by omega, all_step ha hx hss, by rw [List.take_add_one, hx]; simp⟩ _ _ (by dsimp only; omega) ?_
    dsimp only
    exact gcw [0] exYGS1
   | succ i =>
    obtain ⟨y, hy⟩ : ∃ y, l[i]? = some y := ⟨_, List.getElem?_eq_getElem (by omega)⟩
    have ry := row1_get (k := .i64) hy
    have c7 : (((i + 1 : Nat) : Int) > 0) = True := by rw [eq_iff_iff]; exact ⟨fun _ => trivial, fun _ => by omega⟩
    have c8 : (((i + 1 : Nat) : Int) - 1) = (i : Int) := by omega
    by_cases hyx : y < x
    ·have c9 : (y ≥ x) = False := by simp; omega
     refine wk [] [] (an exYGS1 (an c2 (an c7 (an c8 (an c9 (an d1 (an d2 (an rx ry)))))))) ?_
     refine hk ⟨i + 1 + 1, by omega, all_step ha hx hss, pw_step (R := fun a b : Int => a < b) (fun _ _ _ => Int.lt_trans) hp hy hx hyx⟩ _ _ (by dsimp only; omega) ?_
     dsimp only
     exact gcw [0] exYGS1
    ·have c9 : (y ≥ x) = True := by simp; omega
     have e : ((l.all dayOffB && risB l) && sb) = false := by
      have : risB l = false := by simpa [risB] using pw_no hy hx hyx
      simp [this]
     rw [e]
     exact wk0 [] [] (an exYGS1 (an c2 (an c7 (an c8 (an c9 (an d1 (an d2 (an rx ry))))))))
  ·have hs' : dayOffB x = false := by simpa using hss
   have e : ((l.all dayOffB && risB l) && sb) = false := by simp only [all_no hx hs', Bool.false_and]
   rw [e]
   by_cases n1 : x < 0
   ·have d1 : (x < 0) = True := by simpa using n1
    exact wk0 [] [] (an exYGS1 (an c2 (an d1 rx)))
   have d1 : (x < 0) = False := by simpa using n1
   have d2 : (x ≥ 109938) = True := by
    simp only [dayOffB, decide_eq_false_iff_not] at hs'
    simp; omega
   exact wk0 [] [] (an exYGS1 (an c2 (an d1 (an d2 rx))))
 ·have c2 : ((i : Int) < (l.length : Int)) = False := by simp; omega
  obtain rfl : i = l.length := by omega
  rw [List.take_length] at ha hp
  have hr : risB l = true := by simpa [risB] using hp
  rw [ha, hr, Bool.true_and, Bool.true_and]
  exact wk1 [] [] (an exYGS1 c2)
def setB (x : Se) : Bool := zoneB x.base x.turns && (hoursB x.shifts x.off && decide (0 ≤ x.before ∧ x.before ≤ 240 ∧ 0 ≤ x.after ∧ x.after ≤ 240))
theorem settings_p (x : Se) (hx : x.fits) : PureD Tryz.prog 12 [.agg x.cells] (.bool (setB x)) := by
 obtain ⟨f1, f2, f3⟩ := hx
 refine pureV Tryz.func12 low12 (by simp [c12]) ?_
 have h1 := zoneMay_p x.base x.turns f1
 have h2 := hoursMay_p x.shifts x.off f2 f3
 unfold setB
 generalize zoneB x.base x.turns = x1 at h1 ⊢
 generalize hoursB x.shifts x.off = x2 at h2 ⊢
 simp only [c12, Se.cells]
 exact wk1 [] [] exYGS1
end Go.Proofs.YtapennlmboabeaaGreat

namespace Go.Proofs.YtapennlmboabeaaGreat
open Go Go.Vi
theorem fold_no (u : Us) : ∀ (l acc : List Us), (l.Pairwise fun a b => a.id < b.id) → (∀ x ∈ l, x.id ≠ u.id) → l.foldl (withS u) (acc, false) = if lowB Us.id l u.id < l.length then (acc ++ (l.take (lowB Us.id l u.id) ++ u :: l.drop (lowB Us.id l u.id)), true) else (acc ++ l, false)
 | [], acc, _, _ => by simp [lowB]
 | x :: l, acc, hs, hn => by
  obtain ⟨h1, h2⟩ := List.pairwise_cons.1 hs
  have hx := hn x (by simp)
  have hl : ∀ y ∈ l, y.id ≠ u.id := fun y hy => hn y (by simp [hy])
  rw [List.foldl_cons]
  by_cases hlt : x.id < u.id
  ·have e : withS u (acc, false) x = (acc ++ [x], false) := by
    have : ¬ u.id ≤ x.id := by omega
    simp [withS, hx, this]
   have el : lowB Us.id (x :: l) u.id = lowB Us.id l u.id + 1 := by
    rw [lowB, if_pos hlt]
   rw [e, fold_no u l _ h2 hl, el]
   simp only [List.length_cons, Nat.add_lt_add_iff_right]
   split <;> simp
  ·have hle : u.id ≤ x.id := by omega
   have e : withS u (acc, false) x = (acc ++ [u] ++ [x], true) := by simp [withS, hx, hle]
   have el : lowB Us.id (x :: l) u.id = 0 := by
    rw [lowB, if_neg hlt]
   rw [e, fold_true u l _ hl, el]
   simp
theorem withR_no {us : List Us} {u : Us} (hs : us.Pairwise fun a b => a.id < b.id) (h : ∀ x ∈ us, x.id ≠ u.id) : withR us u = us.take (lowB Us.id us u.id) ++ u :: us.drop (lowB Us.id us u.id) := by
 have hf := fold_no u us [] hs h
 have hg : withG u us = us.foldl (withS u) ([], false) := rfl
 have hle := lowB_le Us.id us u.id
 unfold withR
 rw [hg, hf]
 by_cases hlt : lowB Us.id us u.id < us.length
 ·simp [hlt]
 ·have e : lowB Us.id us u.id = us.length := by omega
  simp [e]
theorem findU_no {us : List Us} {user : Int} (h : findU us user = none) : ∀ x ∈ us, x.id ≠ user := fun x hx => by
 unfold findU at h
 have := List.find?_eq_none.1 h x hx
 simpa using this
theorem exYGS3 : type_of% (an @row1_len (an @row2_len (an @row3_len (an @rowsE_len (an @rowsU_len (an @rowsP_len @rowsD_len)))))) := (an @row1_len (an @row2_len (an @row3_len (an @rowsE_len (an @rowsU_len (an @rowsP_len @rowsD_len))))))
theorem with_i (t : Int) (us : List Us) (ps : List Po) (ds : List Dn) (k : Nat) (u : Us) (hk : k ≤ us.length) (hl : us.length ≤ 400000000000) : PureD Tryz.prog 32 [St t us ps ds, .int .i64 k, .bool false, .agg u.row] (St t (us.take k ++ u :: us.drop k) ps ds) := by
 by_cases hn : us = []
 ·subst hn
  have : k = 0 := by simpa using hk
  subst this
  have w := with_0 t u ps ds
  simpa [St, rowsU] using w
 ·refine pureV Tryz.func32 low32 (by simp [c32]) ?_
  have hune : rowsU us ≠ [] := by
   cases us with
   | nil => exact absurd rfl hn
   | cons => simp [rowsU]
  have cu := clU_ne false (rowsU us) hune (sz_rows us) (by rw [rowsU_len]; omega)
  have iu := inU_p (rowsU us) k u.row true (some false) hune (sz_rows us) rfl (pt_rows us) (by simp [Us.row, D.pt1]) (by rw [rowsU_len]; omega) (by rw [rowsU_len]; exact hk)
  have e : List.take k (rowsU us) ++ u.row :: List.drop k (rowsU us) = rowsU (us.take k ++ u :: us.drop k) := by simp [rowsU, List.map_take, List.map_drop]
  rw [e, rowsU_len] at iu
  rw [rowsU_len] at cu
  have el : (us.take k ++ u :: us.drop k).length = us.length + 1 := by simp; omega
  generalize us.take k ++ u :: us.drop k = us' at iu el ⊢
  simp only [c32, St, Us.row] at iu ⊢
  exact wk0 [40, 64] [] (an exYGS3 el)
def setU (us : List Us) (user : Int) (x : Se) : Us := { (findU us user).getD zU with id := user, se := x, ver := IntKind.u64.wrap (((findU us user).getD zU).ver + 1) }
def putUF (us : List Us) (user : Int) (x : Se) : List Us × Int × Int :=
 if user = 0 ∨ setB x = false then (us, 0, 2) else if (findU us user).isSome = false ∧ 100 ≤ us.length then (us, 0, 6) else (withR us (setU us user x), (setU us user x).ver, 0)
set_option maxHeartbeats 4000000 in
theorem putUser_p (t : Int) (us : List Us) (ps : List Po) (ds : List Dn) (user : Int) (x : Se) (hl : us.length ≤ 400000000000) (hs : us.Pairwise fun a b => a.id < b.id) (hx : x.fits) :
  PureD Tryz.prog 9 [St t us ps ds, .int .u32 user, .agg x.cells] (.tup [St t (putUF us user x).1 ps ds, .int .u64 (putUF us user x).2.1, .int .i64 (putUF us user x).2.2]) := by
 have pl := placeU_p t us ps ds user (by omega) hs
 have se := settings_p x hx
 unfold putUF
 refine pureV Tryz.func9 low9 (by simp [c9]) ?_
 by_cases h0 : user = 0
 ·have c1 : (user == 0) = true := by simpa using h0
  rw [if_pos (.inl h0)]
  generalize isAtB Us.id us (lowB Us.id us user) user = b at pl
  generalize lowB Us.id us user = k at pl
  simp only [c9, St, Se.cells] at pl se ⊢
  exact wk0 [] [] (an exYGS3 c1)
 have c1 : (user == 0) = false := by simpa using h0
 by_cases hb : setB x = false
 ·rw [if_pos (.inr hb)]
  rw [hb] at se
  generalize isAtB Us.id us (lowB Us.id us user) user = b at pl
  generalize lowB Us.id us user = k at pl
  simp only [c9, St, Se.cells] at pl se ⊢
  exact wk0 [] [] (an exYGS3 c1)
 have hb' : setB x = true := by simpa using hb
 rw [hb'] at se
 rw [if_neg (by rintro (h | h); exact h0 h; exact hb h)]
 cases hu : findU us user with
 | none =>
  have hat := u_no hs hu
  rw [hat] at pl
  simp only [Option.isSome_none, true_and]
  by_cases hq : 100 ≤ us.length
  ·rw [if_pos hq]
   have c2 : ((us.length : Int) ≥ 100) = True := by simp; omega
   generalize lowB Us.id us user = k at pl
   simp only [c9, St, Se.cells] at pl se ⊢
   exact wk0 [] [] (an exYGS3 (an c1 c2))
  ·rw [if_neg hq]
   have c2 : ((us.length : Int) ≥ 100) = False := by simp; omega
   have hno := findU_no hu
   have hle := lowB_le Us.id us user
   have eu : setU us user x = ⟨user, x, 1, []⟩ := by
    unfold setU; rw [hu]; rfl
   have wi := with_i t us ps ds (lowB Us.id us user) ⟨user, x, 1, []⟩ hle hl
   have wr := withR_no (u := ⟨user, x, 1, []⟩) hs hno
   dsimp only at wr
   rw [← wr] at wi
   rw [eu]
   generalize withR us ⟨user, x, 1, []⟩ = us' at wi ⊢
   generalize lowB Us.id us user = k at pl wi
   simp only [c9, St, Se.cells, Us.row, rowsE, List.map_nil] at pl se wi ⊢
   exact wk0 [] [] (an exYGS3 (an c1 c2))
 | some u =>
  obtain ⟨h1, h2, h3, h4⟩ := u_at hs hu
  rw [h2] at pl
  have hr := rowsU_get h1
  simp only [Option.isSome_some, Bool.true_eq_false, false_and, if_false]
  have eu : setU us user x = ⟨user, x, IntKind.u64.wrap (u.ver + 1), u.evs⟩ := by
   unfold setU; rw [hu]; rfl
  have w1 := with_1 t us ps ds (lowB Us.id us user) ⟨u.id, x, IntKind.u64.wrap (u.ver + 1), u.evs⟩ h3 hl
  rw [set_rep ⟨u.id, x, IntKind.u64.wrap (u.ver + 1), u.evs⟩ us _ u hs h1 rfl, ← withR_map (u := ⟨u.id, x, IntKind.u64.wrap (u.ver + 1), u.evs⟩) hs ⟨u, (findU_some hu).1, rfl⟩] at w1
  rw [h4] at w1
  rw [eu]
  have h4' : u.id = user := h4
  generalize withR us ⟨user, x, IntKind.u64.wrap (u.ver + 1), u.evs⟩ = us' at w1 ⊢
  generalize lowB Us.id us user = k at pl w1 h3 hr
  rw [← h4'] at w1
  simp only [c9, St, Se.cells, Us.row] at pl se w1 ⊢
  exact wk0 [] [] (an exYGS3 (an c1 (an hr @Us.row.eq_1)))
end Go.Proofs.YtapennlmboabeaaGreat

namespace Go.Proofs.YtapennlmboabeaaGreat
open Go Go.Vi
theorem exYGS2 : type_of% (an @row1_len (an @row2_len (an @row3_len (an @rowsE_len (an @rowsU_len (an @rowsP_len @rowsD_len)))))) := (an @row1_len (an @row2_len (an @row3_len (an @rowsE_len (an @rowsU_len (an @rowsP_len @rowsD_len))))))
set_option maxHeartbeats 4000000 in
theorem refZone_p (base : Int) (l : List (Int × Int)) (hl : l.length ≤ 140737488351232) : PureD Tryz.prog 37 [.agg [.int .i64 base, L (row2 .i64 .i64 l)]] (.bool (zoneB base l)) := by
 refine pureV Tryz.func37 low37 (by simp [c37]) ?_
 simp only [c37]
 by_cases hb1 : base < -900
 ·have b1 : (base < -900) = True := by simpa using hb1
  have e : zoneB base l = false := by
   have : wideB base = true := by simp [wideB, hb1]
   simp [zoneB, this]
  rw [e]
  exact wk0 [] [] (an exYGS2 b1)
 have b1 : (base < -900) = False := by simpa using hb1
 by_cases hb2 : base > 900
 ·have b2 : (base > 900) = True := by simpa using hb2
  have e : zoneB base l = false := by
   have : wideB base = true := by simp [wideB]; omega
   simp [zoneB, this]
  rw [e]
  exact wk0 [] [] (an exYGS2 (an b1 b2))
 have b2 : (base > 900) = False := by simpa using hb2
 have hb' : wideB base = false := by simp [wideB]; omega
 by_cases hbig : 700 < l.length
 ·have c0 : ((l.length : Int) > 700) = True := by simp; omega
  have e : zoneB base l = false := by
   have : ¬ l.length ≤ 700 := by omega
   simp [zoneB, this]
  rw [e]
  exact wk0 [] [] (an exYGS2 (an b1 (an b2 c0)))
 have c0 : ((l.length : Int) > 700) = False := by simp; omega
 have e0 : zoneB base l = (l.all turnB && decide (l.Pairwise farT)) := by
  have : l.length ≤ 700 := by omega
  simp [zoneB, hb', this]
 rw [e0]
 refine wk [] [] (an exYGS2 (an b1 (an b2 c0))) ?_
 refine Run_loop (ι := {p : Nat × Int // p.1 ≤ l.length ∧ (l.take p.1).all turnB = true ∧ (l.take p.1).Pairwise farT ∧ -2880 ≤ p.2 ∧ p.2 ≤ 158310720 ∧ (p.1 = 0 → p.2 = -2880) ∧ ∀ i x, p.1 = i + 1 → l[i]? = some x → p.2 = x.1}) (fun p => ([(1, .ptr 0 0 0 1), (3, .int .i64 p.1.2), (22, .int .i64 l.length), (23, .int .i64 p.1.1)], [⟨true, false, true, false, 2, [[.int .i64 base, L (row2 .i64 .i64 l)]], some 0⟩])) (fun p => l.length - p.1.1) ⟨(0, -2880), by simp⟩ ?_ ?_
 ·exact gcw [0] exYGS2
 rintro ⟨⟨i, last⟩, hi, ha, hp, hl1, hl2, hl3, hl4⟩ hk
 dsimp only at hk hi ha hp hl1 hl2 hl3 hl4 ⊢
 by_cases hlt : i < l.length
 ·have c2 : ((i : Int) < (l.length : Int)) = True := by simp; omega
  obtain ⟨x, hx⟩ : ∃ x, l[i]? = some x := ⟨_, List.getElem?_eq_getElem hlt⟩
  have rx := row2_get (k := .i64) (m := .i64) hx
  by_cases hs : turnB x = true
  ·have hs' := hs
   simp only [turnB, wideB, Bool.and_eq_true, Bool.not_eq_true', decide_eq_true_eq, decide_eq_false_iff_not] at hs'
   obtain ⟨n1, n2, n3⟩ := hs'
   have d0 : (x.2 < -900) = False := by simp; omega
   have d00 : (x.2 > 900) = False := by simp; omega
   have d1 : (x.1 < 0) = False := by simp; omega
   have d2 : (x.1 > 158310720) = False := by simp; omega
   by_cases hd : x.1 - last < 2880
   ·have d3 : (x.1 - last < 2880) = True := by simpa using hd
    have e : (l.all turnB && decide (l.Pairwise farT)) = false := by
     cases i with
     | zero => have := hl3 rfl; omega
     | succ i =>
      obtain ⟨y, hy⟩ : ∃ y, l[i]? = some y := ⟨_, List.getElem?_eq_getElem (by omega)⟩
      have hyl := hl4 i y rfl hy
      have : decide (l.Pairwise farT) = false := by
       simpa using pw_no hy hx (show ¬ farT y x by unfold farT; omega)
      rw [this, Bool.and_false]
    rw [e]
    exact wk0 [] [] (an exYGS2 (an c2 (an rx (an d0 (an d00 (an d1 (an d2 d3)))))))
   ·have d3 : (x.1 - last < 2880) = False := by simpa using hd
    refine wk [] [] (an exYGS2 (an c2 (an rx (an d0 (an d00 (an d1 (an d2 d3))))))) ?_
    refine hk ⟨(i + 1, x.1), by dsimp only; omega, all_step ha hx hs, ?_, by dsimp only; omega, by dsimp only; omega, by simp, fun j y hj hy => ?_⟩ _ _ (by dsimp only; omega) ?_
    ·cases i with
     | zero => dsimp only; rw [List.take_add_one, hx]; simp
     | succ i =>
      obtain ⟨y, hy⟩ : ∃ y, l[i]? = some y := ⟨_, List.getElem?_eq_getElem (by omega)⟩
      have hyl := hl4 i y rfl hy
      exact pw_step farT_trans hp hy hx (show farT y x by unfold farT; omega)
    ·have : i = j := by dsimp only at hj; omega
     subst this
     rw [hx] at hy
     cases hy
     rfl
    dsimp only
    exact gcw [0] exYGS2
  ·have hs' : turnB x = false := by simpa using hs
   have e : (l.all turnB && decide (l.Pairwise farT)) = false := by rw [all_no hx hs', Bool.false_and]
   rw [e]
   by_cases n0 : x.2 < -900
   ·have d0 : (x.2 < -900) = True := by simpa using n0
    exact wk0 [] [] (an exYGS2 (an c2 (an rx d0)))
   have d0 : (x.2 < -900) = False := by simpa using n0
   by_cases n00 : x.2 > 900
   ·have d00 : (x.2 > 900) = True := by simpa using n00
    exact wk0 [] [] (an exYGS2 (an c2 (an rx (an d0 d00))))
   have d00 : (x.2 > 900) = False := by simpa using n00
   by_cases n2 : x.1 < 0
   ·have d1 : (x.1 < 0) = True := by simpa using n2
    exact wk0 [] [] (an exYGS2 (an c2 (an rx (an d0 (an d00 d1)))))
   have d1 : (x.1 < 0) = False := by simpa using n2
   have d2 : (x.1 > 158310720) = True := by
    have n1' : wideB x.2 = false := by simp [wideB]; omega
    simp only [turnB, n1', Bool.not_false, Bool.true_and, decide_eq_false_iff_not] at hs'
    simp; omega
   exact wk0 [] [] (an exYGS2 (an c2 (an rx (an d0 (an d00 (an d1 d2))))))
 ·have c2 : ((i : Int) < (l.length : Int)) = False := by simp; omega
  obtain rfl : i = l.length := by omega
  rw [List.take_length] at ha hp
  rw [ha, decide_eq_true hp]
  exact wk0 [] [] (an exYGS2 c2)
set_option maxHeartbeats 4000000 in
theorem refHours_p (s : List (Int × Int × Int)) (l : List Int) (hs : s.length ≤ 140737488351232) (hl : l.length ≤ 140737488351232) : PureD Tryz.prog 38 [.agg [L (row3 s), L (row1 .i64 l)]] (.bool (hoursB s l)) := by
 refine pureV Tryz.func38 low38 (by simp [c38]) ?_
 simp only [c38]
 by_cases hbig : 10 < s.length
 ·have c0 : ((s.length : Int) > 10) = True := by simp; omega
  have e : hoursB s l = false := by
   have : ¬ s.length ≤ 10 := by omega
   simp [hoursB, this]
  rw [e]
  exact wk0 [] [] (an exYGS2 c0)
 have c0 : ((s.length : Int) > 10) = False := by simp; omega
 by_cases hbig2 : 60 < l.length
 ·have c1 : ((l.length : Int) > 60) = True := by simp; omega
  have e : hoursB s l = false := by
   have : ¬ l.length ≤ 60 := by omega
   simp [hoursB, this]
  rw [e]
  exact wk0 [] [] (an exYGS2 (an c0 c1))
 have c1 : ((l.length : Int) > 60) = False := by simp; omega
 have e0 : hoursB s l = ((l.all dayOffB && risB l) && s.all shiftB) := by
  have h1 : s.length ≤ 10 := by omega
  have h2 : l.length ≤ 60 := by omega
  simp [hoursB, h1, h2]
 rw [e0]
 refine wk [] [] (an exYGS2 (an c0 c1)) ?_
 refine Run_loop (ι := {i : Nat // i ≤ s.length ∧ (s.take i).all shiftB = true}) (fun i => ([(1, .ptr 0 0 0 1), (18, .int .i64 s.length), (19, .int .i64 i.1)], [⟨true, false, true, false, 2, [[L (row3 s), L (row1 .i64 l)]], some 0⟩])) (fun i => s.length - i.1) ⟨0, by simp⟩ ?_ ?_
 ·exact gcw [0] exYGS2
 rintro ⟨i, hi, ha⟩ hk
 dsimp only at hk ⊢
 by_cases hlt : i < s.length
 ·have c2 : ((i : Int) < (s.length : Int)) = True := by simp; omega
  obtain ⟨x, hx⟩ : ∃ x, s[i]? = some x := ⟨_, List.getElem?_eq_getElem hlt⟩
  have rx := row3_get hx
  by_cases hb : shiftB x = true
  ·have hb' := hb
   simp only [shiftB, decide_eq_true_eq] at hb'
   have d1 : (x.1 < 1) = False := by simp; omega
   have d2 : (x.1 > 127) = False := by simp; omega
   have d3 : (x.2.1 < 0) = False := by simp; omega
   have d4 : (x.2.2 ≤ x.2.1) = False := by simp; omega
   have d5 : (x.2.2 > 1440) = False := by simp; omega
   refine wk [] [] (an exYGS2 (an c2 (an rx (an d1 (an d2 (an d3 (an d4 d5))))))) ?_
   refine hk ⟨i + 1, by omega, all_step ha hx hb⟩ _ _ (by dsimp only; omega) ?_
   dsimp only
   exact gcw [0] exYGS2
  ·have hb' : shiftB x = false := by simpa using hb
   have e : ((l.all dayOffB && risB l) && s.all shiftB) = false := by rw [all_no hx hb', Bool.and_false]
   rw [e]
   by_cases n1 : x.1 < 1
   ·have d1 : (x.1 < 1) = True := by simpa using n1
    exact wk0 [] [] (an exYGS2 (an c2 (an rx d1)))
   have d1 : (x.1 < 1) = False := by simpa using n1
   by_cases n2 : x.1 > 127
   ·have d2 : (x.1 > 127) = True := by simpa using n2
    exact wk0 [] [] (an exYGS2 (an c2 (an rx (an d1 d2))))
   have d2 : (x.1 > 127) = False := by simpa using n2
   by_cases n3 : x.2.1 < 0
   ·have d3 : (x.2.1 < 0) = True := by simpa using n3
    exact wk0 [] [] (an exYGS2 (an c2 (an rx (an d1 (an d2 d3)))))
   have d3 : (x.2.1 < 0) = False := by simpa using n3
   by_cases n4 : x.2.2 ≤ x.2.1
   ·have d4 : (x.2.2 ≤ x.2.1) = True := by simpa using n4
    exact wk0 [] [] (an exYGS2 (an c2 (an rx (an d1 (an d2 (an d3 d4))))))
   have d4 : (x.2.2 ≤ x.2.1) = False := by simpa using n4
   have d5 : (x.2.2 > 1440) = True := by
    simp only [shiftB, decide_eq_false_iff_not] at hb'
    simp; omega
   exact wk0 [] [] (an exYGS2 (an c2 (an rx (an d1 (an d2 (an d3 (an d4 d5)))))))
 ·have c2 : ((i : Int) < (s.length : Int)) = False := by simp; omega
  obtain rfl : i = s.length := by omega
  rw [List.take_length] at ha
  rw [ha, Bool.and_true]
  clear ha hk c2 hlt
  have c2 : ((s.length : Int) < (s.length : Int)) = False := by simp
  refine wk [] [] (an exYGS2 c2) ?_
  refine Run_loop (ι := {i : Nat // i ≤ l.length ∧ (l.take i).all dayOffB = true ∧ (l.take i).Pairwise fun a b => a < b}) (fun i => ([(1, .ptr 0 0 0 1), (55, .int .i64 l.length), (56, .int .i64 i.1)], [⟨true, false, true, false, 2, [[L (row3 s), L (row1 .i64 l)]], some 0⟩])) (fun i => l.length - i.1) ⟨0, by simp⟩ ?_ ?_
  ·exact gcw [0] exYGS2
  rintro ⟨i, hi, ha, hp⟩ hk
  dsimp only at hk ⊢
  by_cases hlt : i < l.length
  ·have c2 : ((i : Int) < (l.length : Int)) = True := by simp; omega
   obtain ⟨x, hx⟩ : ∃ x, l[i]? = some x := ⟨_, List.getElem?_eq_getElem hlt⟩
   have rx := row1_get (k := .i64) hx
   by_cases hss : dayOffB x = true
   ·have hs' := hss
    simp only [dayOffB, decide_eq_true_eq] at hs'
    have d1 : (x < 0) = False := by simp; omega
    have d2 : (x > 109937) = False := by simp; omega
    cases i with
    | zero =>
     refine wk [] [] (an exYGS2 (an c2 (an d1 (an d2 rx)))) ?_
     refine hk ⟨1, by omega, all_step ha hx hss, by rw [List.take_add_one, hx]; simp⟩ _ _ (by dsimp only; omega) ?_
     dsimp only
     exact gcw [0] exYGS2
    | succ i =>
     obtain ⟨y, hy⟩ : ∃ y, l[i]? = some y := ⟨_, List.getElem?_eq_getElem (by omega)⟩
     have ry := row1_get (k := .i64) hy
     have c7 : (((i + 1 : Nat) : Int) > 0) = True := by rw [eq_iff_iff]; exact ⟨fun _ => trivial, fun _ => by omega⟩
     have c8 : (((i + 1 : Nat) : Int) - 1) = (i : Int) := by omega
     by_cases hyx : y < x
     ·have c9 : (y ≥ x) = False := by simp; omega
      refine wk [] [] (an exYGS2 (an c2 (an c7 (an c8 (an c9 (an d1 (an d2 (an rx ry)))))))) ?_
      refine hk ⟨i + 1 + 1, by omega, all_step ha hx hss, pw_step (R := fun a b : Int => a < b) (fun _ _ _ => Int.lt_trans) hp hy hx hyx⟩ _ _ (by dsimp only; omega) ?_
      dsimp only
      exact gcw [0] exYGS2
     ·have c9 : (y ≥ x) = True := by simp; omega
      have e : (l.all dayOffB && risB l) = false := by
       have : risB l = false := by simpa [risB] using pw_no hy hx hyx
       simp [this]
      rw [e]
      exact wk0 [] [] (an exYGS2 (an c2 (an c7 (an c8 (an c9 (an d1 (an d2 (an rx ry))))))))
   ·have hs' : dayOffB x = false := by simpa using hss
    have e : (l.all dayOffB && risB l) = false := by simp only [all_no hx hs', Bool.false_and]
    rw [e]
    by_cases n1 : x < 0
    ·have d1 : (x < 0) = True := by simpa using n1
     exact wk0 [] [] (an exYGS2 (an c2 (an d1 rx)))
    have d1 : (x < 0) = False := by simpa using n1
    have d2 : (x > 109937) = True := by
     simp only [dayOffB, decide_eq_false_iff_not] at hs'
     simp; omega
    exact wk0 [] [] (an exYGS2 (an c2 (an d1 (an d2 rx))))
  ·have c2 : ((i : Int) < (l.length : Int)) = False := by simp; omega
   obtain rfl : i = l.length := by omega
   rw [List.take_length] at ha hp
   have hr : risB l = true := by simpa [risB] using hp
   rw [ha, hr, Bool.true_and]
   exact wk0 [] [] (an exYGS2 c2)
theorem refSettings_p (x : Se) (hx : x.fits) : PureD Tryz.prog 13 [.agg x.cells] (.bool (setB x)) := by
 obtain ⟨f1, f2, f3⟩ := hx
 refine pureV Tryz.func13 low13 (by simp [c13]) ?_
 have h1 := refZone_p x.base x.turns f1
 have h2 := refHours_p x.shifts x.off f2 f3
 unfold setB
 generalize zoneB x.base x.turns = x1 at h1 ⊢
 generalize hoursB x.shifts x.off = x2 at h2 ⊢
 simp only [c13, Se.cells]
 exact wk1 [] [] exYGS2
end Go.Proofs.YtapennlmboabeaaGreat
