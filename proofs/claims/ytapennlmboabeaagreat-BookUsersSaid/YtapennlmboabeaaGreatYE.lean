import Derived.Test.YtapennlmboabeaaGreatYD
import Derived.Test.YtapennlmboabeaaGreatVi33
set_option linter.unusedVariables false
set_option linter.unusedSimpArgs false
set_option linter.unnecessarySimpa false
namespace Go.Proofs.YtapennlmboabeaaGreat
open Go Go.Vi
def Rr (t : Int) (us : List Us) (ps : List Po) (ds : List Dn) (v e : Int) : D := .agg [.int .i64 t, L (rowsU us), L (rowsP ps), L (rowsD ds), .int .u64 v, .int .i64 e]
section
variable (t : Int) (us : List Us) (ps : List Po) (ds : List Dn) (user id : Int)
theorem exYGS6 : type_of% (an @row1_len (an @row2_len (an @row3_len (an @rowsE_len (an @rowsU_len (an @rowsP_len @rowsD_len)))))) := (an @row1_len (an @row2_len (an @row3_len (an @rowsE_len (an @rowsU_len (an @rowsP_len @rowsD_len))))))
set_option maxHeartbeats 4000000 in
theorem refPutUser_p (x : Se) (hl : us.length ≤ 1000000) (hx : x.fits) :
  PureD Tryz.prog 10 [St t us ps ds, .int .u32 user, .agg x.cells] (Rr t (putUF us user x).1 ps ds (putUF us user x).2.1 (putUF us user x).2.2) := by
 have fp := refFind_p t us ps ds user (by omega)
 have se := refSettings_p x hx
 unfold findUR at fp
 unfold putUF
 refine pureV Tryz.func10 low10 (by simp [c10]) ?_
 have rw1 := refWith_p t us ps ds (setU us user x) (by omega)
 unfold setU at rw1 ⊢
 generalize (findU us user).getD zU = u at fp rw1 ⊢
 by_cases h0 : user = 0
 ·have c1 : (user == 0) = true := by simpa using h0
  rw [if_pos (.inl h0)]
  generalize (findU us user).isSome = b at fp
  simp only [c10, St, Rr, Se.cells, Us.row] at fp se ⊢
  exact wk0 [] [] (an exYGS6 c1)
 have c1 : (user == 0) = false := by simpa using h0
 by_cases hb : setB x = false
 ·rw [if_pos (.inr hb)]
  rw [hb] at se
  generalize (findU us user).isSome = b at fp
  simp only [c10, St, Rr, Se.cells, Us.row] at fp se ⊢
  exact wk0 [] [] (an exYGS6 c1)
 have hb' : setB x = true := by simpa using hb
 rw [hb'] at se
 rw [if_neg (by rintro (h | h); exact h0 h; exact hb h)]
 by_cases hq : (findU us user).isSome = false ∧ 100 ≤ us.length
 ·rw [if_pos hq]
  rw [hq.1] at fp
  have c2 : ((us.length : Int) ≥ 100) = True := by simp; omega
  simp only [c10, St, Rr, Se.cells, Us.row] at fp se ⊢
  exact wk0 [] [] (an exYGS6 (an c1 c2))
 ·rw [if_neg hq]
  dsimp only at rw1 ⊢
  generalize hus : withR us { u with id := user, se := x, ver := IntKind.u64.wrap (u.ver + 1) } = us' at rw1 ⊢
  have hcs : (findU us user).isSome = true ∨ ((findU us user).isSome = false ∧ us.length < 100) := by
   cases hh : (findU us user).isSome with
   | true => exact .inl rfl
   | false => exact .inr ⟨rfl, by
     have : ¬ 100 ≤ us.length := fun h => hq ⟨hh, h⟩
     omega⟩
  rcases hcs with h1 | ⟨h1, h2⟩
  ·rw [h1] at fp
   simp only [c10, St, Rr, Se.cells, Us.row] at fp se rw1 ⊢
   exact wk0 [] [] (an exYGS6 c1)
  ·rw [h1] at fp
   have c2 : ((us.length : Int) ≥ 100) = False := by simp; omega
   simp only [c10, St, Rr, Se.cells, Us.row] at fp se rw1 ⊢
   exact wk0 [] [] (an exYGS6 (an c1 c2))
theorem out_take {l : List Us} {i : Nat} {x : Us} (h : l[i]? = some x) : outU user (l.take (i + 1)) = outU user (l.take i) ++ if x.id = user then [] else [x] := by
 have : l.take (i + 1) = l.take i ++ [x] := by rw [List.take_add_one, h]; rfl
 rw [this]
 unfold outU
 rw [List.filter_append]
 congr 1
 by_cases hx : x.id = user <;> simp [hx]
set_option maxHeartbeats 8000000 in
theorem refLeave_p (hl : us.length ≤ 1000000) (hlp : ps.length ≤ 1000000) :
  PureD Tryz.prog 15 [St t us ps ds, .int .u32 user] (if (findU us user).isSome then Rr t (outU user us) (keepP user ps) ds 0 0 else Rr t us ps ds 0 4) := by
 have fp := refFind_p t us ps ds user (by omega)
 unfold findUR at fp
 refine pureV Tryz.func15 low15 (by simp [c15]) ?_
 generalize (findU us user).getD zU = u at fp
 cases hb : (findU us user).isSome with
 | false =>
  rw [hb] at fp
  simp only [c15, St, Rr, Us.row, Bool.false_eq_true, if_false] at fp ⊢
  exact wk0 [] [] exYGS6
 | true =>
  rw [hb] at fp
  simp only [c15, St, Rr, Us.row, if_true] at fp ⊢
  refine wk [] [] exYGS6 ?_
  refine Run_ent (Ent_acc (t := 7) (b := false) 9 true (by decide) rfl) ?_
  refine Run_loop (ι := {i : Nat // i ≤ us.length}) (fun i => ([(1, .int .u32 user), (2, .ptr 0 0 0 1), (4, .ptr 1 0 0 1), (7, .own 2 0 (outU user (us.take i.1)).length (outU user (us.take i.1)).length 9 none), (24, .int .i64 us.length), (25, .int .i64 i.1)], [⟨true, false, true, false, 4, [[.int .i64 t, L (rowsU us), L (rowsP ps), L (rowsD ds)]], some 0⟩, ⟨true, false, true, false, 6, [[.int .i64 0, .list (some true) true [], .list (some true) true [], .list (some true) true [], .int .u64 0, .int .i64 0]], some 0⟩, acc false 9 true (rowsU (outU user (us.take i.1)))])) (fun i => us.length - i.1) ⟨0, by simp⟩ ?_ ?_
  ·simp only [List.take_zero, show outU user [] = [] from rfl, rowsU_nil, List.length_nil]
   exact gcw [0, 1, 3] exYGS6
  rintro ⟨i, hi⟩ hk
  dsimp only at hk ⊢
  by_cases hlt : i < us.length
  ·have c1 : ((i : Int) < (us.length : Int)) = True := by simp; omega
   obtain ⟨x, hx⟩ : ∃ x, us[i]? = some x := ⟨_, List.getElem?_eq_getElem hlt⟩
   have hr := rowsU_get hx
   have ht := out_take user hx
   have hle : (outU user (us.take i)).length ≤ 1000000 := by
    have : (outU user (us.take i)).length ≤ (us.take i).length := List.length_filter_le ..
    rw [List.length_take] at this
    omega
   generalize outU user (us.take i) = F at ht hle ⊢
   have hsF : rowsU F ++ [x.row] = rowsU (F ++ [x]) := by simp [rowsU]
   simp only [Us.row] at hsF
   by_cases hc : x.id = user
   ·have c2 : (x.id == user) = true := by simpa using hc
    rw [if_pos hc, List.append_nil] at ht
    refine wk [] [] (an exYGS6 (an c1 (an c2 (an hr @Us.row.eq_1)))) ?_
    refine hk ⟨i + 1, by omega⟩ _ _ (by dsimp only; omega) ?_
    dsimp only
    rw [ht]
    exact gcw [0, 1, 2] exYGS6
   ·have c2 : (x.id == user) = false := by simpa using hc
    rw [if_neg hc] at ht
    refine wk [] [] (an exYGS6 (an c1 (an c2 (an hr (an hsF @Us.row.eq_1))))) ?_
    refine hk ⟨i + 1, by omega⟩ _ _ (by dsimp only; omega) ?_
    dsimp only
    rw [ht]
    simp only [List.length_append, List.length_cons, List.length_nil]
    exact gcw [0, 1, 2] exYGS6
  ·have c1 : ((i : Int) < (us.length : Int)) = False := by simp; omega
   obtain rfl : i = us.length := by omega
   rw [List.take_length]
   generalize outU user us = us' at hk ⊢
   clear hk
   refine wk [] [] (an exYGS6 c1) ?_
   refine Run_ent (Ent_acc (t := 9) (b := false) 16 true (by decide) rfl) ?_
   refine Run_loop (ι := {i : Nat // i ≤ ps.length}) (fun i => ([(1, .int .u32 user), (2, .ptr 0 0 0 1), (4, .ptr 1 0 0 1), (7, .own 2 0 us'.length us'.length 9 none), (9, .own 3 0 (keepP user (ps.take i.1)).length (keepP user (ps.take i.1)).length 16 none), (48, .int .i64 ps.length), (49, .int .i64 i.1)], [⟨true, false, true, false, 4, [[.int .i64 t, L (rowsU us), L (rowsP ps), L (rowsD ds)]], some 0⟩, ⟨true, false, true, false, 6, [[.int .i64 0, .list (some true) true [], .list (some true) true [], .list (some true) true [], .int .u64 0, .int .i64 0]], some 0⟩, acc false 9 true (rowsU us'), acc false 16 true (rowsP (keepP user (ps.take i.1)))])) (fun i => ps.length - i.1) ⟨0, by simp⟩ ?_ ?_
   ·simp only [List.take_zero, show keepP user [] = [] from rfl, show rowsP [] = [] from rfl, List.length_nil]
    exact gcw [0, 1, 2, 3] exYGS6
   rintro ⟨i, hi⟩ hk
   dsimp only at hk ⊢
   by_cases hlt : i < ps.length
   ·have c1 : ((i : Int) < (ps.length : Int)) = True := by simp; omega
    obtain ⟨x, hx⟩ : ∃ x, ps[i]? = some x := ⟨_, List.getElem?_eq_getElem hlt⟩
    have hr := rowsP_get hx
    have ht := keepP_take (user := user) hx
    have hle : (keepP user (ps.take i)).length ≤ 1000000 := by
     have : (keepP user (ps.take i)).length ≤ (ps.take i).length := List.length_filter_le ..
     rw [List.length_take] at this
     omega
    generalize keepP user (ps.take i) = F at ht hle ⊢
    have hsF : rowsP F ++ [x.row] = rowsP (F ++ [x]) := by simp [rowsP]
    simp only [Po.row] at hsF
    by_cases hc : x.owner = user
    ·have c2 : (x.owner == user) = true := by simpa using hc
     rw [if_pos hc, List.append_nil] at ht
     refine wk [] [] (an exYGS6 (an c1 (an c2 (an hr @Po.row.eq_1)))) ?_
     refine hk ⟨i + 1, by omega⟩ _ _ (by dsimp only; omega) ?_
     dsimp only
     rw [ht]
     exact gcw [0, 1, 2, 3] exYGS6
    ·have c2 : (x.owner == user) = false := by simpa using hc
     rw [if_neg hc] at ht
     refine wk [] [] (an exYGS6 (an c1 (an c2 (an hr (an hsF @Po.row.eq_1))))) ?_
     refine hk ⟨i + 1, by omega⟩ _ _ (by dsimp only; omega) ?_
     dsimp only
     rw [ht]
     simp only [List.length_append, List.length_cons, List.length_nil]
     exact gcw [0, 1, 2, 3] exYGS6
   ·have c1 : ((i : Int) < (ps.length : Int)) = False := by simp; omega
    obtain rfl : i = ps.length := by omega
    rw [List.take_length]
    generalize keepP user ps = ps' at hk ⊢
    clear hk
    exact wk0 [] [] (an exYGS6 c1)
end
end Go.Proofs.YtapennlmboabeaaGreat
