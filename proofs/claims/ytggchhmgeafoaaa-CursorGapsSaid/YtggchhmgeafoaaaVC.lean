import Derived.Test.YtggchhmgeafoaaaVB
import Derived.Test.YtggchhmgeafoaaaXX
import Derived.Test.YtggchhmgeafoaaaVi33
set_option linter.unusedVariables false
set_option linter.unusedSimpArgs false
set_option linter.unnecessarySimpa false
namespace Go.Proofs.Ytggchhmgeafoaaa
open Go Go.Vi
abbrev Mg (b : Nat) (d : Hd) : Ob := ⟨true, false, false, false, 12, [[.int .i64 2, .nilp, .list (some true) true [], .own b 0 2 2 1 none, .int .i64 0, .int .i64 0, .int .i64 0, .int .i64 0, .int .i64 d.h.1, .int .i64 d.h.2, .bool d.has, .int .i64 d.k]], some 0⟩
abbrev B2 (r q : Nat) : Ob := ⟨true, false, false, false, 1, [[.ptr r 0 0 1], [.ptr q 0 0 1]], some 0⟩
def RF (t : RS) : Prop := t.l.length ≤ 400000000000 ∧ (∀ x ∈ t.l, -9223372036854775808 ≤ x.1 ∧ x.2 ≤ 9223372036854775807) ∧ (t.d.has = true → -9223372036854775808 ≤ t.d.h.1 ∧ t.d.h.2 ≤ 9223372036854775807)
theorem RF_s (m : Int) (t : RS) (h : RF t) : RF (rowStm.sk m t) := by
 obtain ⟨h1, h2, h3⟩ := h
 refine ⟨h1, h2, fun hh => ?_⟩
 have e : (rowStm.sk m t).d = t.d.skip m := rfl
 rw [e] at hh ⊢
 unfold Hd.skip at hh ⊢
 by_cases hm : m ≤ t.d.k
 ·rw [if_pos hm] at hh ⊢
  exact h3 hh
 ·rw [if_neg hm] at hh ⊢
  simp only [Bool.and_eq_true, decide_eq_true_eq] at hh
  have := h3 hh.1
  rw [if_pos hh.1]
  dsimp only
  omega
theorem RF_L : ∀ (l : List Sp) (d : Hd), d.has = false → l.length ≤ 400000000000 → (∀ x ∈ l, -9223372036854775808 ≤ x.1 ∧ x.2 ≤ 9223372036854775807) → RF (pkL l d)
 | [], d, h, _, _ => ⟨by simp [pkL], by simp [pkL], fun hh => by simp [pkL, h] at hh⟩
 | x :: l, d, h, hl, hx => by
  unfold pkL
  have h1 := hx x (by simp)
  have h2 : ∀ y ∈ l, -9223372036854775808 ≤ y.1 ∧ y.2 ≤ 9223372036854775807 := fun y hy => hx y (by simp [hy])
  simp only [List.length_cons] at hl
  split
  ·exact ⟨by dsimp only; omega, h2, fun _ => by simp only [Hd.take]; omega⟩
  ·rename_i hc
   exact RF_L l _ (by simpa using hc) (by omega) h2
theorem RF_p (t : RS) (h : RF t) : RF (rowStm.pk t) := by
 show RF t.pk
 unfold RS.pk
 cases hh : t.d.has
 ·exact RF_L t.l t.d hh h.1 h.2.1
 ·exact h
theorem RF_a {t : RS} (h : RF t) {x : Sp} (hx : rowStm.ans t = some x) : -9223372036854775808 ≤ x.1 ∧ x.2 ≤ 9223372036854775807 := by
 have e : rowStm.ans t = if t.d.has = true then some t.d.h else none := rfl
 rw [e] at hx
 split at hx
 ·rename_i hc
  cases hx
  exact h.2.2 hc
 ·cases hx
theorem exVCG4 : type_of% @rowsS_len := @rowsS_len
set_option maxHeartbeats 16000000 in
theorem ofM_p (d : Hd) (n0 : Nat) (s0 t0 : RS) (hs0 : rowStm.ok s0) (ht0 : rowStm.ok t0) (fs0 : RF s0) (ft0 : RF t0) (hn0 : (rowStm.rem s0).length + (rowStm.rem t0).length < n0) :
  CallG Try.prog 49 [.ptr 0 0 0 1] [Mg 1 d, B2 2 3, Rg (s0).l (s0).d, Rg (t0).l (t0).d] (ansO (mnx rowStm rowStm n0 s0 t0).1) [Mg 1 d, B2 2 3, Rg ((mnx rowStm rowStm n0 s0 t0).2.1).l ((mnx rowStm rowStm n0 s0 t0).2.1).d, Rg ((mnx rowStm rowStm n0 s0 t0).2.2).l ((mnx rowStm rowStm n0 s0 t0).2.2).d] := by
 refine callG Try.func49 low49 (by simp [c49]) ?_
 simp only [c49]
 have mE := mxE
 have nE := mnE
 have cz : ((2 : Int) > 0) = True := by simp
 refine wk [] [] @exVCG4 ?_
 refine Run_loop (ι := {p : Nat × RS × RS // mnx rowStm rowStm p.1 p.2.1 p.2.2 = mnx rowStm rowStm n0 s0 t0 ∧ (rowStm.ok p.2.1 ∧ rowStm.ok p.2.2) ∧ (RF p.2.1 ∧ RF p.2.2) ∧ (rowStm.rem p.2.1).length + (rowStm.rem p.2.2).length < p.1}) (fun p => ([(0, .ptr 0 0 0 1), (2, .ptr 4 0 0 1), (3, .bool false)], [Mg 1 d, B2 2 3, Rg (p.1.2.1).l (p.1.2.1).d, Rg (p.1.2.2).l (p.1.2.2).d, ⟨true, false, true, false, 2, [[.int .i64 0, .int .i64 0]], some 0⟩])) (fun p => p.1.1) ⟨(n0, s0, t0), rfl, ⟨hs0, ht0⟩, ⟨fs0, ft0⟩, hn0⟩ ?_ ?_
 ·exact gcw [0, 1, 2, 3, 4] @exVCG4
 rintro ⟨⟨n, s, t⟩, hp1, ⟨hs, ht⟩, ⟨fs, ft⟩, hp4⟩ hk0
 dsimp only at hp1 hs ht fs ft hp4 hk0 ⊢
 obtain ⟨n, rfl⟩ : ∃ m, n = m + 1 := ⟨n - 1, by omega⟩
 have hm0 : mnx rowStm rowStm (n + 1) s t = (match rowStm.ans (rowStm.pk s) with
  | none => (none, rowStm.pk s, t)
  | some x => match rowStm.ans (rowStm.pk t) with
   | none => (none, rowStm.pk s, rowStm.pk t)
   | some y => if max x.1 y.1 < min x.2 y.2 then (some (max x.1 y.1, min x.2 y.2), rowStm.sk (min x.2 y.2) (rowStm.pk s), rowStm.sk (min x.2 y.2) (rowStm.pk t))
    else mnx rowStm rowStm n (rowStm.sk (max x.1 y.1) (rowStm.pk s)) (rowStm.sk (max x.1 y.1) (rowStm.pk t))) := by
  rw [mnx]
  rfl
 have pe1 := peekB_R s fs.1
 have pe2 := peekB_R t ft.1
 obtain ⟨po1, po2, po3⟩ := rowStm.pk_ok s hs
 obtain ⟨qo1, qo2, qo3⟩ := rowStm.pk_ok t ht
 have f1 := RF_p s fs
 have f2 := RF_p t ft
 have hcs := rowStm.can s hs
 have hct := rowStm.can t ht
 generalize rowStm.pk s = s1 at hm0 pe1 po1 po2 po3 f1
 generalize rowStm.pk t = t1 at hm0 pe2 qo1 qo2 qo3 f2
 refine wk [] [] (an @exVCG4 cz) ?_
 cases hx : rowStm.ans s1 with
 | none =>
  rw [hx] at hm0 pe1
  simp only [ansO] at pe1
  dsimp only at hm0
  rw [← hp1, hm0]
  simp only [ansO]
  refine Run_loop (ι := Unit) (fun _ => ([(0, .ptr 0 0 0 1), (2, .ptr 4 0 0 1), (3, .bool false), (4, .ptr 5 0 0 1), (22, .own 1 0 2 2 1 none), (23, .int .i64 2), (24, .int .i64 0)], [Mg 1 d, B2 2 3, Rg (s).l (s).d, Rg (t).l (t).d, ⟨true, false, true, false, 2, [[.int .i64 0, .int .i64 0]], some 0⟩, ⟨true, false, true, false, 2, [[.int .i64 (-9223372036854775808), .int .i64 9223372036854775807]], some 0⟩])) (fun _ => 0) () ?_ ?_
  ·exact gcw [0, 1, 2, 3, 4, 5] @exVCG4
  rintro ⟨⟩ hk
  dsimp only
  refine wk [24] [] @exVCG4 ?_
  exact rtw [0, 1, 2, 3] @exVCG4
 | some x =>
  have bx := RF_a f1 hx
  rw [hx] at hm0 pe1
  simp only [ansO] at pe1
  dsimp only at hm0
  have e1 : max (-9223372036854775808) x.1 = x.1 := by omega
  have e2 : min 9223372036854775807 x.2 = x.2 := by omega
  cases hy : rowStm.ans t1 with
  | none =>
   rw [hy] at hm0 pe2
   simp only [ansO] at pe2
   dsimp only at hm0
   rw [← hp1, hm0]
   simp only [ansO]
   refine Run_loop (ι := Bool) (fun i => match i with
    | false => ([(0, .ptr 0 0 0 1), (2, .ptr 4 0 0 1), (3, .bool false), (4, .ptr 5 0 0 1), (22, .own 1 0 2 2 1 none), (23, .int .i64 2), (24, .int .i64 0)], [Mg 1 d, B2 2 3, Rg (s).l (s).d, Rg (t).l (t).d, ⟨true, false, true, false, 2, [[.int .i64 0, .int .i64 0]], some 0⟩, ⟨true, false, true, false, 2, [[.int .i64 (-9223372036854775808), .int .i64 9223372036854775807]], some 0⟩])
    | true => ([(0, .ptr 0 0 0 1), (2, .ptr 4 0 0 1), (3, .bool false), (4, .ptr 5 0 0 1), (22, .own 1 0 2 2 1 none), (23, .int .i64 2), (24, .int .i64 1)], [Mg 1 d, B2 2 3, Rg (s1).l (s1).d, Rg (t).l (t).d, ⟨true, false, true, false, 2, [[.int .i64 0, .int .i64 0]], some 0⟩, ⟨true, false, true, false, 2, [[.int .i64 x.1, .int .i64 x.2]], some 0⟩])) (fun i => match i with | false => 1 | true => 0) false ?_ ?_
   ·dsimp only
    exact gcw [0, 1, 2, 3, 4, 5] @exVCG4
   rintro (_ | _) hk
   ·dsimp only at hk ⊢
    refine wk [24] [] (an @exVCG4 (an mE (an nE (an e1 e2)))) ?_
    refine hk true _ _ (by decide) ?_
    dsimp only
    exact gcw [0, 1, 2, 3, 4, 5] @exVCG4
   ·dsimp only at hk ⊢
    refine wk [24] [] @exVCG4 ?_
    exact rtw [0, 1, 2, 3] @exVCG4
  | some y =>
   have by_ := RF_a f2 hy
   rw [hy] at hm0 pe2
   simp only [ansO] at pe2
   dsimp only at hm0
   refine Run_loop (ι := Option Bool) (fun i => match i with
    | none => ([(0, .ptr 0 0 0 1), (2, .ptr 4 0 0 1), (3, .bool false), (4, .ptr 5 0 0 1), (22, .own 1 0 2 2 1 none), (23, .int .i64 2), (24, .int .i64 0)], [Mg 1 d, B2 2 3, Rg (s).l (s).d, Rg (t).l (t).d, ⟨true, false, true, false, 2, [[.int .i64 0, .int .i64 0]], some 0⟩, ⟨true, false, true, false, 2, [[.int .i64 (-9223372036854775808), .int .i64 9223372036854775807]], some 0⟩])
    | some false => ([(0, .ptr 0 0 0 1), (2, .ptr 4 0 0 1), (3, .bool false), (4, .ptr 5 0 0 1), (22, .own 1 0 2 2 1 none), (23, .int .i64 2), (24, .int .i64 1)], [Mg 1 d, B2 2 3, Rg (s1).l (s1).d, Rg (t).l (t).d, ⟨true, false, true, false, 2, [[.int .i64 0, .int .i64 0]], some 0⟩, ⟨true, false, true, false, 2, [[.int .i64 x.1, .int .i64 x.2]], some 0⟩])
    | some true => ([(0, .ptr 0 0 0 1), (2, .ptr 4 0 0 1), (3, .bool false), (4, .ptr 5 0 0 1), (22, .own 1 0 2 2 1 none), (23, .int .i64 2), (24, .int .i64 2)], [Mg 1 d, B2 2 3, Rg (s1).l (s1).d, Rg (t1).l (t1).d, ⟨true, false, true, false, 2, [[.int .i64 0, .int .i64 0]], some 0⟩, ⟨true, false, true, false, 2, [[.int .i64 (max x.1 y.1), .int .i64 (min x.2 y.2)]], some 0⟩])) (fun i => match i with | none => 2 | some false => 1 | some true => 0) none ?_ ?_
   ·dsimp only
    exact gcw [0, 1, 2, 3, 4, 5] @exVCG4
   rintro (_ | _ | _) hk
   ·dsimp only at hk ⊢
    refine wk [24] [] (an @exVCG4 (an mE (an nE (an e1 e2)))) ?_
    refine hk (some false) _ _ (by decide) ?_
    dsimp only
    exact gcw [0, 1, 2, 3, 4, 5] @exVCG4
   ·dsimp only at hk ⊢
    refine wk [24] [] (an @exVCG4 (an mE nE)) ?_
    refine hk (some true) _ _ (by decide) ?_
    dsimp only
    exact gcw [0, 1, 2, 3, 4, 5] @exVCG4
   dsimp only at hk ⊢
   clear hk
   by_cases hz : max x.1 y.1 < min x.2 y.2
   ·rw [if_pos hz] at hm0
    have c1 : (max x.1 y.1 < min x.2 y.2) = True := by simpa using hz
    have sk1 := skipB_R s1 (min x.2 y.2)
    have sk2 := skipB_R t1 (min x.2 y.2)
    rw [← hp1, hm0]
    simp only [ansO]
    generalize rowStm.sk (min x.2 y.2) s1 = s2 at sk1 ⊢
    generalize rowStm.sk (min x.2 y.2) t1 = t2 at sk2 ⊢
    generalize min x.2 y.2 = z2 at c1 sk1 sk2 ⊢
    generalize max x.1 y.1 = z1 at c1 ⊢
    refine wk [] [] (an @exVCG4 (an mE c1)) ?_
    refine Run_loop (ι := Option Bool) (fun i => match i with
     | none => ([(0, .ptr 0 0 0 1), (2, .ptr 4 0 0 1), (3, .bool false), (4, .ptr 5 0 0 1), (9, .int .i64 z2), (63, .own 1 0 2 2 1 none), (64, .int .i64 2), (65, .int .i64 0)], [Mg 1 d, B2 2 3, Rg (s1).l (s1).d, Rg (t1).l (t1).d, ⟨true, false, true, false, 2, [[.int .i64 0, .int .i64 0]], some 0⟩, ⟨true, false, true, false, 2, [[.int .i64 z1, .int .i64 z2]], some 0⟩])
     | some false => ([(0, .ptr 0 0 0 1), (2, .ptr 4 0 0 1), (3, .bool false), (4, .ptr 5 0 0 1), (9, .int .i64 z2), (63, .own 1 0 2 2 1 none), (64, .int .i64 2), (65, .int .i64 1)], [Mg 1 d, B2 2 3, Rg (s2).l (s2).d, Rg (t1).l (t1).d, ⟨true, false, true, false, 2, [[.int .i64 0, .int .i64 0]], some 0⟩, ⟨true, false, true, false, 2, [[.int .i64 z1, .int .i64 z2]], some 0⟩])
     | some true => ([(0, .ptr 0 0 0 1), (2, .ptr 4 0 0 1), (3, .bool false), (4, .ptr 5 0 0 1), (9, .int .i64 z2), (63, .own 1 0 2 2 1 none), (64, .int .i64 2), (65, .int .i64 2)], [Mg 1 d, B2 2 3, Rg (s2).l (s2).d, Rg (t2).l (t2).d, ⟨true, false, true, false, 2, [[.int .i64 0, .int .i64 0]], some 0⟩, ⟨true, false, true, false, 2, [[.int .i64 z1, .int .i64 z2]], some 0⟩])) (fun i => match i with | none => 2 | some false => 1 | some true => 0) none ?_ ?_
    ·dsimp only
     exact gcw [0, 1, 2, 3, 4, 5] @exVCG4
    rintro (_ | _ | _) hk
    ·dsimp only at hk ⊢
     refine wk [16] [] @exVCG4 ?_
     refine hk (some false) _ _ (by decide) ?_
     dsimp only
     exact gcw [0, 1, 2, 3, 4, 5] @exVCG4
    ·dsimp only at hk ⊢
     refine wk [16] [] @exVCG4 ?_
     refine hk (some true) _ _ (by decide) ?_
     dsimp only
     exact gcw [0, 1, 2, 3, 4, 5] @exVCG4
    dsimp only at hk ⊢
    refine wk [] [] (an @exVCG4 c1) ?_
    exact rtw [0, 1, 2, 3] @exVCG4
   ·rw [if_neg hz] at hm0
    have c1 : (max x.1 y.1 < min x.2 y.2) = False := by simpa using hz
    have sk1 := skipB_R s1 (max x.1 y.1)
    have sk2 := skipB_R t1 (max x.1 y.1)
    obtain ⟨so1, so2⟩ := rowStm.sk_ok s1 (max x.1 y.1) po1
    obtain ⟨to1, to2⟩ := rowStm.sk_ok t1 (max x.1 y.1) qo1
    have g1 := RF_s (max x.1 y.1) s1 f1
    have g2 := RF_s (max x.1 y.1) t1 f2
    have hlen : (rowStm.rem (rowStm.sk (max x.1 y.1) s1)).length + (rowStm.rem (rowStm.sk (max x.1 y.1) t1)).length < n := by
     rw [so2, to2, po2, qo2]
     rw [hx] at po3
     rw [hy] at qo3
     cases hl : rowStm.rem s with
     | nil => rw [hl] at po3; cases po3
     | cons x' l =>
      cases hl' : rowStm.rem t with
      | nil => rw [hl'] at qo3; cases qo3
      | cons y' k =>
       rw [hl] at po3 hp4 hcs
       rw [hl'] at qo3 hp4 hct
       obtain rfl : x = x' := by simpa using po3
       obtain rfl : y = y' := by simpa using qo3
       exact meet_less hcs hct hz (by simpa using hp4)
    generalize rowStm.sk (max x.1 y.1) s1 = s2 at sk1 so1 g1 hlen hm0
    generalize rowStm.sk (max x.1 y.1) t1 = t2 at sk2 to1 g2 hlen hm0
    have e3 : max (min x.2 y.2) (max x.1 y.1) = max x.1 y.1 := by omega
    generalize min x.2 y.2 = z2 at c1 e3 ⊢
    generalize max x.1 y.1 = z1 at c1 e3 sk1 sk2 ⊢
    refine wk [] [] (an @exVCG4 (an mE (an c1 e3))) ?_
    refine Run_loop (ι := Option Bool) (fun i => match i with
     | none => ([(0, .ptr 0 0 0 1), (2, .ptr 4 0 0 1), (3, .bool false), (4, .ptr 5 0 0 1), (9, .int .i64 z1), (63, .own 1 0 2 2 1 none), (64, .int .i64 2), (65, .int .i64 0)], [Mg 1 d, B2 2 3, Rg (s1).l (s1).d, Rg (t1).l (t1).d, ⟨true, false, true, false, 2, [[.int .i64 0, .int .i64 0]], some 0⟩, ⟨true, false, true, false, 2, [[.int .i64 z1, .int .i64 z2]], some 0⟩])
     | some false => ([(0, .ptr 0 0 0 1), (2, .ptr 4 0 0 1), (3, .bool false), (4, .ptr 5 0 0 1), (9, .int .i64 z1), (63, .own 1 0 2 2 1 none), (64, .int .i64 2), (65, .int .i64 1)], [Mg 1 d, B2 2 3, Rg (s2).l (s2).d, Rg (t1).l (t1).d, ⟨true, false, true, false, 2, [[.int .i64 0, .int .i64 0]], some 0⟩, ⟨true, false, true, false, 2, [[.int .i64 z1, .int .i64 z2]], some 0⟩])
     | some true => ([(0, .ptr 0 0 0 1), (2, .ptr 4 0 0 1), (3, .bool false), (4, .ptr 5 0 0 1), (9, .int .i64 z1), (63, .own 1 0 2 2 1 none), (64, .int .i64 2), (65, .int .i64 2)], [Mg 1 d, B2 2 3, Rg (s2).l (s2).d, Rg (t2).l (t2).d, ⟨true, false, true, false, 2, [[.int .i64 0, .int .i64 0]], some 0⟩, ⟨true, false, true, false, 2, [[.int .i64 z1, .int .i64 z2]], some 0⟩])) (fun i => match i with | none => 2 | some false => 1 | some true => 0) none ?_ ?_
    ·dsimp only
     exact gcw [0, 1, 2, 3, 4, 5] @exVCG4
    rintro (_ | _ | _) hk
    ·dsimp only at hk ⊢
     refine wk [16] [] @exVCG4 ?_
     refine hk (some false) _ _ (by decide) ?_
     dsimp only
     exact gcw [0, 1, 2, 3, 4, 5] @exVCG4
    ·dsimp only at hk ⊢
     refine wk [16] [] @exVCG4 ?_
     refine hk (some true) _ _ (by decide) ?_
     dsimp only
     exact gcw [0, 1, 2, 3, 4, 5] @exVCG4
    dsimp only at hk ⊢
    refine wk [] [] (an @exVCG4 c1) ?_
    refine hk0 ⟨(n, s2, t2), by rw [← hp1, hm0], ⟨so1, to1⟩, ⟨g1, g2⟩, hlen⟩ _ _ (by simp) ?_
    dsimp only
    exact gcw [0, 1, 2, 3, 4] @exVCG4
end Go.Proofs.Ytggchhmgeafoaaa

namespace Go.Proofs.Ytggchhmgeafoaaa
open Go Go.Vi
theorem exVCG5 : type_of% @rowsS_len := @rowsS_len
theorem nextM_p (g : MS RS RS) (ho : rowStm.ok g.s ∧ rowStm.ok g.t) (hl : RF g.s ∧ RF g.t) :
  CallG Try.prog 38 [.ptr 0 0 0 1] [Mg 1 (g).d, B2 2 3, Rg ((g).s).l ((g).s).d, Rg ((g).t).l ((g).t).d] (ansO (g.nx0 rowStm rowStm).1) [Mg 1 g.d, B2 2 3, Rg ((g.nx0 rowStm rowStm).2.1).l ((g.nx0 rowStm rowStm).2.1).d, Rg ((g.nx0 rowStm rowStm).2.2).l ((g.nx0 rowStm rowStm).2.2).d] := by
 refine callG Try.func38 low38 (by simp [c38]) ?_
 simp only [c38]
 have hr := ofM_p g.d ((rowStm.rem g.s).length + (rowStm.rem g.t).length + 1) g.s g.t ho.1 ho.2 hl.1 hl.2 (Nat.lt_succ_self _)
 obtain ⟨s, t, d⟩ := g
 unfold MS.nx0
 dsimp only at hr ⊢
 generalize mnx rowStm rowStm ((rowStm.rem s).length + (rowStm.rem t).length + 1) s t = r at hr ⊢
 obtain ⟨x, s', t'⟩ := r
 dsimp only at hr ⊢
 cases x with
 | none =>
  simp only [ansO] at hr ⊢
  refine wk [49] [] @exVCG5 ?_
  exact rtw [0, 1, 2, 3] @exVCG5
 | some y =>
  simp only [ansO] at hr ⊢
  refine wk [49] [] @exVCG5 ?_
  exact rtw [0, 1, 2, 3] @exVCG5
theorem ansM_n {g : MS RS RS} (h : g.d.has = false) : (meetStm rowStm rowStm).ans g = none := by
 show (if g.d.has = true then _ else _) = _
 rw [h]; rfl
theorem ansM_y {g : MS RS RS} (h : g.d.has = true) : (meetStm rowStm rowStm).ans g = some g.d.h := by
 show (if g.d.has = true then _ else _) = _
 rw [h]; rfl
set_option maxHeartbeats 8000000 in
theorem peekM_p (g0 : MS RS RS) (ho0 : (meetStm rowStm rowStm).ok g0) (hl0 : RF g0.s ∧ RF g0.t) :
  CallG Try.prog 24 [.ptr 0 0 0 1] [Mg 1 (g0).d, B2 2 3, Rg ((g0).s).l ((g0).s).d, Rg ((g0).t).l ((g0).t).d] (ansO ((meetStm rowStm rowStm).ans ((meetStm rowStm rowStm).pk g0))) [Mg 1 (((meetStm rowStm rowStm).pk g0)).d, B2 2 3, Rg ((((meetStm rowStm rowStm).pk g0)).s).l ((((meetStm rowStm rowStm).pk g0)).s).d, Rg ((((meetStm rowStm rowStm).pk g0)).t).l ((((meetStm rowStm rowStm).pk g0)).t).d] := by
 refine callG Try.func24 low24 (by simp [c24]) ?_
 simp only [c24]
 have mE := mxE
 refine wk [] [] @exVCG5 ?_
 refine Run_loop (ι := {p : Nat × MS RS RS // mpk rowStm rowStm p.1 p.2 = (meetStm rowStm rowStm).pk g0 ∧ MS.ok rowStm rowStm p.2 ∧ (RF p.2.s ∧ RF p.2.t) ∧ (p.2.d.has = false → (p.2.l rowStm rowStm).length < p.1) ∧ 0 < p.1}) (fun p => ([(0, .ptr 0 0 0 1), (2, .ptr 4 0 0 1), (3, .bool false)], [Mg 1 (p.1.2).d, B2 2 3, Rg ((p.1.2).s).l ((p.1.2).s).d, Rg ((p.1.2).t).l ((p.1.2).t).d, ⟨true, false, true, false, 2, [[.int .i64 0, .int .i64 0]], some 0⟩])) (fun p => p.1.1) ⟨((g0.l rowStm rowStm).length + 1, g0), rfl, ho0, hl0, fun _ => Nat.lt_succ_self _, Nat.succ_pos _⟩ ?_ ?_
 ·exact gcw [0, 1, 2, 3, 4] @exVCG5
 rintro ⟨⟨n, s, t, h, has, k⟩, hp1, ⟨hp2, hp2'⟩, hp3, hp4, hp5⟩ hk
 dsimp only at hp1 hp2 hp2' hp3 hp4 hp5 hk ⊢
 obtain ⟨n, rfl⟩ : ∃ m, n = m + 1 := ⟨n - 1, by omega⟩
 cases has with
 | true =>
  have e : mpk rowStm rowStm (n + 1) ⟨s, t, h, true, k⟩ = ⟨s, t, h, true, k⟩ := by unfold mpk; rfl
  rw [← hp1, e, ansM_y rfl]
  dsimp only
  simp only [ansO]
  refine wk [] [] @exVCG5 ?_
  exact rtw [0, 1, 2, 3] @exVCG5
 | false =>
  have hr := nextM_p ⟨s, t, h, false, k⟩ hp2 hp3
  obtain ⟨a1, a2, a3⟩ := mx0_ok rowStm rowStm (g := ⟨s, t, h, false, k⟩) hp2.1 hp2.2
  have e : mpk rowStm rowStm (n + 1) ⟨s, t, h, false, k⟩ = (match (MS.nx0 rowStm rowStm ⟨s, t, h, false, k⟩).1 with
   | none => ⟨(MS.nx0 rowStm rowStm ⟨s, t, h, false, k⟩).2.1, (MS.nx0 rowStm rowStm ⟨s, t, h, false, k⟩).2.2, h, false, k⟩
   | some x => mpk rowStm rowStm n ⟨(MS.nx0 rowStm rowStm ⟨s, t, h, false, k⟩).2.1, (MS.nx0 rowStm rowStm ⟨s, t, h, false, k⟩).2.2, Hd.take ⟨h, false, k⟩ x⟩) := by rw [mpk]; rfl
  have hl' := hp4 rfl
  have kp : RF (MS.nx0 rowStm rowStm ⟨s, t, h, false, k⟩).2.1 ∧ RF (MS.nx0 rowStm rowStm ⟨s, t, h, false, k⟩).2.2 := mnx_keep rowStm rowStm RF RF RF_s RF_p RF_s RF_p _ _ _ hp3.1 hp3.2
  generalize MS.nx0 rowStm rowStm ⟨s, t, h, false, k⟩ = r at hr a1 a2 a3 e kp
  obtain ⟨x, s', t'⟩ := r
  dsimp only at hr a1 a2 a3 e kp
  cases x with
  | none =>
   dsimp only at e
   rw [← hp1, e, ansM_n rfl]
   simp only [ansO] at hr ⊢
   refine wk [38] [] @exVCG5 ?_
   exact rtw [0, 1, 2, 3] @exVCG5
  | some y =>
   dsimp only at e
   simp only [ansO] at hr
   have hcan : Vi.Can (y :: meetL rowStm rowStm s' t') := by
    have := (meet_can (rowStm.can s hp2.1) (rowStm.can t hp2.2)).1
    have e2 : meetS (rowStm.rem s) (rowStm.rem t) = y :: meetL rowStm rowStm s' t' := a2
    rw [e2] at this
    exact this
   obtain ⟨t1, _⟩ := Hd.take_ok (d := ⟨h, false, k⟩) (x := y) rfl hcan
   rw [a2] at hl'
   have hln : (meetL rowStm rowStm s' t').length < n := by
    simp only [Option.toList_some, List.singleton_append, List.length_cons] at hl'
    omega
   by_cases hc : max y.1 k < y.2
   ·have c1 : (max y.1 k < y.2) = True := by simpa using hc
    have et : Hd.take ⟨h, false, k⟩ y = ⟨(max y.1 k, y.2), true, k⟩ := by simp [Hd.take, hc]
    rw [et] at e t1
    refine wk [38] [] (an @exVCG5 (an mE c1)) ?_
    refine hk ⟨(n, ⟨s', t', ⟨(max y.1 k, y.2), true, k⟩⟩), by rw [← hp1, e], ⟨a1, t1⟩, kp, fun _ => hln, by omega⟩ _ _ (by simp) ?_
    dsimp only
    exact gcw [0, 1, 2, 3, 4] @exVCG5
   ·have c1 : (max y.1 k < y.2) = False := by simpa using hc
    have et : Hd.take ⟨h, false, k⟩ y = ⟨(max y.1 k, y.2), false, k⟩ := by simp [Hd.take, hc]
    rw [et] at e t1
    refine wk [38] [] (an @exVCG5 (an mE c1)) ?_
    refine hk ⟨(n, ⟨s', t', ⟨(max y.1 k, y.2), false, k⟩⟩), by rw [← hp1, e], ⟨a1, t1⟩, kp, fun _ => hln, by omega⟩ _ _ (by simp) ?_
    dsimp only
    exact gcw [0, 1, 2, 3, 4] @exVCG5
theorem keepM_p (g : MS RS RS) (h : RF g.s ∧ RF g.t) : RF ((meetStm rowStm rowStm).pk g).s ∧ RF ((meetStm rowStm rowStm).pk g).t := mpk_keep rowStm rowStm RF RF RF_s RF_p RF_s RF_p _ _ h.1 h.2
end Go.Proofs.Ytggchhmgeafoaaa

namespace Go.Proofs.Ytggchhmgeafoaaa
open Go Go.Vi
theorem exVCG6 : type_of% @rowsS_len := @rowsS_len
theorem NextG_p (g : GS RS) (ho : (gapStm rowStm).ok g) (hl : (g).t.l.length ≤ 400000000000) :
  CallG Try.prog 18 [.ptr 0 0 0 1] [Gg 1 (g).a (g).b (g).d, Bo 2, Rg ((g).t).l ((g).t).d] (ansO (((gapStm rowStm).rem g).head?)) [Gg 1 (((gapStm rowStm).nx g)).a (((gapStm rowStm).nx g)).b (((gapStm rowStm).nx g)).d, Bo 2, Rg ((((gapStm rowStm).nx g)).t).l ((((gapStm rowStm).nx g)).t).d] := by
 refine callG Try.func18 low18 (by simp [c18]) ?_
 have hr := peekG_p g ho hl
 have hx : (gapStm rowStm).ans ((gapStm rowStm).pk g) = ((gapStm rowStm).rem g).head? := ((gapStm rowStm).pk_ok g ho).2.2
 have en : (gapStm rowStm).nx g = ⟨((gapStm rowStm).pk g).a, ((gapStm rowStm).pk g).b, ((gapStm rowStm).pk g).t, { ((gapStm rowStm).pk g).d with has := false }⟩ := rfl
 rw [en]
 rw [← hx]
 generalize (gapStm rowStm).pk g = u at hr ⊢
 obtain ⟨a, b, t, h, has, k⟩ := u
 simp only [c18]
 dsimp only at hr ⊢
 cases has with
 | true =>
  rw [ansG_y rfl] at hr ⊢
  simp only [ansO] at hr ⊢
  refine wk [24] [] @exVCG6 ?_
  exact rtw [0, 1, 2] @exVCG6
 | false =>
  rw [ansG_n rfl] at hr ⊢
  simp only [ansO] at hr ⊢
  refine wk [24] [] @exVCG6 ?_
  exact rtw [0, 1, 2] @exVCG6
theorem keepIG (g : GS RS) (h : (g).t.l.length ≤ 400000000000) : ∀ n : Nat, ((sIt (gapStm rowStm) n g)).t.l.length ≤ 400000000000
 | 0 => h
 | n + 1 => keepG_p _ (keepIG g h n)
set_option maxHeartbeats 4000000 in
theorem allG_p (g : GS RS) (L : List Sp) (ho : (gapStm rowStm).ok g) (hl : (g).t.l.length ≤ 400000000000) (hL : (gapStm rowStm).rem g = L) (hn : L.length ≤ 1000000) :
  CallG Try.prog 9 [.ptr 0 0 0 1] [Gg 1 (g).a (g).b (g).d, Bo 2, Rg ((g).t).l ((g).t).d] (LS L) [Gg 1 ((sIt (gapStm rowStm) (L.length + 1) g)).a ((sIt (gapStm rowStm) (L.length + 1) g)).b ((sIt (gapStm rowStm) (L.length + 1) g)).d, Bo 2, Rg (((sIt (gapStm rowStm) (L.length + 1) g)).t).l (((sIt (gapStm rowStm) (L.length + 1) g)).t).d] := by
 refine callG Try.func9 low9 (by simp [c9]) ?_
 simp only [c9]
 have hok := sIt_ok (gapStm rowStm) g ho
 rw [hL] at hok
 have hkp := keepIG g hl
 refine wk [] [] @exVCG6 ?_
 refine Run_ent (Ent_acc (t := 3) (b := true) 2 true (by decide) rfl) ?_
 refine Run_loop (ι := {i : Nat // i ≤ L.length}) (fun i => ([(0, .ptr 0 0 0 1), (3, .own 3 0 (L.take i.1).length (L.take i.1).length 2 none)], [Gg 1 ((sIt (gapStm rowStm) i.1 g)).a ((sIt (gapStm rowStm) i.1 g)).b ((sIt (gapStm rowStm) i.1 g)).d, Bo 2, Rg (((sIt (gapStm rowStm) i.1 g)).t).l (((sIt (gapStm rowStm) i.1 g)).t).d, acc true 2 true (rowsS (L.take i.1))])) (fun i => L.length - i.1) ⟨0, by omega⟩ ?_ ?_
 ·simp only [List.take_zero, show rowsS [] = [] from rfl, List.length_nil, show sIt (gapStm rowStm) 0 g = g from rfl]
  exact gcw [0, 1, 2, 3] @exVCG6
 rintro ⟨i, hi⟩ hk
 dsimp only at hk ⊢
 obtain ⟨o1, o2⟩ := hok i
 have hnx := NextG_p (sIt (gapStm rowStm) i g) o1 (hkp i)
 rw [o2] at hnx
 have esn : (gapStm rowStm).nx (sIt (gapStm rowStm) i g) = sIt (gapStm rowStm) (i + 1) g := rfl
 rw [esn] at hnx
 have hln : (L.take i).length = i := by rw [List.length_take]; omega
 rw [hln]
 by_cases hlt : i < L.length
 ·obtain ⟨y, hy⟩ : ∃ y, L[i]? = some y := ⟨_, List.getElem?_eq_getElem hlt⟩
  have e0 : L.drop i = y :: L.drop (i + 1) := by
   rw [List.drop_eq_getElem_cons hlt]
   rw [List.getElem?_eq_getElem hlt] at hy; cases hy; rfl
  have e2 : L.take (i + 1) = L.take i ++ [y] := by rw [List.take_add_one, hy]; rfl
  have hu : rowsS (L.take i) ++ [[D.int .i64 y.1, D.int .i64 y.2]] = rowsS (L.take (i + 1)) := by rw [e2]; simp [rowsS]
  rw [e0, List.head?_cons] at hnx
  simp only [ansO] at hnx
  refine wk [18] [] (an @exVCG6 (an hln hu)) ?_
  refine hk ⟨i + 1, by omega⟩ _ _ (by dsimp only; omega) ?_
  have hln' : (L.take (i + 1)).length = i + 1 := by rw [List.length_take]; omega
  dsimp only
  rw [hln']
  exact gcw [0, 1, 2, 3] @exVCG6
 ·obtain rfl : i = L.length := by omega
  rw [List.drop_length, List.head?_nil] at hnx
  simp only [ansO] at hnx
  rw [List.take_length]
  refine wk [18] [] @exVCG6 ?_
  exact rtw [0, 1, 2] @exVCG6
theorem NextH_p (g : GS (GS RS)) (ho : (gapStm (gapStm rowStm)).ok g) (hl : (g).t.t.l.length ≤ 400000000000) :
  CallG Try.prog 18 [.ptr 0 0 0 1] [Gg 1 (g).a (g).b (g).d, Bo 2, Gg 3 (g).t.a (g).t.b (g).t.d, Bo 4, Rg (g).t.t.l (g).t.t.d] (ansO (((gapStm (gapStm rowStm)).rem g).head?)) [Gg 1 (((gapStm (gapStm rowStm)).nx g)).a (((gapStm (gapStm rowStm)).nx g)).b (((gapStm (gapStm rowStm)).nx g)).d, Bo 2, Gg 3 (((gapStm (gapStm rowStm)).nx g)).t.a (((gapStm (gapStm rowStm)).nx g)).t.b (((gapStm (gapStm rowStm)).nx g)).t.d, Bo 4, Rg (((gapStm (gapStm rowStm)).nx g)).t.t.l (((gapStm (gapStm rowStm)).nx g)).t.t.d] := by
 refine callG Try.func18 low18 (by simp [c18]) ?_
 have hr := peekH_p g ho hl
 have hx : (gapStm (gapStm rowStm)).ans ((gapStm (gapStm rowStm)).pk g) = ((gapStm (gapStm rowStm)).rem g).head? := ((gapStm (gapStm rowStm)).pk_ok g ho).2.2
 have en : (gapStm (gapStm rowStm)).nx g = ⟨((gapStm (gapStm rowStm)).pk g).a, ((gapStm (gapStm rowStm)).pk g).b, ((gapStm (gapStm rowStm)).pk g).t, { ((gapStm (gapStm rowStm)).pk g).d with has := false }⟩ := rfl
 rw [en]
 rw [← hx]
 generalize (gapStm (gapStm rowStm)).pk g = u at hr ⊢
 obtain ⟨a, b, t, h, has, k⟩ := u
 simp only [c18]
 dsimp only at hr ⊢
 cases has with
 | true =>
  rw [ansH_y rfl] at hr ⊢
  simp only [ansO] at hr ⊢
  refine wk [24] [] @exVCG6 ?_
  exact rtw [0, 1, 2, 3, 4] @exVCG6
 | false =>
  rw [ansH_n rfl] at hr ⊢
  simp only [ansO] at hr ⊢
  refine wk [24] [] @exVCG6 ?_
  exact rtw [0, 1, 2, 3, 4] @exVCG6
theorem keepIH (g : GS (GS RS)) (h : (g).t.t.l.length ≤ 400000000000) : ∀ n : Nat, ((sIt (gapStm (gapStm rowStm)) n g)).t.t.l.length ≤ 400000000000
 | 0 => h
 | n + 1 => keepH_p _ (keepIH g h n)
set_option maxHeartbeats 4000000 in
theorem allH_p (g : GS (GS RS)) (L : List Sp) (ho : (gapStm (gapStm rowStm)).ok g) (hl : (g).t.t.l.length ≤ 400000000000) (hL : (gapStm (gapStm rowStm)).rem g = L) (hn : L.length ≤ 1000000) :
  CallG Try.prog 9 [.ptr 0 0 0 1] [Gg 1 (g).a (g).b (g).d, Bo 2, Gg 3 (g).t.a (g).t.b (g).t.d, Bo 4, Rg (g).t.t.l (g).t.t.d] (LS L) [Gg 1 ((sIt (gapStm (gapStm rowStm)) (L.length + 1) g)).a ((sIt (gapStm (gapStm rowStm)) (L.length + 1) g)).b ((sIt (gapStm (gapStm rowStm)) (L.length + 1) g)).d, Bo 2, Gg 3 ((sIt (gapStm (gapStm rowStm)) (L.length + 1) g)).t.a ((sIt (gapStm (gapStm rowStm)) (L.length + 1) g)).t.b ((sIt (gapStm (gapStm rowStm)) (L.length + 1) g)).t.d, Bo 4, Rg ((sIt (gapStm (gapStm rowStm)) (L.length + 1) g)).t.t.l ((sIt (gapStm (gapStm rowStm)) (L.length + 1) g)).t.t.d] := by
 refine callG Try.func9 low9 (by simp [c9]) ?_
 simp only [c9]
 have hok := sIt_ok (gapStm (gapStm rowStm)) g ho
 rw [hL] at hok
 have hkp := keepIH g hl
 refine wk [] [] @exVCG6 ?_
 refine Run_ent (Ent_acc (t := 3) (b := true) 2 true (by decide) rfl) ?_
 refine Run_loop (ι := {i : Nat // i ≤ L.length}) (fun i => ([(0, .ptr 0 0 0 1), (3, .own 5 0 (L.take i.1).length (L.take i.1).length 2 none)], [Gg 1 ((sIt (gapStm (gapStm rowStm)) i.1 g)).a ((sIt (gapStm (gapStm rowStm)) i.1 g)).b ((sIt (gapStm (gapStm rowStm)) i.1 g)).d, Bo 2, Gg 3 ((sIt (gapStm (gapStm rowStm)) i.1 g)).t.a ((sIt (gapStm (gapStm rowStm)) i.1 g)).t.b ((sIt (gapStm (gapStm rowStm)) i.1 g)).t.d, Bo 4, Rg ((sIt (gapStm (gapStm rowStm)) i.1 g)).t.t.l ((sIt (gapStm (gapStm rowStm)) i.1 g)).t.t.d, acc true 2 true (rowsS (L.take i.1))])) (fun i => L.length - i.1) ⟨0, by omega⟩ ?_ ?_
 ·simp only [List.take_zero, show rowsS [] = [] from rfl, List.length_nil, show sIt (gapStm (gapStm rowStm)) 0 g = g from rfl]
  exact gcw [0, 1, 2, 3, 4, 5] @exVCG6
 rintro ⟨i, hi⟩ hk
 dsimp only at hk ⊢
 obtain ⟨o1, o2⟩ := hok i
 have hnx := NextH_p (sIt (gapStm (gapStm rowStm)) i g) o1 (hkp i)
 rw [o2] at hnx
 have esn : (gapStm (gapStm rowStm)).nx (sIt (gapStm (gapStm rowStm)) i g) = sIt (gapStm (gapStm rowStm)) (i + 1) g := rfl
 rw [esn] at hnx
 have hln : (L.take i).length = i := by rw [List.length_take]; omega
 rw [hln]
 by_cases hlt : i < L.length
 ·obtain ⟨y, hy⟩ : ∃ y, L[i]? = some y := ⟨_, List.getElem?_eq_getElem hlt⟩
  have e0 : L.drop i = y :: L.drop (i + 1) := by
   rw [List.drop_eq_getElem_cons hlt]
   rw [List.getElem?_eq_getElem hlt] at hy; cases hy; rfl
  have e2 : L.take (i + 1) = L.take i ++ [y] := by rw [List.take_add_one, hy]; rfl
  have hu : rowsS (L.take i) ++ [[D.int .i64 y.1, D.int .i64 y.2]] = rowsS (L.take (i + 1)) := by rw [e2]; simp [rowsS]
  rw [e0, List.head?_cons] at hnx
  simp only [ansO] at hnx
  refine wk [18] [] (an @exVCG6 (an hln hu)) ?_
  refine hk ⟨i + 1, by omega⟩ _ _ (by dsimp only; omega) ?_
  have hln' : (L.take (i + 1)).length = i + 1 := by rw [List.length_take]; omega
  dsimp only
  rw [hln']
  exact gcw [0, 1, 2, 3, 4, 5] @exVCG6
 ·obtain rfl : i = L.length := by omega
  rw [List.drop_length, List.head?_nil] at hnx
  simp only [ansO] at hnx
  rw [List.take_length]
  refine wk [18] [] @exVCG6 ?_
  exact rtw [0, 1, 2, 3, 4] @exVCG6
theorem NextM_p (g : MS RS RS) (ho : (meetStm rowStm rowStm).ok g) (hl : RF (g).s ∧ RF (g).t) :
  CallG Try.prog 18 [.ptr 0 0 0 1] [Mg 1 (g).d, B2 2 3, Rg ((g).s).l ((g).s).d, Rg ((g).t).l ((g).t).d] (ansO (((meetStm rowStm rowStm).rem g).head?)) [Mg 1 (((meetStm rowStm rowStm).nx g)).d, B2 2 3, Rg ((((meetStm rowStm rowStm).nx g)).s).l ((((meetStm rowStm rowStm).nx g)).s).d, Rg ((((meetStm rowStm rowStm).nx g)).t).l ((((meetStm rowStm rowStm).nx g)).t).d] := by
 refine callG Try.func18 low18 (by simp [c18]) ?_
 have hr := peekM_p g ho hl
 have hx : (meetStm rowStm rowStm).ans ((meetStm rowStm rowStm).pk g) = ((meetStm rowStm rowStm).rem g).head? := ((meetStm rowStm rowStm).pk_ok g ho).2.2
 have en : (meetStm rowStm rowStm).nx g = ⟨((meetStm rowStm rowStm).pk g).s, ((meetStm rowStm rowStm).pk g).t, { ((meetStm rowStm rowStm).pk g).d with has := false }⟩ := rfl
 rw [en]
 rw [← hx]
 generalize (meetStm rowStm rowStm).pk g = u at hr ⊢
 obtain ⟨s, t, h, has, k⟩ := u
 simp only [c18]
 dsimp only at hr ⊢
 cases has with
 | true =>
  rw [ansM_y rfl] at hr ⊢
  simp only [ansO] at hr ⊢
  refine wk [24] [] @exVCG6 ?_
  exact rtw [0, 1, 2, 3] @exVCG6
 | false =>
  rw [ansM_n rfl] at hr ⊢
  simp only [ansO] at hr ⊢
  refine wk [24] [] @exVCG6 ?_
  exact rtw [0, 1, 2, 3] @exVCG6
theorem keepIM (g : MS RS RS) (h : RF (g).s ∧ RF (g).t) : ∀ n : Nat, RF ((sIt (meetStm rowStm rowStm) n g)).s ∧ RF ((sIt (meetStm rowStm rowStm) n g)).t
 | 0 => h
 | n + 1 => keepM_p _ (keepIM g h n)
set_option maxHeartbeats 4000000 in
theorem allM_p (g : MS RS RS) (L : List Sp) (ho : (meetStm rowStm rowStm).ok g) (hl : RF (g).s ∧ RF (g).t) (hL : (meetStm rowStm rowStm).rem g = L) (hn : L.length ≤ 1000000) :
  CallG Try.prog 9 [.ptr 0 0 0 1] [Mg 1 (g).d, B2 2 3, Rg ((g).s).l ((g).s).d, Rg ((g).t).l ((g).t).d] (LS L) [Mg 1 ((sIt (meetStm rowStm rowStm) (L.length + 1) g)).d, B2 2 3, Rg (((sIt (meetStm rowStm rowStm) (L.length + 1) g)).s).l (((sIt (meetStm rowStm rowStm) (L.length + 1) g)).s).d, Rg (((sIt (meetStm rowStm rowStm) (L.length + 1) g)).t).l (((sIt (meetStm rowStm rowStm) (L.length + 1) g)).t).d] := by
 refine callG Try.func9 low9 (by simp [c9]) ?_
 simp only [c9]
 have hok := sIt_ok (meetStm rowStm rowStm) g ho
 rw [hL] at hok
 have hkp := keepIM g hl
 refine wk [] [] @exVCG6 ?_
 refine Run_ent (Ent_acc (t := 3) (b := true) 2 true (by decide) rfl) ?_
 refine Run_loop (ι := {i : Nat // i ≤ L.length}) (fun i => ([(0, .ptr 0 0 0 1), (3, .own 4 0 (L.take i.1).length (L.take i.1).length 2 none)], [Mg 1 ((sIt (meetStm rowStm rowStm) i.1 g)).d, B2 2 3, Rg (((sIt (meetStm rowStm rowStm) i.1 g)).s).l (((sIt (meetStm rowStm rowStm) i.1 g)).s).d, Rg (((sIt (meetStm rowStm rowStm) i.1 g)).t).l (((sIt (meetStm rowStm rowStm) i.1 g)).t).d, acc true 2 true (rowsS (L.take i.1))])) (fun i => L.length - i.1) ⟨0, by omega⟩ ?_ ?_
 ·simp only [List.take_zero, show rowsS [] = [] from rfl, List.length_nil, show sIt (meetStm rowStm rowStm) 0 g = g from rfl]
  exact gcw [0, 1, 2, 3, 4] @exVCG6
 rintro ⟨i, hi⟩ hk
 dsimp only at hk ⊢
 obtain ⟨o1, o2⟩ := hok i
 have hnx := NextM_p (sIt (meetStm rowStm rowStm) i g) o1 (hkp i)
 rw [o2] at hnx
 have esn : (meetStm rowStm rowStm).nx (sIt (meetStm rowStm rowStm) i g) = sIt (meetStm rowStm rowStm) (i + 1) g := rfl
 rw [esn] at hnx
 have hln : (L.take i).length = i := by rw [List.length_take]; omega
 rw [hln]
 by_cases hlt : i < L.length
 ·obtain ⟨y, hy⟩ : ∃ y, L[i]? = some y := ⟨_, List.getElem?_eq_getElem hlt⟩
  have e0 : L.drop i = y :: L.drop (i + 1) := by
   rw [List.drop_eq_getElem_cons hlt]
   rw [List.getElem?_eq_getElem hlt] at hy; cases hy; rfl
  have e2 : L.take (i + 1) = L.take i ++ [y] := by rw [List.take_add_one, hy]; rfl
  have hu : rowsS (L.take i) ++ [[D.int .i64 y.1, D.int .i64 y.2]] = rowsS (L.take (i + 1)) := by rw [e2]; simp [rowsS]
  rw [e0, List.head?_cons] at hnx
  simp only [ansO] at hnx
  refine wk [18] [] (an @exVCG6 (an hln hu)) ?_
  refine hk ⟨i + 1, by omega⟩ _ _ (by dsimp only; omega) ?_
  have hln' : (L.take (i + 1)).length = i + 1 := by rw [List.length_take]; omega
  dsimp only
  rw [hln']
  exact gcw [0, 1, 2, 3, 4] @exVCG6
 ·obtain rfl : i = L.length := by omega
  rw [List.drop_length, List.head?_nil] at hnx
  simp only [ansO] at hnx
  rw [List.take_length]
  refine wk [18] [] @exVCG6 ?_
  exact rtw [0, 1, 2, 3] @exVCG6
end Go.Proofs.Ytggchhmgeafoaaa

namespace Go.Proofs.Ytggchhmgeafoaaa
open Go Go.Vi
abbrev d0 : Hd := ⟨(0, 0), false, -9223372036854775808⟩
theorem exVCG7 : type_of% @rowsS_len := @rowsS_len
theorem made0_p : CallG Try.prog 22 [.int .i64 0, .list (some true) true []] [] (.ptr 0 0 0 1) [⟨true, false, true, false, 12, [[.int .i64 0, .nilp, .list (some true) true [], .list (some true) true [], .int .i64 0, .int .i64 0, .int .i64 0, .int .i64 0, .int .i64 0, .int .i64 0, .bool false, .int .i64 (-9223372036854775808)]], some 0⟩] := by
 refine callG Try.func22 low22 (by simp [c22]) ?_
 simp only [c22]
 refine wk [] [] @exVCG7 ?_
 exact rtw [0] @exVCG7
theorem row_p (nl : Option Bool) (tg : Bool) (l : List Sp) (hl : l.length ≤ 400000000000) : CallG Try.prog 11 [.nilp, .list nl tg (rowsS l)] [] (.ptr 0 0 0 1) [Rg (frm l) d0] := by
 refine callG Try.func11 low11 (by simp [c11]) ?_
 simp only [c11]
 have hf := frmP l hl
 have h0 := made0_p
 generalize frm l = F at hf ⊢
 refine wk [22] [] @exVCG7 ?_
 exact rtw [0] @exVCG7
theorem made3R_p (l : List Sp) (d : Hd) : CallG Try.prog 22 [.int .i64 3, .own 0 0 1 1 1 none] [Bo 1, Rg l d] (.ptr 2 0 0 1) [Bo 1, Rg l d, Gg 0 0 0 d0] := by
 refine callG Try.func22 low22 (by simp [c22]) ?_
 simp only [c22]
 refine wk [] [] @exVCG7 ?_
 exact rtw [0, 1, 2] @exVCG7
theorem gapsR_p (l : List Sp) (d : Hd) (a b : Int) : CallG Try.prog 10 [.ptr 0 0 0 1, .agg [.int .i64 a, .int .i64 b]] [Rg l d] (.ptr 2 0 0 1) [Rg l d, Bo 0, Gg 1 a b d0] := by
 refine callG Try.func10 low10 (by simp [c10]) ?_
 simp only [c10]
 have hm := made3R_p l d
 refine wk [22] [] @exVCG7 ?_
 exact rtw [0, 2, 3] @exVCG7
theorem made3G_p (a b : Int) (e : Hd) (l : List Sp) (d : Hd) : CallG Try.prog 22 [.int .i64 3, .own 0 0 1 1 1 none] [Bo 1, Gg 2 a b e, Bo 3, Rg l d] (.ptr 4 0 0 1) [Bo 1, Gg 2 a b e, Bo 3, Rg l d, Gg 0 0 0 d0] := by
 refine callG Try.func22 low22 (by simp [c22]) ?_
 simp only [c22]
 refine wk [] [] @exVCG7 ?_
 exact rtw [0, 1, 2, 3, 4] @exVCG7
theorem gapsG_p (a b : Int) (e : Hd) (l : List Sp) (d : Hd) (a' b' : Int) : CallG Try.prog 10 [.ptr 0 0 0 1, .agg [.int .i64 a', .int .i64 b']] [Gg 1 a b e, Bo 2, Rg l d] (.ptr 4 0 0 1) [Gg 1 a b e, Bo 2, Rg l d, Bo 0, Gg 3 a' b' d0] := by
 refine callG Try.func10 low10 (by simp [c10]) ?_
 simp only [c10]
 have hm := made3G_p a b e l d
 refine wk [22] [] @exVCG7 ?_
 exact rtw [0, 1, 2, 4, 5] @exVCG7
theorem made2_p (l : List Sp) (d : Hd) (k : List Sp) (e : Hd) : CallG Try.prog 22 [.int .i64 2, .own 0 0 2 2 1 none] [B2 1 2, Rg l d, Rg k e] (.ptr 3 0 0 1) [B2 1 2, Rg l d, Rg k e, Mg 0 d0] := by
 refine callG Try.func22 low22 (by simp [c22]) ?_
 simp only [c22]
 refine wk [] [] @exVCG7 ?_
 exact rtw [0, 1, 2, 3] @exVCG7
theorem meet_p (l : List Sp) (d : Hd) (k : List Sp) (e : Hd) : CallG Try.prog 12 [.own 0 0 2 2 1 none] [B2 1 2, Rg l d, Rg k e] (.ptr 3 0 0 1) [B2 1 2, Rg l d, Rg k e, Mg 0 d0] := by
 refine callG Try.func12 low12 (by simp [c12]) ?_
 simp only [c12]
 have hm := made2_p l d k e
 refine wk [22] [] @exVCG7 ?_
 exact rtw [0, 1, 2, 3] @exVCG7
end Go.Proofs.Ytggchhmgeafoaaa

namespace Go.Proofs.Ytggchhmgeafoaaa
open Go Go.Vi
theorem b2 {x y : Int × Int} : ((x.1 == y.1) && (x.2 == y.2)) = decide (x = y) := by
 rw [Bool.eq_iff_iff]; simp [Prod.ext_iff]
theorem eq_end {α : Type} [DecidableEq α] {a b : List α} {i : Nat} (h : a.take i = b.take i) (hi : ¬ i < a.length) (hl : a.length = b.length) : decide (a = b) = true := by
 rw [List.take_of_length_le (by omega), List.take_of_length_le (by omega)] at h
 simpa using h
theorem eq_step {α : Type} {a b : List α} {i : Nat} {x y : α} (h : a.take i = b.take i) (hx : a[i]? = some x) (hy : b[i]? = some y) (hxy : x = y) : a.take (i + 1) = b.take (i + 1) := by
 rw [List.take_add_one, List.take_add_one, h, hx, hy, hxy]
theorem eq_no {α : Type} [DecidableEq α] {a b : List α} {i : Nat} {x y : α} (hx : a[i]? = some x) (hy : b[i]? = some y) (hxy : ¬ x = y) : decide (a = b) = false := by
 simp only [decide_eq_false_iff_not]
 rintro rfl
 rw [hx] at hy
 exact hxy (by simpa using hy)
theorem eq_len {α : Type} [DecidableEq α] {a b : List α} (h : ¬ a.length = b.length) : decide (a = b) = false := by
 simp only [decide_eq_false_iff_not]
 rintro rfl
 exact h rfl
theorem lenB {a b : Nat} (h : ¬ a = b) : ((a : Int) == (b : Int)) = false := by simp; omega
theorem exVCG8 : type_of% @rowsS_len := @rowsS_len
theorem Same_p (a b : List Sp) (ha : a.length ≤ 400000000000) (hb : b.length ≤ 400000000000) : PureD Try.prog 13 [LS a, LS b] (.bool (decide (a = b))) := by
 refine pureV Try.func13 low13 (by simp [c13]) ?_
 simp only [c13]
 by_cases hl : ¬ a.length = b.length
 ·have c1 := lenB hl
  rw [eq_len hl]
  exact wk0 [] [] (an @exVCG8 c1)
 have hl : a.length = b.length := by omega
 have c1 : ((a.length : Int) == (b.length : Int)) = true := by simp [hl]
 refine wk [] [] (an @exVCG8 c1) ?_
 refine Run_loop (ι := {i : Nat // i ≤ a.length ∧ a.take i = b.take i}) (fun i => ([(0, LS a), (1, LS b), (12, .int .i64 a.length), (13, .int .i64 i.1)], [])) (fun i => a.length - i.1) ⟨0, by simp⟩ ?_ ?_
 ·exact gcw [] @exVCG8
 rintro ⟨i, hi, ht⟩ hk
 dsimp only at hk ⊢
 by_cases hlt : i < a.length
 ·have c2 : ((i : Int) < (a.length : Int)) = True := by simp; omega
  obtain ⟨x, hx⟩ : ∃ x, a[i]? = some x := ⟨_, List.getElem?_eq_getElem hlt⟩
  obtain ⟨y, hy⟩ : ∃ y, b[i]? = some y := ⟨_, List.getElem?_eq_getElem (by omega)⟩
  have rx := rowsS_get hx
  have ry := rowsS_get hy
  have e3 := b2 (x := x) (y := y)
  by_cases hxy : x = y
  ·have c3 : decide (x = y) = true := by simpa using hxy
   refine wk [] [] (an @exVCG8 (an c2 (an e3 (an c3 (an rx ry))))) ?_
   refine hk ⟨i + 1, by omega, eq_step ht hx hy hxy⟩ _ _ (by dsimp only; omega) ?_
   dsimp only
   exact gcw [] @exVCG8
  ·have c3 : decide (x = y) = false := by simpa using hxy
   rw [eq_no hx hy hxy]
   exact wk0 [] [] (an @exVCG8 (an c2 (an e3 (an c3 (an rx ry)))))
 ·have c2 : ((i : Int) < (a.length : Int)) = False := by simp; omega
  rw [eq_end ht hlt hl]
  exact wk0 [] [] (an @exVCG8 c2)
theorem gtT {a b : Nat} (h : a > b) : ((a : Int) > (b : Int)) = True := by rw [eq_iff_iff]; exact ⟨fun _ => trivial, fun _ => by omega⟩
theorem gtF {a b : Nat} (h : ¬ a > b) : ((a : Int) > (b : Int)) = False := by rw [eq_iff_iff]; exact ⟨fun h => by omega, fun h => h.elim⟩
theorem frm_one (w : Sp) : frm [w] = if w.1 < w.2 then [w] else [] := by
 refine can_unique _ _ (frm_spec _).1 ?_ fun m => ?_
 ·split
  ·rename_i h
   exact ⟨by simp, by simpa using h⟩
  ·exact ⟨by simp, by simp⟩
 ·rw [(frm_spec _).2]
  split
  ·rfl
  ·rename_i h
   rw [hasS_nil, Bool.eq_false_iff]
   intro hc
   obtain ⟨s, hs, h1, h2⟩ := hasS_iff.1 hc
   obtain rfl : s = w := by simpa using hs
   omega
theorem rem0 {X : List Sp} (hc : Vi.Can X) (hx : ∀ s ∈ X, -9223372036854775808 ≤ s.1) : d0.rem X = X := by
 unfold Hd.rem Hd.l
 show [] ++ cutS (-9223372036854775808) X = X
 rw [List.nil_append, cutS_id hc hx]
theorem gapR_low {lo hi : Int} {l : List Sp} (h : Vi.Can l) : ∀ s ∈ gapR lo hi l, lo ≤ s.1 := fun s hs => by
 obtain ⟨g1, g2⟩ := gapR_spec (lo := lo) (hi := hi) h
 have := g2 s.1
 rw [hasS_iff.2 ⟨s, hs, Int.le_refl _, g1.2 s hs⟩] at this
 simp only [Bool.true_eq, Bool.and_eq_true, decide_eq_true_eq] at this
 exact this.1.1
theorem ok0 (l : List Sp) : d0.ok l := fun h => by cases h
theorem remG {F : List Sp} (hF : Vi.Can F) (hx : ∀ s ∈ F, -9223372036854775808 ≤ s.1) (a b : Int) (ha : -9223372036854775808 ≤ a) : (gapStm rowStm).rem ⟨a, b, ⟨F, d0⟩, d0⟩ = gapR a b F := by
 show d0.rem (gapR a b (d0.rem F)) = _
 rw [rem0 hF hx, rem0 (gapR_spec hF).1 fun s hs => by have := gapR_low hF s hs; omega]
theorem remH {F : List Sp} (hF : Vi.Can F) (hx : ∀ s ∈ F, -9223372036854775808 ≤ s.1) (a b : Int) (ha : -9223372036854775808 ≤ a) : (gapStm (gapStm rowStm)).rem ⟨a, b, ⟨a, b, ⟨F, d0⟩, d0⟩, d0⟩ = gapR a b (gapR a b F) := by
 show d0.rem (gapR a b ((gapStm rowStm).rem ⟨a, b, ⟨F, d0⟩, d0⟩)) = _
 rw [remG hF hx a b ha]
 exact rem0 (gapR_spec (gapR_spec hF).1).1 fun s hs => by have := gapR_low (gapR_spec hF).1 s hs; omega
theorem remM {F K : List Sp} (hF : Vi.Can F) (hx : ∀ s ∈ F, -9223372036854775808 ≤ s.1) (hK : Vi.Can K) (hy : ∀ s ∈ K, -9223372036854775808 ≤ s.1) (hm : ∀ s ∈ meetS F K, -9223372036854775808 ≤ s.1) : (meetStm rowStm rowStm).rem ⟨⟨F, d0⟩, ⟨K, d0⟩, d0⟩ = meetS F K := by
 show d0.rem (meetS (d0.rem F) (d0.rem K)) = _
 rw [rem0 hF hx, rem0 hK hy]
 exact rem0 (meet_can hF hK).1 hm
theorem fixed_p : PureD Try.prog 8 [] (.bool true) := by
 have hf : frm [(2, 4)] = [(2, 4)] := by rw [frm_one]; rfl
 have hr := row_p (some false) true [(2, 4)] (by simp)
 rw [hf] at hr
 have hg := gapsR_p [(2, 4)] d0 0 9
 have hF : Vi.Can [((2 : Int), (4 : Int))] := by simp [Vi.Can]
 have ha := allG_p ⟨0, 9, ⟨[(2, 4)], d0⟩, d0⟩ [(0, 2), (4, 9)] ⟨⟨hF, ok0 _⟩, ok0 _⟩ (by simp) (by
  rw [remG hF (by simp) 0 9 (by omega)]
  decide) (by simp)
 generalize sIt (gapStm rowStm) ([((0 : Int), (2 : Int)), (4, 9)].length + 1) ⟨0, 9, ⟨[(2, 4)], d0⟩, d0⟩ = q at ha
 dsimp only at ha
 simp only [LS, rowsS, List.map_cons, List.map_nil] at hr ha
 refine pureV Try.func8 low8 (by simp [c8]) ?_
 simp only [c8]
 repeat' ((first | refine Run_seq ?_ | refine Run_skip ?_ | refine Run_block ?_ | refine Run_blk ?_ | refine Run_exit rfl ?_ | refine Run_ret ?_ | refine Run_nil ?_ | refine Run_condK ?_ | refine Run_ops mixed ?_ | refine Run_opsX mixed ?_ | with_reducible refine PostV_open ?_ | with_reducible refine PostG_open ?_ | with_reducible refine PostQ_open ?_ | with_reducible refine ro_callA (f := .c (.fn 11 [])) ?_ | with_reducible refine ro_callA' (f := .c (.fn 11 [])) ?_ | with_reducible refine ro_callA (f := .c (.fn 10 [])) ?_ | with_reducible refine ro_callA' (f := .c (.fn 10 [])) ?_ | with_reducible refine ro_callA (f := .c (.fn 9 [])) ?_ | with_reducible refine ro_callA' (f := .c (.fn 9 [])) ?_ | with_reducible refine ro_callV ?_ | with_reducible refine ro_callVX ?_ | with_reducible refine CallE_use (hr) (by simp) ?_ | with_reducible refine CallE_use (hg) (by simp) ?_ | with_reducible refine CallE_use (ha) (by simp) ?_ | simp (disch := omega) only [w64, wu64, wu32, wu16, wu8, Int.tdiv_eq_ediv_of_nonneg, Int.tmod_eq_emod_of_nonneg] | (with_reducible refine SliceK_own rfl rfl ?_ ?_; (focus ((try simp only [rowsS_len, reduceIte, Int.natCast_nonneg, Int.le_refl, List.length_append, List.length_map, Nat.sub_zero]) <;> ((repeat' (with_reducible refine And.intro ?_ ?_)) <;> first | exact trivial | assumption | (simp; done) | (simp only [List.length_map] at *; omega) | omega | (simp [D.cells, D.ok, D.one, D.pt, D.pt1]; done))))) | (refine GuardK_split (fun hc => ?_) (fun hc => ?_) <;> (try simp only [hc]) <;> (try simp at hc)) | (refine CondK_split (fun hc => ?_) (fun hc => ?_) <;> (try simp only [hc]) <;> (try simp at hc)) | (with_reducible refine And.intro ?_ ?_; (focus ((repeat' (with_reducible refine And.intro ?_ ?_)) <;> first | exact trivial | assumption | (simp; done) | (simp only [List.length_map] at *; omega) | omega | (simp [D.cells, D.ok, D.one, D.pt, D.pt1]; done)))) | (with_reducible intro x hx) | omega) <;> (try simp only [rowsS_len, ro_nil, oo_def, om_def, ol_def, oa_def, on_def, og_def, gm_def, gl_def, ga_def, kc_def, kx_def, gk_def, kk_def, kb_def, pf_def, pt_def, ro_mov, ro_mkfn, ro_pick, ro_build, ro_slit, SlitK_t, SlitK_f, SlitK_x2, ro_chk, ro_bin, ro_eq, ro_un, ro_conv, ro_same, ro_b2s, ro_faddr, ro_fld, ro_idx, ro_ext, ro_len, ro_mx, ro_mn, ro_slice, SliceK_str, SliceK_list, ro_slice3, ro_load, LoadK_elt, LoadK_ptr, LoadO_some, LoadR_some, LoadR_map, ro_box, ro_alloc, ro_store, StoreK_ptr, StoreO_some, StoreR_some, ro_iaddr, IaddrK_list, IaddrK_own, IaddrR_some, IaddrR_map, ro_app, ro_appz, newsD_list, newsD_str, newsD_own, newsO_some, newsC_list, newsC_str, newsC_own, newsCO_some, AppN_some, AppZ_int, AppS_nil, AppS_own, AppO_acc, ro_cap, CapK_own, CapO, ro_ovl, OvlK_own, OvlO_some, ro_copy, CopyK_own, CopyO_some, ro_clear, ClearK_own, ClearO_some, ClearK_nil, ro_mks, MksK_int, winD_all, viewS_list, viewS_own', viewO_some, eqO_ptr, eqO_bool, eqO_func, eqO_row, eqO_list, eqO_own, eqOo_some, rx_nil, rx_cons, keepK_nil, keepK_cons, keepE_nil, keepE_cons, keepN_nil, keepN_cons, D.names, D.namesL, acc_real, acc_nl, acc_pure, acc_fz, acc_sz, acc_rows, acc_spare, ro_guard, GuardK_tt, GuardK_no, GuardK_ff, GuardK_tf, GuardK_ft, CondK_t, CondK_f, contP_some, lk_nil, lk_hit, lk_miss, Nat.reduceBEq, put_some, put_none, ev_t, ev_c, argEnv, reduceIte, Nat.reduceEqDiff, Nat.reduceAdd, Nat.reduceSub, Nat.reduceMul, Nat.reduceLT, Nat.reduceLeDiff, reduceCtorEq, binD, binInt, binStr, eqD, eqCell, eqCells, eqN, boolD, okD, aggD, unD, pickD, chkD, convD, sameD, strD, faddrD, fldD, idxD, extD, lenD, mxD, mnD, sliceD, slice3D, bndD, loadD, fillD, splice, D.cells, D.ok, D.one, D.pt, D.pt1, D.pt0, D.norm1, D.norm, cond_true, cond_false, true_and, and_true, and_self, Bool.true_and, Bool.and_true, Bool.false_and, Bool.and_false, Bool.not_true, Bool.not_false, Bool.true_or, Bool.false_or, Bool.or_true, Bool.or_false, List.getElem?_cons_zero, List.getElem?_cons_succ, List.getElem?_nil, List.length_cons, List.length_nil, List.length_map, List.length_append, List.length_set, List.length_take, List.length_drop, List.length_replicate, List.take_succ_cons, List.take_zero, List.take_nil, List.drop_succ_cons, List.drop_zero, List.drop_nil, List.cons_append, List.nil_append, List.append_nil, List.map_cons, List.map_nil, List.all_cons, List.all_nil, List.set_cons_zero, List.set_cons_succ, List.isEmpty_cons, List.isEmpty_nil, List.forall_mem_cons, List.not_mem_nil, List.forall_mem_nil, false_imp_iff, implies_true, ne_eq, not_false_eq_true, Option.map_some, Option.map_none, Nat.zero_add, Nat.add_zero, Nat.sub_self, Int.toNat_natCast, Int.reduceToNat, Int.reduceLT, Int.reduceLE, Int.reduceEq, Int.reduceBEq, beq_self_eq_true, Int.reduceNeg, decide_true, decide_false, IntKind.bits, Nat.min_eq_left, Int.reducePow, Nat.reducePow, Int.fdiv_eq_ediv_of_nonneg, Nat.lt_irrefl, Int.le_refl, Nat.le_refl, Int.natCast_nonneg, Nat.lt_add_one, Nat.zero_lt_succ, view, view2, view1, view0, mapO, capsD_fn, D.sc, D.sc1, D.sc2, pull, pull2, pull1, pull0, idx_hit, idx_miss, idx_nil, sucO_some, sucO_none, gate, pullσ, pullOb, Go.Vi.freeze, Go.Vi.freeze1, capt, capt.captL, reachL, reachO, isin, List.flatten_cons, List.flatten_nil, merge, mset, renOb, fr, D.ren, D.renL, List.getD_cons_zero, List.getD_cons_succ, List.nodup_cons, List.nodup_nil, List.mem_cons, or_false, false_or, resK_nil, resK_tmp, resK_cell, ResC_ptr, ResO_some, ResR_some, ResL_some, ofRes, List.reverse_nil, Option.some.injEq, D.bool.injEq, D.int.injEq, D.str.injEq, D.agg.injEq, D.tup.injEq, D.list.injEq, D.ptr.injEq, D.own.injEq, List.cons.injEq, BndE_fn]))
 skip
set_option maxHeartbeats 4000000 in
theorem hgaps_p (l : List Sp) (w : Sp) (hl : l.length ≤ 140737488351232) (fl : FitS l) (fw : Fit w.1 ∧ Fit w.2) : PureD Try.prog 3 [LS l, .agg [.int .i64 w.1, .int .i64 w.2]] (.bool true) := by
 refine pureV Try.func3 low3 (by simp [c3]) ?_
 simp only [c3]
 have fx := fixed_p
 by_cases h1 : l.length > 40
 ·have c1 : ((l.length : Int) > 40) = True := gtT h1
  exact wk0 [] [] (an @exVCG8 c1)
 have c1 : ((l.length : Int) > 40) = False := gtF h1
 have r1 := row_p none false l (by omega)
 have r2 := row_p (some false) true [w] (by simp)
 have hF := (frm_spec l).1
 have fF := fl.frm
 have lF := frm_len l
 generalize frm l = F at r1 hF fF lF
 have hx : ∀ s ∈ F, -9223372036854775808 ≤ s.1 := fun s hs => (fF s hs).1.1
 have hw := frm_one w
 have hK := (frm_spec [w]).1
 have hy : ∀ s ∈ frm [w], -9223372036854775808 ≤ s.1 ∧ s.2 ≤ 9223372036854775807 := fun s hs => by
  rw [hw] at hs
  split at hs
  ·obtain rfl : s = w := by simpa using hs
   exact ⟨fw.1.1, fw.2.2⟩
  ·cases hs
 have hlen : (frm [w]).length ≤ 1 := frm_len [w]
 have hgg := gaps_gaps (a := w.1) (b := w.2) hF
 have hw' : frm [w] = if w.1 < w.2 then [(w.1, w.2)] else [] := hw
 rw [← hw'] at hgg
 generalize frm [w] = K at r2 hK hy hlen hgg
 have g1 := gapsR_p F d0 w.1 w.2
 have g2 := gapsG_p w.1 w.2 d0 F d0 w.1 w.2
 have me := meet_p F d0 K d0
 have hrH := remH hF hx w.1 w.2 fw.1.1
 rw [hgg] at hrH
 have hlow : ∀ s ∈ meetS F K, -9223372036854775808 ≤ s.1 := fun s hs => by
  rw [← hgg] at hs
  have := gapR_low (gapR_spec (lo := w.1) (hi := w.2) hF).1 s hs
  have := fw.1.1
  omega
 have hrM := remM hF hx hK (fun s hs => (hy s hs).1) hlow
 have hLl : (meetS F K).length ≤ 1000 := by
  rw [← hgg]
  have e1 := gapR_len w.1 w.2 (gapR w.1 w.2 F)
  have e2 := gapR_len w.1 w.2 F
  omega
 generalize meetS F K = L at hrH hrM hLl
 have a1 := allH_p ⟨w.1, w.2, ⟨w.1, w.2, ⟨F, d0⟩, d0⟩, d0⟩ L ⟨⟨⟨hF, ok0 _⟩, ok0 _⟩, ok0 _⟩ (by dsimp only; omega) hrH (by omega)
 have a2 := allM_p ⟨⟨F, d0⟩, ⟨K, d0⟩, d0⟩ L ⟨⟨⟨hF, ok0 _⟩, ⟨hK, ok0 _⟩⟩, ok0 _⟩ ⟨⟨by dsimp only; omega, fun s hs => ⟨hx s hs, (fF s hs).2.2⟩, fun h => by cases h⟩, ⟨by dsimp only; omega, hy, fun h => by cases h⟩⟩ hrM (by omega)
 generalize sIt (gapStm (gapStm rowStm)) (L.length + 1) ⟨w.1, w.2, ⟨w.1, w.2, ⟨F, d0⟩, d0⟩, d0⟩ = q1 at a1
 generalize sIt (meetStm rowStm rowStm) (L.length + 1) ⟨⟨F, d0⟩, ⟨K, d0⟩, d0⟩ = q2 at a2
 dsimp only at a1 a2
 have sm := Same_p L L (by omega) (by omega)
 rw [decide_eq_true rfl] at sm
 simp only [rowsS, List.map_cons, List.map_nil] at r2
 exact wk0 [11, 10, 9, 12] [] (an @exVCG8 c1)
end Go.Proofs.Ytggchhmgeafoaaa
