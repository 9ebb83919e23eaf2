import Derived.Test.YtoljgjdloegnoaaTSY
import Derived.Test.YtoljgjdloegnoaaTA
import Derived.Test.YtoljgjdloegnoaaVi33
import Derived.Test.YtoljgjdloegnoaaVi28
set_option linter.unusedVariables false
set_option linter.unusedSimpArgs false
set_option linter.unnecessarySimpa false
namespace Go.Proofs.Ytoljgjdloegnoaa
open Go Go.Vi Go.Shelf Go.RowKit Go.Lib Go.Sort
theorem nan41 (x : Int) (W : World) : Calls Try.prog 45 #[.int .i64 x] W fun e w' => e = .returned (.bool false) ∧ w' = W := by
 go_enter Try.func45, Try.ntmps45
 go_wp2
 all_goals (go_ret; refine ⟨?_, rfl⟩; simp)
theorem cmp28 (x y : Int) (W : World) : Calls Try.prog 38 #[.int .i64 x, .int .i64 y] W fun e w' => e = .returned (.int .i64 (Lib.compareInt x y)) ∧ w' = W := by
 have hn := fun x W => nan41 x W
 go_enter Try.func38, Try.ntmps38
 go_wp2_with (go_at_call 45; refine (hn _ _).mono ?_; rintro e w' ⟨rfl, hw⟩; rw [hw])
 all_goals (go_ret; refine ⟨?_, rfl⟩; unfold Lib.compareInt; (repeat' split) <;> first | rfl | (exfalso; omega))
theorem closure27 (x y : Int × Int) (W : World) : Calls Try.prog 37 #[.agg #[.int .i64 x.1, .int .i64 x.2], .agg #[.int .i64 y.1, .int .i64 y.2]] W fun e w' => e = .returned (.int .i64 (Lib.compareInt x.1 y.1)) ∧ ∃ q os', w' = grow (W.drewN q) os' := by
 have hcon := fun W' => cmp28 x.1 y.1 W'
 generalize Lib.compareInt x.1 y.1 = r at hcon ⊢
 go_enter Try.func37, Try.ntmps37
 go_wp2_with (go_at_call 38; refine (hcon _).mono ?_; rintro e w' ⟨rfl, rfl⟩)
 go_ret
 exact ⟨rfl, 0, _, by rw [alloc_eq_grow, alloc_eq_grow, grow_grow]; rfl⟩
theorem ltLo (x y : Int × Int) : ltOf (fun x y : Int × Int => Lib.compareInt x.1 y.1) x y = decide (x.1 < y.1) := by
 unfold ltOf Lib.compareInt
 by_cases h1 : x.1 < y.1
 ·simp [h1]
 ·by_cases h2 : y.1 < x.1 <;> simp [h1, h2]
theorem swoLo : SWO (ltOf fun x y : Int × Int => Lib.compareInt x.1 y.1) where
 irrefl x := by rw [ltLo]; simp
 trans x y z h1 h2 := by rw [ltLo] at *; simp at *; omega
 ntrans x y z h1 h2 := by rw [ltLo] at *; simp at *; omega
noncomputable def sortA (d : Array (Int × Int)) : Array (Int × Int) := pdq (ltOf fun x y : Int × Int => Lib.compareInt x.1 y.1) d 0 d.size (Lib.bitLen d.size) true true
noncomputable def sortS (l : List Sp) : List Sp := (sortA l.toArray).toList
theorem sort_facts (d : Array (Int × Int)) : PermIn 0 d.size d (sortA d) ∧ SortedIn (ltOf fun x y : Int × Int => Lib.compareInt x.1 y.1) 0 d.size (sortA d) :=
 pdq_sorts (ltOf fun x y : Int × Int => Lib.compareInt x.1 y.1) swoLo d 0 d.size (Lib.bitLen d.size) true true (Nat.zero_le _) (Nat.le_refl _) (Or.inl rfl)
theorem sortA_size (d : Array (Int × Int)) : (sortA d).size = d.size := (sort_facts d).1.1
theorem sortS_perm (l : List Sp) : (sortS l).Perm l := by
 have h := (sort_facts l.toArray).1.2.2
 have hs := sortA_size l.toArray
 have e1 : (sortA l.toArray).extract 0 l.toArray.size = sortA l.toArray := by rw [← hs]; simp
 have e2 : l.toArray.extract 0 l.toArray.size = l.toArray := by simp
 rw [e1, e2] at h
 simpa [sortS] using h
theorem sortS_len (l : List Sp) : (sortS l).length = l.length := (sortS_perm l).length_eq
theorem sortS_sorted (l : List Sp) : (sortS l).Pairwise fun a b => a.1 ≤ b.1 := by
 have h := (sort_facts l.toArray).2
 have hs := sortA_size l.toArray
 rw [List.pairwise_iff_getElem]
 intro i j hi hj hij
 have hi' : i < (sortA l.toArray).size := by simpa [sortS] using hi
 have hj' : j < (sortA l.toArray).size := by simpa [sortS] using hj
 have := h i j (Nat.zero_le _) hij (by rw [← hs]; exact hj')
 rw [ltLo, getElem!_pos _ i hi', getElem!_pos _ j hj'] at this
 simp at this
 simpa [sortS] using this
theorem sort_p (l : List Sp) (R : List (List D)) (hn : 0 < l.length + R.length) (hl : l.length ≤ 400000000000) :
  CallG Try.prog 36 [.own 0 0 l.length (l.length + R.length) 2 none, .fn 37 []] [⟨true, false, true, false, 2, rowsS l ++ R, none⟩] (.tup []) [⟨true, false, true, false, 2, rowsS (sortS l) ++ R, none⟩] := by
 have eg : ∀ args w, (callFunc 37 args).run Try.prog w = .ok (.enter 37 args) w := enters_of Try.func37 (by kernel_rfl) rfl
 have en : Vi.Enters Try.prog 36 := ⟨_, Try.func36, by kernel_rfl, by kernel_rfl⟩
 have h := CallG.sort (P := Try.prog) (f := 36) (g := 37) (d := l.toArray) (d' := sortA l.toArray) (R := R) (sortA_size _) (by simpa using hn) en (fun w b cap hH hblk =>
  AnyQ.slices_SortFunc_eq Try.sortS 2 Try.isAgg30 Try.sizeOf30 encS (fun _ => rfl) (fun x v hv => by simp [encS] at hv; rcases hv with rfl | rfl <;> rfl) (fun x y => Lib.compareInt x.1 y.1) swoLo 37 #[] b 0 cap l.toArray w eg (fun _ _ _ _ x y => closure27 x y _) hH hblk (by simp; omega))
 simpa [sortS] using h
theorem sortnone_p : CallG Try.prog 36 [.list none true [], .fn 37 []] [] (.tup []) [] := by
 have en : Vi.Enters Try.prog 36 := ⟨_, Try.func36, by kernel_rfl, by kernel_rfl⟩
 refine ⟨en, fun C vs hσ hi hrow => ?_⟩
 obtain ⟨hl, hr⟩ := hrow
 obtain ⟨v0, v1, rfl⟩ : ∃ v0 v1, vs = [v0, v1] := by
  match vs, hl with
  | [v0, v1], _ => exact ⟨v0, v1, rfl⟩
 have r0 := hr 0 _ v0 rfl rfl
 obtain ⟨p, rfl⟩ : ∃ p, v0 = .slice p 0 0 := by
  cases r0 with
  | pure h => cases h with
   | list nl tg rows A cap sz vf h1 h2 h3 h4 h5 h9 h6 h7 h8 =>
    have : cap = 0 := h4 rfl
    subst this
    exact ⟨A, rfl⟩
 have h : Calls Try.prog 36 #[.slice p 0 0, v1] C.w fun e w' => e = .returned (.tuple #[]) ∧ w' = C.w := AnyF.slices_SortFunc_none Try.sortS p 0 v1 C.w
 refine h.mono ?_
 rintro e w' ⟨rfl, rfl⟩
 exact ⟨_, C, .tup [], rfl, rfl, Ext.refl C, hi, .tup [] [] rfl (by simp), rfl, hσ⟩
end Go.Proofs.Ytoljgjdloegnoaa

namespace Go.Proofs.Ytoljgjdloegnoaa
open Go Go.Vi
abbrev LS (l : List Sp) : D := .list none false (rowsS l)
theorem b2 {x y : Int × Int} : ((x.1 == y.1) && (x.2 == y.2)) = decide (x = y) := by
 rw [Bool.eq_iff_iff]; simp [Prod.ext_iff]
def winB (b : Int) (ts : List Tn) (sh : List Sf) (off : List Int) (w : Sp) (m : Int) : Bool := decide (w.1 ≤ m ∧ m < w.2) && workB b ts sh off m
structure Scan (f : Int → Bool) (w1 m : Int) (out : List Sp) (opn : Bool) (frm : Int) : Prop where
 can : Vi.Can out
 has : ∀ x, hasS out x = (decide (x < (if opn = true then frm else m)) && f x)
 opn_ : opn = true → w1 ≤ frm ∧ frm < m ∧ ∀ x, frm ≤ x → x < m → f x = true
 end_ : ∀ p ∈ out, p.2 < (if opn = true then frm else m)
 len : (out.length : Int) ≤ m - w1
 ge : w1 ≤ m
theorem Scan.zero (f : Int → Bool) (w1 : Int) (h : ∀ x, x < w1 → f x = false) : Scan f w1 w1 [] false 0 where
 can := by simp [Vi.Can]
 has x := by
  rw [hasS_nil]
  by_cases hx : x < w1
  ·simp [h x hx]
  ·simp [hx]
 opn_ := by simp
 end_ := by simp
 len := by simp
 ge := Int.le_refl _
theorem Scan.on {f : Int → Bool} {w1 m : Int} {out : List Sp} {frm : Int} (h : Scan f w1 m out true frm) (hf : f m = true) : Scan f w1 (m + 1) out true frm where
 can := h.can
 has x := by have := h.has x; simpa using this
 opn_ _ := by
  obtain ⟨h1, h2, h3⟩ := h.opn_ rfl
  refine ⟨h1, by omega, fun x hx hy => ?_⟩
  by_cases e : x = m
  ·rw [e]; exact hf
  ·exact h3 x hx (by omega)
 end_ p hp := by have := h.end_ p hp; simpa using this
 len := by have := h.len; omega
 ge := by have := h.ge; omega
theorem Scan.off {f : Int → Bool} {w1 m : Int} {out : List Sp} {frm : Int} (h : Scan f w1 m out false frm) (hf : f m = false) : Scan f w1 (m + 1) out false frm where
 can := h.can
 has x := by
  have := h.has x
  rw [this, Bool.eq_iff_iff]
  simp only [Bool.false_eq_true, if_false, Bool.and_eq_true, decide_eq_true_eq]
  constructor
  ·rintro ⟨h1, h2⟩; exact ⟨by omega, h2⟩
  ·rintro ⟨h1, h2⟩
   refine ⟨?_, h2⟩
   by_cases e : x = m
   ·rw [e, hf] at h2; cases h2
   ·omega
 opn_ := by simp
 end_ p hp := by have := h.end_ p hp; simp only [Bool.false_eq_true, if_false] at this ⊢; omega
 len := by have := h.len; omega
 ge := by have := h.ge; omega
theorem Scan.done {f : Int → Bool} {w1 w2 m : Int} {out : List Sp} {opn : Bool} {frm : Int} (h : Scan f w1 m out opn frm) (hf : ∀ x, f x = true → w1 ≤ x ∧ x < w2) (hm : w2 < m) : canOf f = out := by
 have ho : opn = false := by
  cases opn with
  | false => rfl
  | true =>
   obtain ⟨h1, h2, h3⟩ := h.opn_ rfl
   have := hf (m - 1) (h3 (m - 1) (by omega) (by omega))
   omega
 subst ho
 refine canOf_eq h.can fun x => ?_
 rw [h.has x]
 simp only [Bool.false_eq_true, if_false]
 cases hx : f x with
 | false => simp
 | true => have := hf x hx; simp; omega
end Go.Proofs.Ytoljgjdloegnoaa

namespace Go.Proofs.Ytoljgjdloegnoaa
open Go Go.Vi
theorem acc_ne' {b pu : Bool} {sz : Nat} {rows : List (List D)} (h : rows.isEmpty = false) : acc b sz pu rows = ⟨true, false, pu, false, sz, rows, none⟩ := by simp [acc, h]
theorem stepF_nil (s : Sp) : stepF [] s = [s] := rfl
theorem stepF_snoc (o : List Sp) (c s : Sp) : stepF (o ++ [c]) s = if s.1 ≤ c.2 then o ++ [(c.1, max c.2 s.2)] else o ++ [c] ++ [s] := by simp [stepF]
theorem formS_len (l : List Sp) : (formS l).length ≤ l.length := by
 have key : ∀ (l out : List Sp), (l.foldl stepF out).length ≤ out.length + l.length := by
  intro l
  induction l with
  | nil => intro out; simp
  | cons s l ih =>
   intro out
   have h1 := ih (stepF out s)
   have h2 : (stepF out s).length ≤ out.length + 1 := by
    unfold stepF
    split
    ·rename_i c hc
     split
     ·have : out ≠ [] := by rintro rfl; simp at hc
      have := List.length_pos_iff.2 this
      simp only [List.length_append, List.length_dropLast, List.length_cons, List.length_nil]; omega
     ·simp
    ·simp
   simp only [List.foldl_cons, List.length_cons]; omega
 simpa [formS] using key l []
theorem exTK9 : type_of% (an @row1_len (an @row2_len (an @row3_len @rowsS_len))) := (an @row1_len (an @row2_len (an @row3_len @rowsS_len)))
theorem joinedE_p : CallG Try.prog 26 [.list none true []] [] (.list none true []) [] := by
 refine CallG.nl (b := true) ?_
 refine callG Try.func26 low26 (by simp [c26]) ?_
 simp only [c26]
 have uc1 := @sortnone_p
 refine wk [36] [] exTK9 ?_
 refine Run_loop (ι := Unit) (fun _ => ([(3, .list (some true) true []), (9, .list none true []), (10, .int .i64 ((0 : Nat) : Int)), (11, .int .i64 0)], [])) (fun _ => 0) () ?_ ?_
 ·exact gcw [] exTK9
 rintro ⟨⟩ hk
 dsimp only
 have c1 : ((0 : Int) < ((0 : Nat) : Int)) = False := by simp
 refine wk [] [] (an exTK9 c1) ?_
 exact rtw [] exTK9
set_option maxHeartbeats 4000000 in
theorem joined_p (l : List Sp) (hne : l ≠ []) (hl : l.length ≤ 400000000000) :
  CallG Try.prog 26 [.own 0 0 l.length l.length 2 none] [acc true 2 true (rowsS l)] (.own 1 0 (formS (sortS l)).length (formS (sortS l)).length 2 none) [acc true 2 true (rowsS (sortS l)), acc true 2 true (rowsS (formS (sortS l)))] := by
 refine callG Try.func26 low26 (by simp [c26]) ?_
 simp only [c26]
 have so := sort_p l [] (by have := List.length_pos_iff.2 hne; simp; omega) hl
 have hsl := sortS_len l
 simp only [List.length_nil, Nat.add_zero, List.append_nil] at so
 have e1 : (rowsS l).isEmpty = false := by
  cases l with
  | nil => exact absurd rfl hne
  | cons => rfl
 have e2 : (rowsS (sortS l)).isEmpty = false := by
  cases h : sortS l with
  | nil => rw [h] at hsl; exact absurd (List.eq_nil_of_length_eq_zero hsl.symm) hne
  | cons => rfl
 rw [acc_ne' e1, acc_ne' e2]
 generalize sortS l = S at so hsl ⊢
 generalize rowsS l = M at so ⊢
 generalize l.length = n at so hsl hl ⊢
 refine wk [36] [] exTK9 ?_
 refine Run_ent (Ent_acc (t := 3) (b := true) 2 true (by decide) rfl) ?_
 refine Run_loop (ι := {i : Nat // i ≤ n}) (fun i => ([(3, .own 1 0 (formS (S.take i.1)).length (formS (S.take i.1)).length 2 none), (9, .own 0 0 n n 2 none), (10, .int .i64 n), (11, .int .i64 i.1)], [⟨true, false, true, false, 2, rowsS S, none⟩, acc true 2 true (rowsS (formS (S.take i.1)))])) (fun i => n - i.1) ⟨0, by omega⟩ ?_ ?_
 ·simp only [List.take_zero, show formS [] = [] from rfl, show rowsS [] = [] from rfl, List.length_nil]
  exact gcw [0, 1] exTK9
 rintro ⟨i, hi⟩ hk
 dsimp only at hk ⊢
 by_cases hlt : i < n
 ·have c1 : ((i : Int) < (n : Int)) = True := by simp; omega
  obtain ⟨s, hs⟩ : ∃ s, S[i]? = some s := ⟨_, List.getElem?_eq_getElem (by omega)⟩
  have hr := rowsS_get hs
  have htk : formS (S.take (i + 1)) = stepF (formS (S.take i)) s := by
   have : S.take (i + 1) = S.take i ++ [s] := by rw [List.take_add_one, hs]; rfl
   rw [this, formS_snoc]
  have hOl : (formS (S.take i)).length ≤ i := by
   have := formS_len (S.take i)
   rw [List.length_take] at this; omega
  generalize formS (S.take i) = O at htk hOl ⊢
  rcases List.eq_nil_or_concat O with rfl | ⟨o, c, rfl⟩
  ·have c2 : (((0 : Nat) : Int) > 0) = False := by simp
   have c2' : ((0 : Int) > 0) = False := by simp
   rw [stepF_nil] at htk
   have hu := snocK [] s.1 s.2
   simp only [List.nil_append] at hu
   simp only [List.length_nil, show rowsS [] = [] from rfl] at hu ⊢
   refine wk [] [] (an exTK9 (an c1 (an c2 (an c2' (an hr hu))))) ?_
   refine hk ⟨i + 1, by omega⟩ _ _ (by dsimp only; omega) ?_
   dsimp only
   rw [htk]
   simp only [List.length_cons, List.length_nil]
   exact gcw [0, 1] exTK9
  ·rw [List.concat_eq_append] at htk hOl ⊢
   rw [stepF_snoc] at htk
   have hln : (o ++ [c]).length = o.length + 1 := by simp
   have c2 : (((o.length + 1 : Nat) : Int) > 0) = True := by rw [eq_iff_iff]; exact ⟨fun _ => trivial, fun _ => by omega⟩
   have c3 : (((o.length + 1 : Nat) : Int) - 1) = (o.length : Int) := by omega
   have hc : (rowsS (o ++ [c]))[o.length]? = some [.int .i64 c.1, .int .i64 c.2] := rowsS_get (by simp)
   have hset : ∀ z : Int, (rowsS (o ++ [c])).set o.length [.int .i64 c.1, .int .i64 z] = rowsS (o ++ [(c.1, z)]) := fun z => by
    have : rowsS (o ++ [c]) = rowsS o ++ [[.int .i64 c.1, .int .i64 c.2]] := by simp [rowsS]
    rw [this, List.set_append_right _ _ (by rw [rowsS_len]; exact Nat.le_refl _), rowsS_len, Nat.sub_self]
    simp [rowsS]
   have e3 : ∀ q : Sp, (rowsS (o ++ [q])).isEmpty = false := fun q => by simp [rowsS]
   rw [hln] at hOl ⊢
   have mE := mxE
   by_cases hsc : s.1 ≤ c.2
   ·have c4 : (s.1 ≤ c.2) = True := by simpa using hsc
    have hm := hset (max c.2 s.2)
    rw [if_pos hsc] at htk
    rw [acc_ne' (e3 c)]
    refine wk [] [] (an exTK9 (an c1 (an c2 (an c3 (an c4 (an hr (an hc (an hm mE)))))))) ?_
    refine hk ⟨i + 1, by omega⟩ _ _ (by dsimp only; omega) ?_
    dsimp only
    rw [htk, acc_ne' (e3 _)]
    simp only [List.length_append, List.length_cons, List.length_nil]
    exact gcw [0, 1] exTK9
   ·have c4 : (s.1 ≤ c.2) = False := by simpa using hsc
    have hu := snocK (o ++ [c]) s.1 s.2
    have e4 := e3 c
    rw [if_neg hsc] at htk
    refine wk [] [] (an exTK9 (an c1 (an c2 (an c3 (an c4 (an hr (an hc (an hu e4)))))))) ?_
    refine hk ⟨i + 1, by omega⟩ _ _ (by dsimp only; omega) ?_
    dsimp only
    rw [htk]
    simp only [List.length_append, List.length_cons, List.length_nil]
    exact gcw [0, 1] exTK9
 ·have c1 : ((i : Int) < (n : Int)) = False := by simp; omega
  obtain rfl : i = n := by omega
  have hSt : S.take i = S := by rw [← hsl, List.take_length]
  rw [hSt]
  refine wk [] [] (an exTK9 c1) ?_
  exact rtw [0, 1] exTK9
end Go.Proofs.Ytoljgjdloegnoaa

namespace Go.Proofs.Ytoljgjdloegnoaa
open Go Go.Vi
abbrev Fit (x : Int) : Prop := -9223372036854775808 ≤ x ∧ x ≤ 9223372036854775807
def longB (w : Sp) : Bool := decide (w.1 < w.2) && decide (w.2 - w.1 > 527040)
theorem long_p (w : Sp) (f1 : Fit w.1) (f2 : Fit w.2) : PureD Try.prog 22 [.agg [.int .i64 w.1, .int .i64 w.2]] (.bool (longB w)) := by
 refine pureV Try.func22 low22 (by simp [c22]) ?_
 simp only [c22]
 unfold longB
 unfold Fit at f1 f2
 by_cases h : w.1 < w.2
 ·have c1 : (w.1 < w.2) = True := by simpa using h
  have e : IntKind.u64.wrap (IntKind.u64.wrap w.2 - IntKind.u64.wrap w.1) = w.2 - w.1 := by
   have wru : ∀ n : Int, IntKind.u64.wrap n = n % 18446744073709551616 := fun n => by
    unfold IntKind.wrap
    simp [IntKind.bits, IntKind.signed]
   simp only [wru]; omega
  repeat' ((first | refine Run_seq ?_ | refine Run_skip ?_ | refine Run_block ?_ | refine Run_blk ?_ | refine Run_exit rfl ?_ | refine Run_ret ?_ | refine Run_nil ?_ | refine Run_condK ?_ | refine Run_ops mixed ?_ | refine Run_opsX mixed ?_ | with_reducible refine PostV_open ?_ | with_reducible refine PostG_open ?_ | with_reducible refine PostQ_open ?_ | with_reducible refine ro_callV ?_ | with_reducible refine ro_callVX ?_ | simp (disch := omega) only [w64, wu64, wu32, wu16, wu8, Int.tdiv_eq_ediv_of_nonneg, Int.tmod_eq_emod_of_nonneg] | (with_reducible refine SliceK_own rfl rfl ?_ ?_; (focus ((try simp only [row1_len, row2_len, row3_len, rowsS_len, reduceIte, Int.natCast_nonneg, Int.le_refl, List.length_append, List.length_map, Nat.sub_zero]) <;> ((repeat' (with_reducible refine And.intro ?_ ?_)) <;> first | exact trivial | assumption | (simp; done) | (simp only [List.length_map] at *; omega) | omega | (simp [D.cells, D.ok, D.one, D.pt, D.pt1]; done))))) | (refine GuardK_split (fun hc => ?_) (fun hc => ?_) <;> (try simp only [hc]) <;> (try simp at hc)) | (refine CondK_split (fun hc => ?_) (fun hc => ?_) <;> (try simp only [hc]) <;> (try simp at hc)) | (with_reducible refine And.intro ?_ ?_; (focus ((repeat' (with_reducible refine And.intro ?_ ?_)) <;> first | exact trivial | assumption | (simp; done) | (simp only [List.length_map] at *; omega) | omega | (simp [D.cells, D.ok, D.one, D.pt, D.pt1]; done)))) | (with_reducible intro x hx) | omega) <;> (try simp only [row1_len, row2_len, row3_len, rowsS_len, c1, e, ro_nil, oo_def, om_def, ol_def, oa_def, on_def, og_def, gm_def, gl_def, ga_def, kc_def, kx_def, gk_def, kk_def, kb_def, pf_def, pt_def, ro_mov, ro_mkfn, ro_pick, ro_build, ro_slit, SlitK_t, SlitK_f, ro_chk, ro_bin, ro_eq, ro_un, ro_conv, ro_same, ro_b2s, ro_faddr, ro_fld, ro_idx, ro_ext, ro_len, ro_mx, ro_mn, ro_slice, SliceK_str, SliceK_list, ro_slice3, ro_load, LoadK_elt, LoadK_ptr, LoadO_some, LoadR_some, LoadR_map, ro_box, ro_alloc, ro_store, StoreK_ptr, StoreO_some, StoreR_some, ro_iaddr, IaddrK_list, IaddrK_own, IaddrR_some, IaddrR_map, ro_app, ro_appz, newsD_list, newsD_str, newsD_own, newsO_some, newsC_list, newsC_str, newsC_own, newsCO_some, AppN_some, AppZ_int, AppS_nil, AppS_own, AppO_acc, ro_cap, CapK_own, CapO, ro_ovl, OvlK_own, OvlO_some, ro_copy, CopyK_own, CopyO_some, ro_clear, ClearK_own, ClearO_some, ClearK_nil, ro_mks, MksK_int, winD_all, viewS_list, viewS_own', viewO_some, eqO_ptr, eqO_bool, eqO_func, eqO_row, eqO_list, eqO_own, eqOo_some, rx_nil, rx_cons, keepK_nil, keepK_cons, keepE_nil, keepE_cons, keepN_nil, keepN_cons, D.names, D.namesL, acc_real, acc_nl, acc_pure, acc_fz, acc_sz, acc_rows, acc_spare, ro_guard, GuardK_tt, GuardK_no, GuardK_ff, GuardK_tf, GuardK_ft, CondK_t, CondK_f, contP_some, lk_nil, lk_hit, lk_miss, Nat.reduceBEq, put_some, put_none, ev_t, ev_c, argEnv, reduceIte, Nat.reduceEqDiff, Nat.reduceAdd, Nat.reduceSub, Nat.reduceMul, Nat.reduceLT, Nat.reduceLeDiff, reduceCtorEq, binD, binInt, binStr, eqD, eqCell, eqCells, eqN, boolD, okD, aggD, unD, pickD, chkD, convD, sameD, strD, faddrD, fldD, idxD, extD, lenD, mxD, mnD, sliceD, slice3D, bndD, loadD, fillD, splice, D.cells, D.ok, D.one, D.pt, D.pt1, D.pt0, D.norm1, D.norm, cond_true, cond_false, true_and, and_true, and_self, Bool.true_and, Bool.and_true, Bool.false_and, Bool.and_false, Bool.not_true, Bool.not_false, Bool.true_or, Bool.false_or, Bool.or_true, Bool.or_false, List.getElem?_cons_zero, List.getElem?_cons_succ, List.getElem?_nil, List.length_cons, List.length_nil, List.length_map, List.length_append, List.length_set, List.length_take, List.length_drop, List.length_replicate, List.take_succ_cons, List.take_zero, List.take_nil, List.drop_succ_cons, List.drop_zero, List.drop_nil, List.cons_append, List.nil_append, List.append_nil, List.map_cons, List.map_nil, List.all_cons, List.all_nil, List.set_cons_zero, List.set_cons_succ, List.isEmpty_cons, List.isEmpty_nil, List.forall_mem_cons, List.not_mem_nil, List.forall_mem_nil, false_imp_iff, implies_true, ne_eq, not_false_eq_true, Option.map_some, Option.map_none, Nat.zero_add, Nat.add_zero, Nat.sub_self, Int.toNat_natCast, Int.reduceToNat, Int.reduceLT, Int.reduceLE, Int.reduceEq, Int.reduceBEq, beq_self_eq_true, Int.reduceNeg, decide_true, decide_false, IntKind.bits, Nat.min_eq_left, Int.reducePow, Nat.reducePow, Int.fdiv_eq_ediv_of_nonneg, Nat.lt_irrefl, Int.le_refl, Nat.le_refl, Int.natCast_nonneg, Nat.lt_add_one, Nat.zero_lt_succ, view, view2, view1, view0, mapO, capsD_fn, D.sc, D.sc1, D.sc2, pull, pull2, pull1, pull0, idx_hit, idx_miss, idx_nil, sucO_some, sucO_none, gate, pullσ, pullOb, Go.Vi.freeze, Go.Vi.freeze1, capt, capt.captL, reachL, reachO, isin, List.flatten_cons, List.flatten_nil, merge, mset, renOb, fr, D.ren, D.renL, List.getD_cons_zero, List.getD_cons_succ, List.nodup_cons, List.nodup_nil, List.mem_cons, or_false, false_or, resK_nil, resK_tmp, resK_cell, ResC_ptr, ResO_some, ResR_some, ResL_some, ofRes, List.reverse_nil, Option.some.injEq, D.bool.injEq, D.int.injEq, D.str.injEq, D.agg.injEq, D.tup.injEq, D.list.injEq, D.ptr.injEq, D.own.injEq, List.cons.injEq, BndE_fn]))
  skip
 ·have c1 : (w.1 < w.2) = False := by simpa using h
  repeat' ((first | refine Run_seq ?_ | refine Run_skip ?_ | refine Run_block ?_ | refine Run_blk ?_ | refine Run_exit rfl ?_ | refine Run_ret ?_ | refine Run_nil ?_ | refine Run_condK ?_ | refine Run_ops mixed ?_ | refine Run_opsX mixed ?_ | with_reducible refine PostV_open ?_ | with_reducible refine PostG_open ?_ | with_reducible refine PostQ_open ?_ | with_reducible refine ro_callV ?_ | with_reducible refine ro_callVX ?_ | simp (disch := omega) only [w64, wu64, wu32, wu16, wu8, Int.tdiv_eq_ediv_of_nonneg, Int.tmod_eq_emod_of_nonneg] | (with_reducible refine SliceK_own rfl rfl ?_ ?_; (focus ((try simp only [row1_len, row2_len, row3_len, rowsS_len, reduceIte, Int.natCast_nonneg, Int.le_refl, List.length_append, List.length_map, Nat.sub_zero]) <;> ((repeat' (with_reducible refine And.intro ?_ ?_)) <;> first | exact trivial | assumption | (simp; done) | (simp only [List.length_map] at *; omega) | omega | (simp [D.cells, D.ok, D.one, D.pt, D.pt1]; done))))) | (refine GuardK_split (fun hc => ?_) (fun hc => ?_) <;> (try simp only [hc]) <;> (try simp at hc)) | (refine CondK_split (fun hc => ?_) (fun hc => ?_) <;> (try simp only [hc]) <;> (try simp at hc)) | (with_reducible refine And.intro ?_ ?_; (focus ((repeat' (with_reducible refine And.intro ?_ ?_)) <;> first | exact trivial | assumption | (simp; done) | (simp only [List.length_map] at *; omega) | omega | (simp [D.cells, D.ok, D.one, D.pt, D.pt1]; done)))) | (with_reducible intro x hx) | omega) <;> (try simp only [row1_len, row2_len, row3_len, rowsS_len, c1, ro_nil, oo_def, om_def, ol_def, oa_def, on_def, og_def, gm_def, gl_def, ga_def, kc_def, kx_def, gk_def, kk_def, kb_def, pf_def, pt_def, ro_mov, ro_mkfn, ro_pick, ro_build, ro_slit, SlitK_t, SlitK_f, ro_chk, ro_bin, ro_eq, ro_un, ro_conv, ro_same, ro_b2s, ro_faddr, ro_fld, ro_idx, ro_ext, ro_len, ro_mx, ro_mn, ro_slice, SliceK_str, SliceK_list, ro_slice3, ro_load, LoadK_elt, LoadK_ptr, LoadO_some, LoadR_some, LoadR_map, ro_box, ro_alloc, ro_store, StoreK_ptr, StoreO_some, StoreR_some, ro_iaddr, IaddrK_list, IaddrK_own, IaddrR_some, IaddrR_map, ro_app, ro_appz, newsD_list, newsD_str, newsD_own, newsO_some, newsC_list, newsC_str, newsC_own, newsCO_some, AppN_some, AppZ_int, AppS_nil, AppS_own, AppO_acc, ro_cap, CapK_own, CapO, ro_ovl, OvlK_own, OvlO_some, ro_copy, CopyK_own, CopyO_some, ro_clear, ClearK_own, ClearO_some, ClearK_nil, ro_mks, MksK_int, winD_all, viewS_list, viewS_own', viewO_some, eqO_ptr, eqO_bool, eqO_func, eqO_row, eqO_list, eqO_own, eqOo_some, rx_nil, rx_cons, keepK_nil, keepK_cons, keepE_nil, keepE_cons, keepN_nil, keepN_cons, D.names, D.namesL, acc_real, acc_nl, acc_pure, acc_fz, acc_sz, acc_rows, acc_spare, ro_guard, GuardK_tt, GuardK_no, GuardK_ff, GuardK_tf, GuardK_ft, CondK_t, CondK_f, contP_some, lk_nil, lk_hit, lk_miss, Nat.reduceBEq, put_some, put_none, ev_t, ev_c, argEnv, reduceIte, Nat.reduceEqDiff, Nat.reduceAdd, Nat.reduceSub, Nat.reduceMul, Nat.reduceLT, Nat.reduceLeDiff, reduceCtorEq, binD, binInt, binStr, eqD, eqCell, eqCells, eqN, boolD, okD, aggD, unD, pickD, chkD, convD, sameD, strD, faddrD, fldD, idxD, extD, lenD, mxD, mnD, sliceD, slice3D, bndD, loadD, fillD, splice, D.cells, D.ok, D.one, D.pt, D.pt1, D.pt0, D.norm1, D.norm, cond_true, cond_false, true_and, and_true, and_self, Bool.true_and, Bool.and_true, Bool.false_and, Bool.and_false, Bool.not_true, Bool.not_false, Bool.true_or, Bool.false_or, Bool.or_true, Bool.or_false, List.getElem?_cons_zero, List.getElem?_cons_succ, List.getElem?_nil, List.length_cons, List.length_nil, List.length_map, List.length_append, List.length_set, List.length_take, List.length_drop, List.length_replicate, List.take_succ_cons, List.take_zero, List.take_nil, List.drop_succ_cons, List.drop_zero, List.drop_nil, List.cons_append, List.nil_append, List.append_nil, List.map_cons, List.map_nil, List.all_cons, List.all_nil, List.set_cons_zero, List.set_cons_succ, List.isEmpty_cons, List.isEmpty_nil, List.forall_mem_cons, List.not_mem_nil, List.forall_mem_nil, false_imp_iff, implies_true, ne_eq, not_false_eq_true, Option.map_some, Option.map_none, Nat.zero_add, Nat.add_zero, Nat.sub_self, Int.toNat_natCast, Int.reduceToNat, Int.reduceLT, Int.reduceLE, Int.reduceEq, Int.reduceBEq, beq_self_eq_true, Int.reduceNeg, decide_true, decide_false, IntKind.bits, Nat.min_eq_left, Int.reducePow, Nat.reducePow, Int.fdiv_eq_ediv_of_nonneg, Nat.lt_irrefl, Int.le_refl, Nat.le_refl, Int.natCast_nonneg, Nat.lt_add_one, Nat.zero_lt_succ, view, view2, view1, view0, mapO, capsD_fn, D.sc, D.sc1, D.sc2, pull, pull2, pull1, pull0, idx_hit, idx_miss, idx_nil, sucO_some, sucO_none, gate, pullσ, pullOb, Go.Vi.freeze, Go.Vi.freeze1, capt, capt.captL, reachL, reachO, isin, List.flatten_cons, List.flatten_nil, merge, mset, renOb, fr, D.ren, D.renL, List.getD_cons_zero, List.getD_cons_succ, List.nodup_cons, List.nodup_nil, List.mem_cons, or_false, false_or, resK_nil, resK_tmp, resK_cell, ResC_ptr, ResO_some, ResR_some, ResL_some, ofRes, List.reverse_nil, Option.some.injEq, D.bool.injEq, D.int.injEq, D.str.injEq, D.agg.injEq, D.tup.injEq, D.list.injEq, D.ptr.injEq, D.own.injEq, List.cons.injEq, BndE_fn]))
  skip
noncomputable def winS (b : Int) (ts : List Tn) (sh : List Sf) (off : List Int) (w : Sp) : List Sp := if (hoursB sh off && (zoneB b ts && !longB w)) = true then canOf (winB b ts sh off w) else []
theorem foundZero (b : Int) (ts : List Tn) (sh : List Sf) (off : List Int) (lo : Int) : Vi.Found b ts sh off lo lo [] :=
 ⟨fun m => by rw [hasS_nil]; symm; rw [Bool.and_eq_false_iff]; left; rw [decide_eq_false_iff_not]; omega, by simp, by simp⟩
theorem exTK10 : type_of% (an @row1_len (an @row2_len (an @row3_len @rowsS_len))) := (an @row1_len (an @row2_len (an @row3_len @rowsS_len)))
set_option maxHeartbeats 8000000 in
theorem spans_p (b : Int) (ts : List Tn) (sh : List Sf) (off : List Int) (w : Sp) (f1 : ts.length ≤ 140737488351232) (f2 : sh.length ≤ 140737488351232) (f3 : off.length ≤ 140737488351232) (g1 : Fit w.1) (g2 : Fit w.2) :
  PureD Try.prog 12 [Zn b ts, .agg (Hr sh off), .agg [.int .i64 w.1, .int .i64 w.2]] (LS (winS b ts sh off w)) := by
 refine pureV Try.func12 low12 (by simp [c12]) ?_
 simp only [c12]
 unfold winS
 have hm := hoursMay_p sh off f2 f3
 cases hh : hoursB sh off
 ·rw [hh] at hm
  rw [Bool.false_and, if_neg (by simp)]
  simp only [LS, show rowsS [] = [] from rfl]
  exact wk0 [] [] exTK10
 rw [hh] at hm
 rw [Bool.true_and]
 have zm := zoneMay_p b ts f1
 cases hz : zoneB b ts
 ·rw [hz] at zm
  rw [Bool.false_and, if_neg (by simp)]
  simp only [LS, show rowsS [] = [] from rfl]
  exact wk0 [] [] exTK10
 rw [hz] at zm
 rw [Bool.true_and]
 have lg := long_p w g1 g2
 cases hlg : longB w
 ·rw [hlg] at lg
  rw [Bool.not_false, if_pos rfl]
  have ho := hoursOk hh
  have zo := zoneOk hz
  have mE := mxE
  have nE := mnE
  unfold Fit at g1 g2
  have hlw : w.2 ≤ w.1 ∨ w.2 - w.1 ≤ 527040 := by
   simp only [longB, Bool.and_eq_false_iff, decide_eq_false_iff_not] at hlg
   omega
  refine wk [] [] (an exTK10 (an mE nE)) ?_
  refine Run_ent (Ent_acc (t := 9) (b := true) 2 true (by decide) rfl) ?_
  obtain ⟨lo, hlo⟩ : ∃ lo, lo = max w.1 0 := ⟨_, rfl⟩
  obtain ⟨hi, hhi⟩ : ∃ hi, hi = min w.2 158310720 := ⟨_, rfl⟩
  rw [← hlo, ← hhi]
  refine Run_loop (ι := {p : Int × List Sp // Vi.Found b ts sh off lo p.1 p.2 ∧ lo ≤ p.1 ∧ (p.1 ≤ hi ∨ p.1 = lo)}) (fun p => ([(3, .ptr 1 0 0 1), (4, .ptr 2 0 0 1), (7, .int .i64 p.1.1), (8, .int .i64 hi), (9, .own 0 0 p.1.2.length p.1.2.length 2 none)],
   [acc true 2 true (rowsS p.1.2), ⟨true, false, true, false, 2, [[.int .i64 b, L (row2 .i64 .i64 ts)]], some 0⟩, ⟨true, false, true, false, 2, [Hr sh off], some 0⟩])) (fun p => (hi - p.1.1).toNat) ⟨(lo, []), foundZero _ _ _ _ _, Int.le_refl _, .inr rfl⟩ ?_ ?_
  ·dsimp only
   simp only [show rowsS [] = [] from rfl, List.length_nil]
   exact gcw [3, 0, 1] exTK10
   skip
  rintro ⟨⟨at_, out⟩, hf, hge, hle⟩ hk
  dsimp only at hf hge hle hk ⊢
  by_cases hlt : at_ < hi
  ·have c1 : (at_ < hi) = True := by simpa using hlt
   have nx := next_p at_ hz
   have of := offset_p at_ hz
   have ob := addO_b zo (bh ts at_)
   have hst := hf.step zo.asc (fun x hx => by have := ho.ok x hx; omega) ho.l1 (by omega) hge (by omega) hlt
   have sg := segTo_gt zo.asc hlt
   have k1 : lo ≤ segTo ts at_ hi := by omega
   have k2 : segTo ts at_ hi ≤ hi ∨ segTo ts at_ hi = lo := .inl sg.2
   have k3 : (hi - segTo ts at_ hi).toNat < (hi - at_).toNat := by omega
   have hol := hf.2.2
   have hpp := part_p sh off (at_, segTo ts at_ hi) (addO b ts (bh ts at_)) out ho (by dsimp only; omega) (by dsimp only; omega) (by dsimp only; omega) (by omega) (by omega) (by omega)
   have hnl : ((out ++ partL sh off (at_, segTo ts at_ hi) (addO b ts (bh ts at_)) ((at_ + addO b ts (bh ts at_)) / 1440) (daysN (at_, segTo ts at_ hi) (addO b ts (bh ts at_)))).length : Int) ≤ 30 * (segTo ts at_ hi - lo) := hst.2.2
   dsimp only at hpp
   generalize out ++ partL sh off (at_, segTo ts at_ hi) (addO b ts (bh ts at_)) ((at_ + addO b ts (bh ts at_)) / 1440) (daysN (at_, segTo ts at_ hi) (addO b ts (bh ts at_))) = O at hst hpp hnl
   generalize addO b ts (bh ts at_) = o at of ob hpp
   have e : segTo ts at_ hi = match nextT ts at_ with | some n => min n hi | none => hi := rfl
   cases hn : nextT ts at_ with
   | none =>
    rw [hn] at nx e
    dsimp only at e
    rw [e] at hst hpp hnl k1 k2 k3
    simp only [Option.getD_none, Option.isSome_none] at nx
    refine wk [24] [] (an exTK10 (an c1 (an mE nE))) ?_
    refine hk ⟨(hi, O), hst, k1, k2⟩ _ _ k3 ?_
    dsimp only
    exact gcw [0, 1, 2] exTK10
   | some n =>
    rw [hn] at nx e
    dsimp only at e
    rw [e] at hst hpp hnl k1 k2 k3
    simp only [Option.getD_some, Option.isSome_some] at nx
    refine wk [24] [] (an exTK10 (an c1 (an mE nE))) ?_
    refine hk ⟨(min n hi, O), hst, k1, k2⟩ _ _ k3 ?_
    dsimp only
    exact gcw [0, 1, 2] exTK10
  ·have c1 : (at_ < hi) = False := by simpa using hlt
   have hfin : formS (sortS out) = canOf (winB b ts sh off w) := by
    refine Vi.Found.form hf (sortS_perm out) (sortS_sorted out) w fun m hm => ?_
    simp only [workB, Bool.and_eq_true, decide_eq_true_eq] at hm
    omega
   have hol := hf.2.2
   have hoL : out.length ≤ 10000000000 := by omega
   rw [← hfin]
   by_cases hne : out = []
   ·subst hne
    have e : formS (sortS []) = [] := by
     have := sortS_len []
     rw [List.eq_nil_of_length_eq_zero this]; rfl
    rw [e]
    simp only [LS, show rowsS [] = [] from rfl, List.length_nil]
    refine Run_seq ?_
    refine Run_ent (Ent_emp (t := 9) (l := 0) (b := true) (pu := true) (sz := 2) rfl rfl) ?_
    repeat' ((first | refine Run_seq ?_ | refine Run_skip ?_ | refine Run_block ?_ | refine Run_blk ?_ | refine Run_exit rfl ?_ | refine Run_ret ?_ | refine Run_nil ?_ | refine Run_condK ?_ | refine Run_ops mixed ?_ | refine Run_opsX mixed ?_ | with_reducible refine PostV_open ?_ | with_reducible refine PostG_open ?_ | with_reducible refine PostQ_open ?_ | with_reducible refine ro_callA (f := .c (.fn 26 [])) ?_ | with_reducible refine ro_callA' (f := .c (.fn 26 [])) ?_ | with_reducible refine ro_callV ?_ | with_reducible refine ro_callVX ?_ | with_reducible refine CallE_use (joinedE_p) (by simp) ?_ | simp (disch := omega) only [w64, wu64, wu32, wu16, wu8, Int.tdiv_eq_ediv_of_nonneg, Int.tmod_eq_emod_of_nonneg] | (with_reducible refine SliceK_own rfl rfl ?_ ?_; (focus ((try simp only [row1_len, row2_len, row3_len, rowsS_len, reduceIte, Int.natCast_nonneg, Int.le_refl, List.length_append, List.length_map, Nat.sub_zero]) <;> ((repeat' (with_reducible refine And.intro ?_ ?_)) <;> first | exact trivial | assumption | (simp; done) | (simp only [List.length_map] at *; omega) | omega | (simp [D.cells, D.ok, D.one, D.pt, D.pt1]; done))))) | (refine GuardK_split (fun hc => ?_) (fun hc => ?_) <;> (try simp only [hc]) <;> (try simp at hc)) | (refine CondK_split (fun hc => ?_) (fun hc => ?_) <;> (try simp only [hc]) <;> (try simp at hc)) | (with_reducible refine And.intro ?_ ?_; (focus ((repeat' (with_reducible refine And.intro ?_ ?_)) <;> first | exact trivial | assumption | (simp; done) | (simp only [List.length_map] at *; omega) | omega | (simp [D.cells, D.ok, D.one, D.pt, D.pt1]; done)))) | (with_reducible intro x hx) | omega) <;> (try simp only [row1_len, row2_len, row3_len, rowsS_len, c1, ro_nil, oo_def, om_def, ol_def, oa_def, on_def, og_def, gm_def, gl_def, ga_def, kc_def, kx_def, gk_def, kk_def, kb_def, pf_def, pt_def, ro_mov, ro_mkfn, ro_pick, ro_build, ro_slit, SlitK_t, SlitK_f, ro_chk, ro_bin, ro_eq, ro_un, ro_conv, ro_same, ro_b2s, ro_faddr, ro_fld, ro_idx, ro_ext, ro_len, ro_mx, ro_mn, ro_slice, SliceK_str, SliceK_list, ro_slice3, ro_load, LoadK_elt, LoadK_ptr, LoadO_some, LoadR_some, LoadR_map, ro_box, ro_alloc, ro_store, StoreK_ptr, StoreO_some, StoreR_some, ro_iaddr, IaddrK_list, IaddrK_own, IaddrR_some, IaddrR_map, ro_app, ro_appz, newsD_list, newsD_str, newsD_own, newsO_some, newsC_list, newsC_str, newsC_own, newsCO_some, AppN_some, AppZ_int, AppS_nil, AppS_own, AppO_acc, ro_cap, CapK_own, CapO, ro_ovl, OvlK_own, OvlO_some, ro_copy, CopyK_own, CopyO_some, ro_clear, ClearK_own, ClearO_some, ClearK_nil, ro_mks, MksK_int, winD_all, viewS_list, viewS_own', viewO_some, eqO_ptr, eqO_bool, eqO_func, eqO_row, eqO_list, eqO_own, eqOo_some, rx_nil, rx_cons, keepK_nil, keepK_cons, keepE_nil, keepE_cons, keepN_nil, keepN_cons, D.names, D.namesL, acc_real, acc_nl, acc_pure, acc_fz, acc_sz, acc_rows, acc_spare, ro_guard, GuardK_tt, GuardK_no, GuardK_ff, GuardK_tf, GuardK_ft, CondK_t, CondK_f, contP_some, lk_nil, lk_hit, lk_miss, Nat.reduceBEq, put_some, put_none, ev_t, ev_c, argEnv, reduceIte, Nat.reduceEqDiff, Nat.reduceAdd, Nat.reduceSub, Nat.reduceMul, Nat.reduceLT, Nat.reduceLeDiff, reduceCtorEq, binD, binInt, binStr, eqD, eqCell, eqCells, eqN, boolD, okD, aggD, unD, pickD, chkD, convD, sameD, strD, faddrD, fldD, idxD, extD, lenD, mxD, mnD, sliceD, slice3D, bndD, loadD, fillD, splice, D.cells, D.ok, D.one, D.pt, D.pt1, D.pt0, D.norm1, D.norm, cond_true, cond_false, true_and, and_true, and_self, Bool.true_and, Bool.and_true, Bool.false_and, Bool.and_false, Bool.not_true, Bool.not_false, Bool.true_or, Bool.false_or, Bool.or_true, Bool.or_false, List.getElem?_cons_zero, List.getElem?_cons_succ, List.getElem?_nil, List.length_cons, List.length_nil, List.length_map, List.length_append, List.length_set, List.length_take, List.length_drop, List.length_replicate, List.take_succ_cons, List.take_zero, List.take_nil, List.drop_succ_cons, List.drop_zero, List.drop_nil, List.cons_append, List.nil_append, List.append_nil, List.map_cons, List.map_nil, List.all_cons, List.all_nil, List.set_cons_zero, List.set_cons_succ, List.isEmpty_cons, List.isEmpty_nil, List.forall_mem_cons, List.not_mem_nil, List.forall_mem_nil, false_imp_iff, implies_true, ne_eq, not_false_eq_true, Option.map_some, Option.map_none, Nat.zero_add, Nat.add_zero, Nat.sub_self, Int.toNat_natCast, Int.reduceToNat, Int.reduceLT, Int.reduceLE, Int.reduceEq, Int.reduceBEq, beq_self_eq_true, Int.reduceNeg, decide_true, decide_false, IntKind.bits, Nat.min_eq_left, Int.reducePow, Nat.reducePow, Int.fdiv_eq_ediv_of_nonneg, Nat.lt_irrefl, Int.le_refl, Nat.le_refl, Int.natCast_nonneg, Nat.lt_add_one, Nat.zero_lt_succ, view, view2, view1, view0, mapO, capsD_fn, D.sc, D.sc1, D.sc2, pull, pull2, pull1, pull0, idx_hit, idx_miss, idx_nil, sucO_some, sucO_none, gate, pullσ, pullOb, Go.Vi.freeze, Go.Vi.freeze1, capt, capt.captL, reachL, reachO, isin, List.flatten_cons, List.flatten_nil, merge, mset, renOb, fr, D.ren, D.renL, List.getD_cons_zero, List.getD_cons_succ, List.nodup_cons, List.nodup_nil, List.mem_cons, or_false, false_or, resK_nil, resK_tmp, resK_cell, ResC_ptr, ResO_some, ResR_some, ResL_some, ofRes, List.reverse_nil, Option.some.injEq, D.bool.injEq, D.int.injEq, D.str.injEq, D.agg.injEq, D.tup.injEq, D.list.injEq, D.ptr.injEq, D.own.injEq, List.cons.injEq, BndE_fn]))
    skip
   ·have jn := joined_p out hne (by omega)
    have fl := formS_len (sortS out)
    rw [sortS_len] at fl
    generalize formS (sortS out) = J at jn fl ⊢
    generalize sortS out = S at jn
    repeat' ((first | refine Run_seq ?_ | refine Run_skip ?_ | refine Run_block ?_ | refine Run_blk ?_ | refine Run_exit rfl ?_ | refine Run_ret ?_ | refine Run_nil ?_ | refine Run_condK ?_ | refine Run_ops mixed ?_ | refine Run_opsX mixed ?_ | with_reducible refine PostV_open ?_ | with_reducible refine PostG_open ?_ | with_reducible refine PostQ_open ?_ | with_reducible refine ro_callA (f := .c (.fn 26 [])) ?_ | with_reducible refine ro_callA' (f := .c (.fn 26 [])) ?_ | with_reducible refine ro_callV ?_ | with_reducible refine ro_callVX ?_ | with_reducible refine CallE_use (jn) (by simp) ?_ | simp (disch := omega) only [w64, wu64, wu32, wu16, wu8, Int.tdiv_eq_ediv_of_nonneg, Int.tmod_eq_emod_of_nonneg] | (with_reducible refine SliceK_own rfl rfl ?_ ?_; (focus ((try simp only [row1_len, row2_len, row3_len, rowsS_len, reduceIte, Int.natCast_nonneg, Int.le_refl, List.length_append, List.length_map, Nat.sub_zero]) <;> ((repeat' (with_reducible refine And.intro ?_ ?_)) <;> first | exact trivial | assumption | (simp; done) | (simp only [List.length_map] at *; omega) | omega | (simp [D.cells, D.ok, D.one, D.pt, D.pt1]; done))))) | (refine GuardK_split (fun hc => ?_) (fun hc => ?_) <;> (try simp only [hc]) <;> (try simp at hc)) | (refine CondK_split (fun hc => ?_) (fun hc => ?_) <;> (try simp only [hc]) <;> (try simp at hc)) | (with_reducible refine And.intro ?_ ?_; (focus ((repeat' (with_reducible refine And.intro ?_ ?_)) <;> first | exact trivial | assumption | (simp; done) | (simp only [List.length_map] at *; omega) | omega | (simp [D.cells, D.ok, D.one, D.pt, D.pt1]; done)))) | (with_reducible intro x hx) | omega) <;> (try simp only [row1_len, row2_len, row3_len, rowsS_len, c1, ro_nil, oo_def, om_def, ol_def, oa_def, on_def, og_def, gm_def, gl_def, ga_def, kc_def, kx_def, gk_def, kk_def, kb_def, pf_def, pt_def, ro_mov, ro_mkfn, ro_pick, ro_build, ro_slit, SlitK_t, SlitK_f, ro_chk, ro_bin, ro_eq, ro_un, ro_conv, ro_same, ro_b2s, ro_faddr, ro_fld, ro_idx, ro_ext, ro_len, ro_mx, ro_mn, ro_slice, SliceK_str, SliceK_list, ro_slice3, ro_load, LoadK_elt, LoadK_ptr, LoadO_some, LoadR_some, LoadR_map, ro_box, ro_alloc, ro_store, StoreK_ptr, StoreO_some, StoreR_some, ro_iaddr, IaddrK_list, IaddrK_own, IaddrR_some, IaddrR_map, ro_app, ro_appz, newsD_list, newsD_str, newsD_own, newsO_some, newsC_list, newsC_str, newsC_own, newsCO_some, AppN_some, AppZ_int, AppS_nil, AppS_own, AppO_acc, ro_cap, CapK_own, CapO, ro_ovl, OvlK_own, OvlO_some, ro_copy, CopyK_own, CopyO_some, ro_clear, ClearK_own, ClearO_some, ClearK_nil, ro_mks, MksK_int, winD_all, viewS_list, viewS_own', viewO_some, eqO_ptr, eqO_bool, eqO_func, eqO_row, eqO_list, eqO_own, eqOo_some, rx_nil, rx_cons, keepK_nil, keepK_cons, keepE_nil, keepE_cons, keepN_nil, keepN_cons, D.names, D.namesL, acc_real, acc_nl, acc_pure, acc_fz, acc_sz, acc_rows, acc_spare, ro_guard, GuardK_tt, GuardK_no, GuardK_ff, GuardK_tf, GuardK_ft, CondK_t, CondK_f, contP_some, lk_nil, lk_hit, lk_miss, Nat.reduceBEq, put_some, put_none, ev_t, ev_c, argEnv, reduceIte, Nat.reduceEqDiff, Nat.reduceAdd, Nat.reduceSub, Nat.reduceMul, Nat.reduceLT, Nat.reduceLeDiff, reduceCtorEq, binD, binInt, binStr, eqD, eqCell, eqCells, eqN, boolD, okD, aggD, unD, pickD, chkD, convD, sameD, strD, faddrD, fldD, idxD, extD, lenD, mxD, mnD, sliceD, slice3D, bndD, loadD, fillD, splice, D.cells, D.ok, D.one, D.pt, D.pt1, D.pt0, D.norm1, D.norm, cond_true, cond_false, true_and, and_true, and_self, Bool.true_and, Bool.and_true, Bool.false_and, Bool.and_false, Bool.not_true, Bool.not_false, Bool.true_or, Bool.false_or, Bool.or_true, Bool.or_false, List.getElem?_cons_zero, List.getElem?_cons_succ, List.getElem?_nil, List.length_cons, List.length_nil, List.length_map, List.length_append, List.length_set, List.length_take, List.length_drop, List.length_replicate, List.take_succ_cons, List.take_zero, List.take_nil, List.drop_succ_cons, List.drop_zero, List.drop_nil, List.cons_append, List.nil_append, List.append_nil, List.map_cons, List.map_nil, List.all_cons, List.all_nil, List.set_cons_zero, List.set_cons_succ, List.isEmpty_cons, List.isEmpty_nil, List.forall_mem_cons, List.not_mem_nil, List.forall_mem_nil, false_imp_iff, implies_true, ne_eq, not_false_eq_true, Option.map_some, Option.map_none, Nat.zero_add, Nat.add_zero, Nat.sub_self, Int.toNat_natCast, Int.reduceToNat, Int.reduceLT, Int.reduceLE, Int.reduceEq, Int.reduceBEq, beq_self_eq_true, Int.reduceNeg, decide_true, decide_false, IntKind.bits, Nat.min_eq_left, Int.reducePow, Nat.reducePow, Int.fdiv_eq_ediv_of_nonneg, Nat.lt_irrefl, Int.le_refl, Nat.le_refl, Int.natCast_nonneg, Nat.lt_add_one, Nat.zero_lt_succ, view, view2, view1, view0, mapO, capsD_fn, D.sc, D.sc1, D.sc2, pull, pull2, pull1, pull0, idx_hit, idx_miss, idx_nil, sucO_some, sucO_none, gate, pullσ, pullOb, Go.Vi.freeze, Go.Vi.freeze1, capt, capt.captL, reachL, reachO, isin, List.flatten_cons, List.flatten_nil, merge, mset, renOb, fr, D.ren, D.renL, List.getD_cons_zero, List.getD_cons_succ, List.nodup_cons, List.nodup_nil, List.mem_cons, or_false, false_or, resK_nil, resK_tmp, resK_cell, ResC_ptr, ResO_some, ResR_some, ResL_some, ofRes, List.reverse_nil, Option.some.injEq, D.bool.injEq, D.int.injEq, D.str.injEq, D.agg.injEq, D.tup.injEq, D.list.injEq, D.ptr.injEq, D.own.injEq, List.cons.injEq, BndE_fn]))
    skip
 ·rw [hlg] at lg
  rw [Bool.not_true, if_neg (by simp)]
  simp only [LS, show rowsS [] = [] from rfl]
  exact wk0 [] [] exTK10
end Go.Proofs.Ytoljgjdloegnoaa

namespace Go.Proofs.Ytoljgjdloegnoaa
open Go Go.Vi
theorem fixed_row : winS 0 [] [(31, 540, 1020)] [] (0, 10080) = [(540, 1020), (1980, 2460), (3420, 3900), (4860, 5340), (6300, 6780)] := by
 unfold winS
 rw [if_pos (by decide)]
 refine canOf_eq (by simp [Vi.Can]) fun m => ?_
 rw [Bool.eq_iff_iff]
 simp only [winB, workB, locB, onB, addO, bh, List.countP_nil, List.any_cons, List.any_nil, Bool.or_false, Bool.and_eq_true, decide_eq_true_eq, hasS_cons, hasS_nil, inS, Bool.or_eq_true, List.contains_nil, Bool.not_false, true_and, Int.add_zero]
 constructor
 ·intro h
  have h1 : 0 ≤ m ∧ m < 10080 := by omega
  refine ⟨h1, by omega, ?_, by omega⟩
  have h2 : m / 1440 % 7 = 0 ∨ m / 1440 % 7 = 1 ∨ m / 1440 % 7 = 2 ∨ m / 1440 % 7 = 3 ∨ m / 1440 % 7 = 4 := by omega
  rcases h2 with h2 | h2 | h2 | h2 | h2 <;> (rw [h2]; decide)
 ·rintro ⟨h1, h2, h3, h4, h5⟩
  have h6 : m / 1440 % 7 ≤ 4 := by
   by_cases h7 : m / 1440 % 7 ≤ 4
   ·exact h7
   ·have h8 : m / 1440 % 7 = 5 ∨ m / 1440 % 7 = 6 := by omega
    rcases h8 with h8 | h8 <;> (rw [h8] at h3; exact absurd h3 (by decide))
  omega
set_option maxHeartbeats 2000000 in
theorem fixed_p : PureD Try.prog 9 [] (.bool true) := by
 have hf : PureD Try.prog 12 [Zn 0 [], .agg (Hr [(31, 540, 1020)] []), .agg [.int .i64 0, .int .i64 10080]] (LS [(540, 1020), (1980, 2460), (3420, 3900), (4860, 5340), (6300, 6780)]) := by
  have := spans_p 0 [] [(31, 540, 1020)] [] (0, 10080) (by simp) (by simp) (by simp) (by simp [Fit]) (by simp [Fit])
  rwa [fixed_row] at this
 simp only [Zn, Hr, LS, row3, row2, row1, List.map_cons, List.map_nil, rowsS] at hf
 refine pureV Try.func9 low9 (by simp [c9]) ?_
 simp only [c9]
 repeat' ((first | refine Run_seq ?_ | refine Run_skip ?_ | refine Run_block ?_ | refine Run_blk ?_ | refine Run_exit rfl ?_ | refine Run_ret ?_ | refine Run_nil ?_ | refine Run_condK ?_ | refine Run_ops mixed ?_ | refine Run_opsX mixed ?_ | with_reducible refine PostV_open ?_ | with_reducible refine PostG_open ?_ | with_reducible refine PostQ_open ?_ | with_reducible refine ro_callV ?_ | with_reducible refine ro_callVX ?_ | refine CallV_pure (hf) ?_ ?_ | simp (disch := omega) only [w64, wu64, wu32, wu16, wu8, Int.tdiv_eq_ediv_of_nonneg, Int.tmod_eq_emod_of_nonneg] | (with_reducible refine SliceK_own rfl rfl ?_ ?_; (focus ((try simp only [row1_len, row2_len, row3_len, rowsS_len, reduceIte, Int.natCast_nonneg, Int.le_refl, List.length_append, List.length_map, Nat.sub_zero]) <;> ((repeat' (with_reducible refine And.intro ?_ ?_)) <;> first | exact trivial | assumption | (simp; done) | (simp only [List.length_map] at *; omega) | omega | (simp [D.cells, D.ok, D.one, D.pt, D.pt1]; done))))) | (refine GuardK_split (fun hc => ?_) (fun hc => ?_) <;> (try simp only [hc]) <;> (try simp at hc)) | (refine CondK_split (fun hc => ?_) (fun hc => ?_) <;> (try simp only [hc]) <;> (try simp at hc)) | (with_reducible refine And.intro ?_ ?_; (focus ((repeat' (with_reducible refine And.intro ?_ ?_)) <;> first | exact trivial | assumption | (simp; done) | (simp only [List.length_map] at *; omega) | omega | (simp [D.cells, D.ok, D.one, D.pt, D.pt1]; done)))) | (with_reducible intro x hx) | omega) <;> (try simp only [row1_len, row2_len, row3_len, rowsS_len, ro_nil, oo_def, om_def, ol_def, oa_def, on_def, og_def, gm_def, gl_def, ga_def, kc_def, kx_def, gk_def, kk_def, kb_def, pf_def, pt_def, ro_mov, ro_mkfn, ro_pick, ro_build, ro_slit, SlitK_t, SlitK_f, ro_chk, ro_bin, ro_eq, ro_un, ro_conv, ro_same, ro_b2s, ro_faddr, ro_fld, ro_idx, ro_ext, ro_len, ro_mx, ro_mn, ro_slice, SliceK_str, SliceK_list, ro_slice3, ro_load, LoadK_elt, LoadK_ptr, LoadO_some, LoadR_some, LoadR_map, ro_box, ro_alloc, ro_store, StoreK_ptr, StoreO_some, StoreR_some, ro_iaddr, IaddrK_list, IaddrK_own, IaddrR_some, IaddrR_map, ro_app, ro_appz, newsD_list, newsD_str, newsD_own, newsO_some, newsC_list, newsC_str, newsC_own, newsCO_some, AppN_some, AppZ_int, AppS_nil, AppS_own, AppO_acc, ro_cap, CapK_own, CapO, ro_ovl, OvlK_own, OvlO_some, ro_copy, CopyK_own, CopyO_some, ro_clear, ClearK_own, ClearO_some, ClearK_nil, ro_mks, MksK_int, winD_all, viewS_list, viewS_own', viewO_some, eqO_ptr, eqO_bool, eqO_func, eqO_row, eqO_list, eqO_own, eqOo_some, rx_nil, rx_cons, keepK_nil, keepK_cons, keepE_nil, keepE_cons, keepN_nil, keepN_cons, D.names, D.namesL, acc_real, acc_nl, acc_pure, acc_fz, acc_sz, acc_rows, acc_spare, ro_guard, GuardK_tt, GuardK_no, GuardK_ff, GuardK_tf, GuardK_ft, CondK_t, CondK_f, contP_some, lk_nil, lk_hit, lk_miss, Nat.reduceBEq, put_some, put_none, ev_t, ev_c, argEnv, reduceIte, Nat.reduceEqDiff, Nat.reduceAdd, Nat.reduceSub, Nat.reduceMul, Nat.reduceLT, Nat.reduceLeDiff, reduceCtorEq, binD, binInt, binStr, eqD, eqCell, eqCells, eqN, boolD, okD, aggD, unD, pickD, chkD, convD, sameD, strD, faddrD, fldD, idxD, extD, lenD, mxD, mnD, sliceD, slice3D, bndD, loadD, fillD, splice, D.cells, D.ok, D.one, D.pt, D.pt1, D.pt0, D.norm1, D.norm, cond_true, cond_false, true_and, and_true, and_self, Bool.true_and, Bool.and_true, Bool.false_and, Bool.and_false, Bool.not_true, Bool.not_false, Bool.true_or, Bool.false_or, Bool.or_true, Bool.or_false, List.getElem?_cons_zero, List.getElem?_cons_succ, List.getElem?_nil, List.length_cons, List.length_nil, List.length_map, List.length_append, List.length_set, List.length_take, List.length_drop, List.length_replicate, List.take_succ_cons, List.take_zero, List.take_nil, List.drop_succ_cons, List.drop_zero, List.drop_nil, List.cons_append, List.nil_append, List.append_nil, List.map_cons, List.map_nil, List.all_cons, List.all_nil, List.set_cons_zero, List.set_cons_succ, List.isEmpty_cons, List.isEmpty_nil, List.forall_mem_cons, List.not_mem_nil, List.forall_mem_nil, false_imp_iff, implies_true, ne_eq, not_false_eq_true, Option.map_some, Option.map_none, Nat.zero_add, Nat.add_zero, Nat.sub_self, Int.toNat_natCast, Int.reduceToNat, Int.reduceLT, Int.reduceLE, Int.reduceEq, Int.reduceBEq, beq_self_eq_true, Int.reduceNeg, decide_true, decide_false, IntKind.bits, Nat.min_eq_left, Int.reducePow, Nat.reducePow, Int.fdiv_eq_ediv_of_nonneg, Nat.lt_irrefl, Int.le_refl, Nat.le_refl, Int.natCast_nonneg, Nat.lt_add_one, Nat.zero_lt_succ, view, view2, view1, view0, mapO, capsD_fn, D.sc, D.sc1, D.sc2, pull, pull2, pull1, pull0, idx_hit, idx_miss, idx_nil, sucO_some, sucO_none, gate, pullσ, pullOb, Go.Vi.freeze, Go.Vi.freeze1, capt, capt.captL, reachL, reachO, isin, List.flatten_cons, List.flatten_nil, merge, mset, renOb, fr, D.ren, D.renL, List.getD_cons_zero, List.getD_cons_succ, List.nodup_cons, List.nodup_nil, List.mem_cons, or_false, false_or, resK_nil, resK_tmp, resK_cell, ResC_ptr, ResO_some, ResR_some, ResL_some, ofRes, List.reverse_nil, Option.some.injEq, D.bool.injEq, D.int.injEq, D.str.injEq, D.agg.injEq, D.tup.injEq, D.list.injEq, D.ptr.injEq, D.own.injEq, List.cons.injEq, BndE_fn]))
 skip
def greatB (ts : List Tn) (sh : List Sf) (off : List Int) : Bool := decide (8 < ts.length) || (decide (20 < sh.length) || decide (100 < off.length))
theorem exTK11 : type_of% (an @row1_len (an @row2_len (an @row3_len @rowsS_len))) := (an @row1_len (an @row2_len (an @row3_len @rowsS_len)))
theorem great_p (b : Int) (ts : List Tn) (sh : List Sf) (off : List Int) : PureD Try.prog 8 [Zn b ts, .agg (Hr sh off)] (.bool (greatB ts sh off)) := by
 refine pureV Try.func8 low8 (by simp [c8]) ?_
 simp only [c8]
 unfold greatB
 exact wk1 [] [] exTK11
theorem z0 : (((0 : Nat) : Int) == 0) = true := by simp
end Go.Proofs.Ytoljgjdloegnoaa

namespace Go.Proofs.Ytoljgjdloegnoaa
open Go Go.Vi
abbrev sh1 (b : Nat) (k : IntKind) : Sh := .slice b [.int k]
abbrev sh2 (b : Nat) (k m : IntKind) : Sh := .slice b [.int k, .int m]
abbrev sh3 : Sh := .slice 24 [.int .i64, .int .i64, .int .i64]
theorem rows_map {α : Type} {f : α → List D} {shs : List Sh} {Q : α → Prop} (hd : ∀ ds, FitsAll shs ds → ∃ x, ds = f x ∧ Q x) : ∀ rows : List (List D), (∀ r ∈ rows, FitsAll shs r) → ∃ l : List α, rows = l.map f ∧ ∀ x ∈ l, Q x
 | [], _ => ⟨[], rfl, by simp⟩
 | r :: rows, h => by
  obtain ⟨l, hl, hq⟩ := rows_map hd rows fun r hr => h r (by simp [hr])
  obtain ⟨x, hx, qx⟩ := hd r (h r (by simp))
  refine ⟨x :: l, by rw [hx, hl]; rfl, fun y hy => ?_⟩
  rcases List.mem_cons.1 hy with rfl | h
  ·exact qx
  ·exact hq y h
theorem fitL {α : Type} {f : α → List D} {shs : List Sh} {Q : α → Prop} {b : Nat} {d : D} (hd : ∀ ds, FitsAll shs ds → ∃ x, ds = f x ∧ Q x) (h : Fits (.slice b shs) d) : ∃ l : List α, d = L (l.map f) ∧ l.length * b ≤ 140737488351232 ∧ ∀ x ∈ l, Q x := by
 simp only [Fits] at h
 obtain ⟨rows, rfl, hl, hr⟩ := h
 obtain ⟨l, rfl, hq⟩ := rows_map hd rows hr
 exact ⟨l, rfl, by simpa using hl, hq⟩
theorem fit1 {b : Nat} {k : IntKind} {d : D} (hb : 0 < b) (h : Fits (sh1 b k) d) : ∃ l : List Int, d = L (row1 k l) ∧ l.length ≤ 140737488351232 := by
 obtain ⟨l, h1, h2, _⟩ := fitL (f := fun x : Int => [D.int k x]) (Q := fun _ => True) (fun ds h => by
  simp only [FitsAll, Fits] at h
  obtain ⟨_, _, rfl, ⟨n, rfl, _⟩, rfl⟩ := h
  exact ⟨n, rfl, trivial⟩) h
 exact ⟨l, h1, Nat.le_trans (Nat.le_mul_of_pos_right _ hb) h2⟩
theorem fit2 {b : Nat} {k m : IntKind} {d : D} (hb : 0 < b) (h : Fits (sh2 b k m) d) : ∃ l : List (Int × Int), d = L (row2 k m l) ∧ l.length ≤ 140737488351232 := by
 obtain ⟨l, h1, h2, _⟩ := fitL (f := fun x : Int × Int => [D.int k x.1, D.int m x.2]) (Q := fun _ => True) (fun ds h => by
  simp only [FitsAll, Fits] at h
  obtain ⟨_, _, rfl, ⟨n, rfl, _⟩, _, _, rfl, ⟨n', rfl, _⟩, rfl⟩ := h
  exact ⟨(n, n'), rfl, trivial⟩) h
 exact ⟨l, h1, Nat.le_trans (Nat.le_mul_of_pos_right _ hb) h2⟩
theorem fit3 {d : D} (h : Fits sh3 d) : ∃ l : List (Int × Int × Int), d = L (row3 l) ∧ l.length ≤ 140737488351232 := by
 obtain ⟨l, h1, h2, _⟩ := fitL (f := fun x : Int × Int × Int => [D.int .i64 x.1, D.int .i64 x.2.1, D.int .i64 x.2.2]) (Q := fun _ => True) (fun ds h => by
  simp only [FitsAll, Fits] at h
  obtain ⟨_, _, rfl, ⟨n, rfl, _⟩, _, _, rfl, ⟨n', rfl, _⟩, _, _, rfl, ⟨n'', rfl, _⟩, rfl⟩ := h
  exact ⟨(n, n', n''), rfl, trivial⟩) h
 exact ⟨l, h1, by omega⟩
theorem fitM {d : D} (h : Fits (.int .i64) d) : ∃ n, d = .int .i64 n ∧ Fit n := by
 simp only [Fits] at h
 obtain ⟨n, h, h1, h2⟩ := h
 simp only [IntKind.min, IntKind.max, IntKind.bits, IntKind.signed] at h1 h2
 exact ⟨n, h, by unfold Fit; simp at h1 h2; omega⟩
def shZ : List Sh := [.int .i64, .slice 16 [.int .i64, .int .i64]]
def shH : List Sh := [.slice 24 [.int .i64, .int .i64, .int .i64], .slice 8 [.int .i64]]
theorem decZ {ds : List D} (h : FitsAll shZ ds) : ∃ b ts, ds = [.int .i64 b, L (row2 .i64 .i64 ts)] ∧ ts.length ≤ 140737488351232 := by
 simp only [shZ, FitsAll] at h
 obtain ⟨_, _, rfl, h1, _, _, rfl, h2, rfl⟩ := h
 obtain ⟨b, rfl, _⟩ := fitM h1
 obtain ⟨ts, rfl, g⟩ := fit2 (by decide) h2
 exact ⟨b, ts, rfl, g⟩
theorem decH {ds : List D} (h : FitsAll shH ds) : ∃ sh off, ds = Hr sh off ∧ sh.length ≤ 140737488351232 ∧ off.length ≤ 140737488351232 := by
 simp only [shH, FitsAll] at h
 obtain ⟨_, _, rfl, h1, _, _, rfl, h2, rfl⟩ := h
 obtain ⟨sh, rfl, g1⟩ := fit3 h1
 obtain ⟨off, rfl, g2⟩ := fit1 (by decide) h2
 exact ⟨sh, off, rfl, g1, g2⟩
theorem decS {ds : List D} (h : FitsAll [.int .i64, .int .i64, .int .i64] ds) : ∃ s : Sf, ds = [.int .i64 s.1, .int .i64 s.2.1, .int .i64 s.2.2] ∧ Fit s.1 ∧ Fit s.2.1 ∧ Fit s.2.2 := by
 simp only [FitsAll] at h
 obtain ⟨_, _, rfl, h1, _, _, rfl, h2, _, _, rfl, h3, rfl⟩ := h
 obtain ⟨x, rfl, g1⟩ := fitM h1
 obtain ⟨y, rfl, g2⟩ := fitM h2
 obtain ⟨z, rfl, g3⟩ := fitM h3
 exact ⟨(x, y, z), rfl, g1, g2, g3⟩
end Go.Proofs.Ytoljgjdloegnoaa

namespace Go.Proofs.Ytoljgjdloegnoaa
open Go Go.Vi
def insO (d : Int) (s : List Int × Bool) (n : Int) : List Int × Bool := if s.2 = false ∧ d < n then (s.1 ++ [d] ++ [n], true) else (s.1 ++ [n], s.2)
def insG (d : Int) (l : List Int) : List Int × Bool := l.foldl (insO d) ([], false)
def lessO (d : Int) (l : List Int) : List Int := if (insG d l).2 = true then (insG d l).1 else (insG d l).1 ++ [d]
theorem ins_take {d : Int} {l : List Int} {i : Nat} {x : Int} (h : l[i]? = some x) : insG d (l.take (i + 1)) = insO d (insG d (l.take i)) x := by
 have : l.take (i + 1) = l.take i ++ [x] := by rw [List.take_add_one, h]; rfl
 rw [this]; simp [insG]
theorem ins_mem (d : Int) : ∀ (l : List Int) (s : List Int × Bool) (x : Int), x ∈ s.1 ∨ x ∈ l → x ∈ (l.foldl (insO d) s).1
 | [], s, x, h => by simpa using h
 | y :: l, s, x, h => by
  rw [List.foldl_cons]
  refine ins_mem d l _ x ?_
  have hk : x ∈ s.1 ∨ x = y → x ∈ (insO d s y).1 := fun h => by
   unfold insO
   split
   ·simp only [List.mem_append, List.mem_singleton]
    rcases h with h | h
    ·exact .inl (.inl h)
    ·exact .inr h
   ·simp only [List.mem_append, List.mem_singleton]
    exact h
  rcases h with h | h
  ·exact .inl (hk (.inl h))
  ·rcases List.mem_cons.1 h with h | h
   ·exact .inl (hk (.inr h))
   ·exact .inr h
theorem less_mem {d : Int} {l : List Int} {x : Int} (h : x ∈ l) : x ∈ lessO d l := by
 have := ins_mem d l ([], false) x (.inr h)
 unfold lessO
 split
 ·exact this
 ·exact List.mem_append_left _ this
theorem ins_len (d : Int) : ∀ (l : List Int) (s : List Int × Bool), (l.foldl (insO d) s).1.length ≤ s.1.length + 2 * l.length
 | [], s => by simp
 | y :: l, s => by
  rw [List.foldl_cons, List.length_cons]
  have h1 := ins_len d l (insO d s y)
  have h2 : (insO d s y).1.length ≤ s.1.length + 2 := by
   unfold insO
   split <;> simp
  omega
theorem less_len (d : Int) (l : List Int) : (lessO d l).length ≤ 2 * l.length + 1 := by
 have := ins_len d l ([], false)
 simp only [List.length_nil, Nat.zero_add] at this
 unfold lessO
 split
 ·show (l.foldl (insO d) ([], false)).1.length ≤ _
  omega
 ·rw [List.length_append]
  show (l.foldl (insO d) ([], false)).1.length + 1 ≤ _
  omega
theorem onB_sub {o o' : List Int} (h : ∀ x ∈ o, x ∈ o') {s : Sf} {n : Int} (h1 : onB o' s n = true) : onB o s n = true := by
 unfold onB at h1 ⊢
 simp only [Bool.and_eq_true, Bool.not_eq_true', List.contains_eq_mem, decide_eq_false_iff_not] at h1 ⊢
 exact ⟨fun hm => h1.1 (h n hm), h1.2⟩
theorem workB_sub {b : Int} {ts : List Tn} {sh : List Sf} {o o' : List Int} {u : Int} (h : ∀ x ∈ o, x ∈ o') (h1 : workB b ts sh o' u = true) : workB b ts sh o u = true := by
 unfold workB at h1 ⊢
 unfold locB at h1 ⊢
 simp only [Bool.and_eq_true, List.any_eq_true] at h1 ⊢
 obtain ⟨h2, s, hs, h3, h4⟩ := h1
 exact ⟨h2, s, hs, onB_sub h h3, h4⟩
theorem workB_more {b : Int} {ts : List Tn} {sh : List Sf} {o : List Int} {u : Int} (s : Sf) (h1 : workB b ts sh o u = true) : workB b ts (sh ++ [s]) o u = true := by
 unfold workB at h1 ⊢
 unfold locB at h1 ⊢
 simp only [Bool.and_eq_true, List.any_eq_true] at h1 ⊢
 obtain ⟨h2, s', hs, h3⟩ := h1
 exact ⟨h2, s', List.mem_append_left _ hs, h3⟩
theorem more_w {b : Int} {ts : List Tn} {sh : List Sf} {o : List Int} {u : Int} {s : Sf} (hm : hoursB (sh ++ [s]) o = true) (h : workZ b ts sh o u = true) : workZ b ts (sh ++ [s]) o u = true := by
 unfold workZ at h ⊢
 simp only [Bool.and_eq_true] at h ⊢
 exact ⟨hm, h.2.1, workB_more s h.2.2⟩
theorem less_w {b : Int} {ts : List Tn} {sh : List Sf} {o : List Int} {u d : Int} (hh : hoursB sh o = true) (h : workZ b ts sh (lessO d o) u = true) : workZ b ts sh o u = true := by
 unfold workZ at h ⊢
 simp only [Bool.and_eq_true] at h ⊢
 exact ⟨hh, h.2.1, workB_sub (fun x hx => less_mem hx) h.2.2⟩
theorem snoc1 {k : IntKind} (l : List Int) (x : Int) : row1 k l ++ [[D.int k x]] = row1 k (l ++ [x]) := by simp [row1]
theorem snoc3 (l : List Sf) (s : Sf) : row3 l ++ [[D.int .i64 s.1, D.int .i64 s.2.1, D.int .i64 s.2.2]] = row3 (l ++ [s]) := by simp [row3]
abbrev Zo (b : Int) (ts : List Tn) : Ob := ⟨true, false, true, false, 2, [[.int .i64 b, L (row2 .i64 .i64 ts)]], some 0⟩
abbrev Ho (sh : List Sf) (off : List Int) : Ob := ⟨true, false, true, false, 2, [[L (row3 sh), L (row1 .i64 off)]], some 0⟩
theorem exTK16 : type_of% (an @row1_len (an @row2_len (an @row3_len @rowsS_len))) := (an @row1_len (an @row2_len (an @row3_len @rowsS_len)))
set_option maxHeartbeats 8000000 in
theorem more_rest (b : Int) (ts : List Tn) (sh : List Sf) (off : List Int) (d u : Int) (f1 : ts.length ≤ 140737488351232) (f2 : sh.length ≤ 140737488351232) (f3 : off.length ≤ 100) (hh : hoursB sh off = true) :
  Run Try.prog 107 [] [.code c6_52] (PostV [.tmp 10] (.bool true)) [(3, .int .i64 d), (4, .int .i64 u), (5, .ptr 0 0 0 1), (6, .ptr 1 0 0 1)] [Zo b ts, Ho sh off] := by
 refine wk [] [] exTK16 ?_
 refine Run_ent (Ent_accC (l := 2) (j := 0) (i := 1) (b := true) 1 true (by decide) rfl rfl rfl rfl rfl) ?_
 refine Run_loop (ι := {i : Nat // i ≤ off.length}) (fun i => ([(3, .int .i64 d), (4, .int .i64 u), (5, .ptr 0 0 0 1), (6, .ptr 1 0 0 1), (12, .ptr 2 0 0 1), (13, .bool (insG d (off.take i.1)).2), (54, L (row1 .i64 off)), (55, .int .i64 off.length), (56, .int .i64 i.1)],
  [Zo b ts, Ho sh off, ⟨true, false, false, false, 2, [[L (row3 sh), .own 3 0 (insG d (off.take i.1)).1.length (insG d (off.take i.1)).1.length 1 none]], some 0⟩, acc true 1 true (row1 .i64 (insG d (off.take i.1)).1)])) (fun i => off.length - i.1) ⟨0, by omega⟩ ?_ ?_
 ·simp only [List.take_zero, show insG d [] = ([], false) from rfl, show row1 .i64 [] = [] from rfl, List.length_nil]
  exact gcw [0, 1, 2, 3] exTK16
 rintro ⟨i, hi⟩ hk
 dsimp only at hk ⊢
 have hql := ins_len d (off.take i) ([], false)
 simp only [List.length_nil, Nat.zero_add, List.length_take] at hql
 have hq : (insG d (off.take i)).1.length ≤ 200 := Nat.le_trans hql (by omega)
 clear hql
 by_cases hlt : i < off.length
 ·have c1 : ((i : Int) < (off.length : Int)) = True := by simp; omega
  obtain ⟨x, hx⟩ : ∃ x, off[i]? = some x := ⟨_, List.getElem?_eq_getElem hlt⟩
  have hr := row1_get (k := .i64) hx
  have ht := ins_take (d := d) hx
  generalize insG d (off.take i) = q at ht hq ⊢
  obtain ⟨Q, put⟩ := q
  dsimp only at ht hq ⊢
  have s1 := snoc1 (k := .i64) Q x
  have s2 := snoc1 (k := .i64) Q d
  have s3 := snoc1 (k := .i64) (Q ++ [d]) x
  cases put with
  | true =>
   have e : insO d (Q, true) x = (Q ++ [x], true) := by simp [insO]
   rw [e] at ht
   refine wk [] [] (an exTK16 (an c1 (an hr s1))) ?_
   refine hk ⟨i + 1, by omega⟩ _ _ (by dsimp only; omega) ?_
   dsimp only
   rw [ht]
   simp only [List.length_append, List.length_cons, List.length_nil]
   exact gcw [0, 1, 2, 3] exTK16
  | false =>
   by_cases hc : d < x
   ·have e : insO d (Q, false) x = (Q ++ [d] ++ [x], true) := by simp [insO, hc]
    have c2 : (x > d) = True := by simpa using hc
    rw [e] at ht
    refine wk [] [] (an exTK16 (an c1 (an c2 (an hr (an s2 s3))))) ?_
    refine hk ⟨i + 1, by omega⟩ _ _ (by dsimp only; omega) ?_
    dsimp only
    rw [ht]
    simp only [List.length_append, List.length_cons, List.length_nil]
    exact gcw [0, 1, 2, 3] exTK16
   ·have e : insO d (Q, false) x = (Q ++ [x], false) := by simp [insO, hc]
    have c2 : (x > d) = False := by simpa using hc
    rw [e] at ht
    refine wk [] [] (an exTK16 (an c1 (an c2 (an hr s1)))) ?_
    refine hk ⟨i + 1, by omega⟩ _ _ (by dsimp only; omega) ?_
    dsimp only
    rw [ht]
    simp only [List.length_append, List.length_cons, List.length_nil]
    exact gcw [0, 1, 2, 3] exTK16
 ·have c1 : ((i : Int) < (off.length : Int)) = False := by simp; omega
  obtain rfl : i = off.length := by omega
  rw [List.take_length] at hq ⊢
  have hll := less_len d off
  have rm := refHours_p sh (lessO d off) f2 (by omega)
  have wl := works_p b ts sh (lessO d off) u f1 f2 (by omega)
  have w0 := works_p b ts sh off u f1 f2 (by omega)
  have hle := less_w (b := b) (ts := ts) (u := u) (d := d) hh
  have hl : lessO d off = if (insG d off).2 = true then (insG d off).1 else (insG d off).1 ++ [d] := rfl
  generalize insG d off = q at hl hq ⊢
  obtain ⟨Q, put⟩ := q
  dsimp only at hl hq ⊢
  have s2 := snoc1 (k := .i64) Q d
  have fx := fixed_p
  generalize hoursB sh (lessO d off) = m at rm
  generalize workZ b ts sh (lessO d off) u = w at wl hle
  generalize workZ b ts sh off u = v at w0 hle
  generalize lessO d off = Y at rm wl hl
  cases put with
  | true =>
   simp only [if_true] at hl
   subst hl
   cases m
   ·exact wk0 [] [] (an exTK16 c1)
   ·cases w
    ·exact wk0 [] [] (an exTK16 c1)
    ·obtain rfl := hle rfl
     exact wk0 [] [] (an exTK16 c1)
  | false =>
   simp only [Bool.false_eq_true, if_false] at hl
   subst hl
   cases m
   ·exact wk0 [] [] (an exTK16 (an c1 s2))
   ·cases w
    ·exact wk0 [] [] (an exTK16 (an c1 s2))
    ·obtain rfl := hle rfl
     exact wk0 [] [] (an exTK16 (an c1 s2))
set_option maxHeartbeats 8000000 in
theorem hmore_p (b : Int) (ts : List Tn) (sh : List Sf) (off : List Int) (s : Sf) (d u : Int) (f1 : ts.length ≤ 140737488351232) (f2 : sh.length ≤ 140737488351232) (f3 : off.length ≤ 140737488351232) (g4 : Fit d) (g5 : Fit u) :
  PureD Try.prog 6 [Zn b ts, .agg (Hr sh off), .agg [.int .i64 s.1, .int .i64 s.2.1, .int .i64 s.2.2], .int .i64 d, .int .i64 u] (.bool true) := by
 refine pureV Try.func6 low6 (by simp [c6]) ?_
 simp only [c6]
 have gp := great_p b ts sh off
 have fx := fixed_p
 cases hg : greatB ts sh off
 case true =>
  rw [hg] at gp
  exact wk0 [] [] exTK16
 rw [hg] at gp
 simp only [greatB, Bool.or_eq_false_iff, decide_eq_false_iff_not] at hg
 obtain ⟨hg1, hg2, hg3⟩ := hg
 have z3 : ∀ r ∈ row3 sh, r.length = 3 := fun r hr => by
  unfold row3 at hr
  obtain ⟨x, _, rfl⟩ := List.mem_map.1 hr
  rfl
 have z4 : ∀ x : D, x = D.agg [.int .i64 s.1, .int .i64 s.2.1, .int .i64 s.2.2] → x.cells.length = 3 ∧ x.ok = true := fun x hx => by subst hx; exact ⟨rfl, rfl⟩
 have rm := refHours_p sh off f2 f3
 cases hh : hoursB sh off
 case false =>
  rw [hh] at rm
  exact wk0 [] [] exTK16
 rw [hh] at rm
 have hrest := more_rest b ts sh off d u f1 f2 (by omega) hh
 have r2 := refHours_p (sh ++ [s]) off (by rw [List.length_append]; simp; omega) f3
 have w1 := works_p b ts sh off u f1 f2 f3
 have w2 := works_p b ts (sh ++ [s]) off u f1 (by rw [List.length_append]; simp; omega) f3
 have hmw := more_w (b := b) (ts := ts) (sh := sh) (o := off) (u := u) (s := s)
 have sn := snoc3 sh s
 generalize hoursB (sh ++ [s]) off = m at r2 hmw
 generalize workZ b ts sh off u = w at w1 hmw
 generalize workZ b ts (sh ++ [s]) off u = v at w2 hmw
 obtain ⟨cr, hcr⟩ : ∃ cr, cr = c6_52 := ⟨_, rfl⟩
 rw [← hcr] at hrest
 rw [show c6_56 = LC.seq c6_0 (LC.seq c6_7 (LC.seq c6_8 (LC.seq c6_15 cr))) from by rw [hcr]; rfl]
 clear hcr
 cases m
 ·refine wk [] [] (an exTK16 sn) ?_
  refine Run_ent ?_ hrest
  exact gcw [0, 1] exTK16
 ·cases w
  ·refine wk [] [] (an exTK16 sn) ?_
   refine Run_ent ?_ hrest
   exact gcw [0, 1] exTK16
  ·obtain rfl := hmw rfl rfl
   refine wk [] [] (an exTK16 sn) ?_
   refine Run_ent ?_ hrest
   exact gcw [0, 1] exTK16
end Go.Proofs.Ytoljgjdloegnoaa
