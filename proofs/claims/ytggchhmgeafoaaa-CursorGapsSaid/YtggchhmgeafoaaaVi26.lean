import Derived.Test.YtggchhmgeafoaaaVi24
import Derived.Shelf.GgSortFunc.InsertionK
set_option linter.unusedVariables false
set_option linter.unusedSimpArgs false
set_option linter.unnecessarySimpa false
namespace Go.Vi
open Go Go.RowKit
abbrev encS (x : Int × Int) : List Value := [.int .i64 x.1, .int .i64 x.2]
def rowsS (l : List (Int × Int)) : List (List D) := l.map fun x => [.int .i64 x.1, .int .i64 x.2]
theorem rowsS_len {l : List (Int × Int)} : (rowsS l).length = l.length := by simp [rowsS]
theorem rowsS_get {l : List (Int × Int)} {i : Nat} {x : Int × Int} (h : l[i]? = some x) : (rowsS l)[i]? = some [.int .i64 x.1, .int .i64 x.2] := by simp [rowsS, h]
theorem rowsS_mem {l : List (Int × Int)} {r : List D} (h : r ∈ rowsS l) : ∃ x : Int × Int, r = [.int .i64 x.1, .int .i64 x.2] := by
 obtain ⟨x, _, rfl⟩ := List.mem_map.1 h
 exact ⟨x, rfl⟩
def flatS (l : List (Int × Int)) : List Value := l.flatMap encS
theorem flatS_len : ∀ l : List (Int × Int), (flatS l).length = l.length * 2
 | [] => rfl
 | x :: l => by
  have := flatS_len l
  simp only [flatS, List.flatMap_cons, List.length_append, encS, List.length_cons, List.length_nil] at this ⊢
  omega
theorem flatS_get : ∀ (l : List (Int × Int)) (j i : Nat) (x : Int × Int), l[j]? = some x → i < 2 → (flatS l)[j * 2 + i]? = (encS x)[i]?
 | [], j, i, x, h, _ => by simp at h
 | y :: l, 0, i, x, h, hi => by
  simp at h; subst h
  have e : flatS (y :: l) = encS y ++ flatS l := rfl
  rw [e, Nat.zero_mul, Nat.zero_add, List.getElem?_append_left (by simpa using hi)]
 | y :: l, j + 1, i, x, h, hi => by
  have e : flatS (y :: l) = encS y ++ flatS l := rfl
  rw [e, List.getElem?_append_right (by simp; omega), show (j + 1) * 2 + i - (encS y).length = j * 2 + i by simp; omega]
  exact flatS_get l j i x (by simpa using h) hi
theorem flatK_get (d : Array (Int × Int)) (t : Nat) (h : t < d.size * 2) : (Sort.flatK encS 2 d)[t]? = (flatS d.toList)[t]? := by
 have h1 : t / 2 < d.size := by omega
 have h2 : (flatS d.toList)[t]? = (encS d[t / 2])[t % 2]? := by
  have := flatS_get d.toList (t / 2) (t % 2) d[t / 2] (by rw [List.getElem?_eq_getElem (by simpa using h1)]; simp) (by omega)
  rw [← this]; congr 1; omega
 have h3 := Sort.get_flatK encS 2 d t h
 rw [Array.getElem?_eq_getElem (by simpa using h), h2]
 rw [getElem!_pos _ t (by simpa using h)] at h3
 rw [h3, getElem!_pos d (t / 2) h1]
 have h4 : t % 2 < 2 := by omega
 rw [List.getElem?_eq_getElem (by simpa using h4)]
 rw [getElem!_pos _ (t % 2) (by simpa using h4)]
theorem CallG.sort {P : Program} {f g : FuncId} {d d' : Array (Int × Int)} {R : List (List D)} (hs : d'.size = d.size) (hn : 0 < d.size + R.length) (en : Enters P f)
  (h : ∀ (w : World) (b cap : Nat), Sort.HoldsK encS 2 w b 0 d → b < w.heap.size → Calls P f #[.slice (some ⟨b, 0, none⟩) d.size cap, .func (.func g) #[] #[]] w fun e w' => e = .returned (.tuple #[]) ∧ ∃ m os, w' = Go.Proofs.sortWorldK encS 2 w b 0 m d' os) (hg : g < bB := by decide) :
  CallG P f [.own 0 0 d.size (d.size + R.length) 2 none, .fn g []] [⟨true, false, true, false, 2, rowsS d.toList ++ R, none⟩] (.tup []) [⟨true, false, true, false, 2, rowsS d'.toList ++ R, none⟩] := by
 refine ⟨en, fun C vs hσ hi hrow => ?_⟩
 obtain ⟨hl, hr⟩ := hrow
 obtain ⟨v0, v1, rfl⟩ : ∃ v0 v1, vs = [v0, v1] := by
  match vs, hl with
  | [v0, v1], _ => exact ⟨v0, v1, rfl⟩
 have r0 := hr 0 _ v0 rfl rfl
 have r1 := hr 1 _ v1 rfl rfl
 obtain ⟨A, cap, ob, b, rfl, q1, q2, q3, q3', q4, q5, q5', q6, q7⟩ := rep_own r0
 rw [hσ] at q1
 simp at q1
 subst q1
 have hv1 : v1 = .func (.func g) #[] #[] := by
  cases r1 with
  | pure hp => cases hp with
   | fn f' cs us hh h' =>
    have : us = [] := List.eq_nil_of_length_eq_zero hh.symm
    subst this; exact fnV_lt hg
  | fn f' cs us hh h' =>
   have : us = [] := List.eq_nil_of_length_eq_zero hh.symm
   subst this; exact fnV_lt hg
 subst hv1
 have hrl : (rowsS d.toList ++ R).length = d.size + R.length := by simp [rowsS_len]
 obtain ⟨⟨ad, hA, had⟩, hkc, hcm, _, arr, e, harr, hsz1, hsz2⟩ := q6 hrl rfl
 have hsz3 := hsz2 rfl
 subst hA
 dsimp only at harr hsz1 hsz2 hsz3 had
 have hO := hi.ob 0 _ b (by rw [hσ]; rfl) q2
 obtain ⟨hF, arr0, e0, q, g1, g2, g3, g4, g5, g6⟩ := hO.block rfl
 rw [harr] at g1
 cases g1
 dsimp only at g2 g3 g4 g5 g6
 have hcap : cap ≠ 0 := by rw [hrl] at g3; omega
 have hadd := had hcap
 rw [Nat.zero_mul] at hadd
 subst hadd
 have hblk : b < C.w.heap.size := (Array.getElem?_eq_some_iff.1 harr).1
 have harrsz : d.size * 2 ≤ arr.size := by rw [g2]; rw [hrl] at g3; omega
 have hcell : ∀ t, t < d.size * 2 → arr[t]? = (flatS d.toList)[t]? := by
  intro t ht
  have h1 : t / 2 < d.toList.length := by simp; omega
  obtain ⟨x, hx⟩ : ∃ x, d.toList[t / 2]? = some x := ⟨_, List.getElem?_eq_getElem h1⟩
  have h2 : (rowsS d.toList ++ R)[t / 2]? = some [.int .i64 x.1, .int .i64 x.2] := by
   rw [List.getElem?_append_left (by rw [rowsS_len]; exact h1)]
   exact rowsS_get hx
  have h3 := flatS_get d.toList (t / 2) (t % 2) x hx (by omega)
  rw [show t / 2 * 2 + t % 2 = t by omega] at h3
  rw [h3]
  have h4 : t % 2 = 0 ∨ t % 2 = 1 := by omega
  rcases h4 with h4 | h4
  ·obtain ⟨v, hv, hrep⟩ := g6 (t / 2) 0 _ (.int .i64 x.1) h2 rfl
   rw [rep_int hrep] at hv
   rw [h4, show (encS x)[0]? = some (.int .i64 x.1) from rfl, ← hv]; congr 1; omega
  ·obtain ⟨v, hv, hrep⟩ := g6 (t / 2) 1 _ (.int .i64 x.2) h2 rfl
   rw [rep_int hrep] at hv
   rw [h4, show (encS x)[1]? = some (.int .i64 x.2) from rfl, ← hv]; congr 1; omega
 have hH : Sort.HoldsK encS 2 C.w b 0 d := by
  intro t ht
  simp only [Sort.size_flatK] at ht
  have h1 := hcell t ht
  rw [← flatK_get d t ht] at h1
  have h2 : (Sort.flatK encS 2 d)[t]? = some (Sort.flatK encS 2 d)[t]! := by
   rw [getElem!_pos _ t (by simpa using ht), Array.getElem?_eq_getElem (by simpa using ht)]
  rw [h2] at h1
  refine ⟨?_, ?_⟩
  ·simp only [World.cell?, harr, Nat.zero_add, Option.isSome_none, Bool.false_eq_true, if_false]
   exact h1
  ·simp [World.frozen?, harr]
 refine (h C.w b cap hH hblk).mono ?_
 rintro e' w' ⟨rfl, m, os, rfl⟩
 have hrl' : (rowsS d'.toList).length = d.size := by rw [rowsS_len]; simpa using hs
 have hput : putR (rowsS d.toList ++ R) 0 (rowsS d'.toList) = rowsS d'.toList ++ R := by
  unfold putR
  rw [List.take_zero, List.nil_append, Nat.zero_add, hrl', List.drop_left' (by rw [rowsS_len]; simp)]
 obtain ⟨arr', harr'⟩ : ∃ arr', arr' = (arr.toList.take (0 * 2) ++ flatS d'.toList ++ arr.toList.drop (0 * 2 + (flatS d'.toList).length)).toArray := ⟨_, rfl⟩
 have hfl : (flatS d'.toList).length = d.size * 2 := by rw [flatS_len]; simp [hs]
 obtain ⟨hx, hi1, f1, f2⟩ := put_rows (C := C) hi (l := 0) (by rw [hσ]; rfl) q2 rfl rfl harr g2 (p := 0) (new := rowsS d'.toList) (news := flatS d'.toList) (pu := true) (Nat.zero_le _)
  (by rw [hrl', Nat.zero_add]; rw [hrl] at g3; omega) g4 (fun r hr => by obtain ⟨x, rfl⟩ := rowsS_mem hr; rfl) (by rw [hfl, hrl']) (fun r hr dd hd => by obtain ⟨x, rfl⟩ := rowsS_mem hr; simp at hd; rcases hd with rfl | rfl <;> rfl) (fun _ r hr dd hd => by obtain ⟨x, rfl⟩ := rowsS_mem hr; simp at hd; rcases hd with rfl | rfl <;> rfl)
  (fun j i r dd hj hi' => by
   simp only [rowsS, List.getElem?_map, Option.map_eq_some_iff] at hj
   obtain ⟨x, hx, rfl⟩ := hj
   have hi2 : i < 2 := by simpa using (List.getElem?_eq_some_iff.1 hi').1
   refine ⟨match i with | 0 => .int .i64 x.1 | _ => .int .i64 x.2, ?_, ?_⟩
   ·rw [flatS_get d'.toList j i x hx hi2]
    match i, hi2 with
    | 0, _ => rfl
    | 1, _ => rfl
   ·match i, hi2, hi' with
    | 0, _, hi' => simp at hi'; subst hi'; exact .pure (.int _ _)
    | 1, _, hi' => simp at hi'; subst hi'; exact .pure (.int _ _))
  false (.inl rfl) none (by simp) harr'
 dsimp only at hx hi1
 rw [hput] at hx hi1
 have hb : Below (C.w.setRow b arr').heap.size (C.w.setRow b arr') (Go.Proofs.sortWorldK encS 2 C.w b 0 m d' os) := by
  obtain ⟨s1, s2, s3, s4, s5, s6⟩ := setRow_facts C.w b arr arr' e harr
  have hsz : (C.w.setRow b arr').heap.size = C.w.heap.size := by simp [World.setRow]
  have harr2 : Sort.putCells id 0 (Sort.flatK encS 2 d') arr = arr' := by
   apply Array.ext'
   apply List.ext_getElem?
   intro t
   rw [harr']
   simp only [Nat.zero_mul, List.take_zero, List.nil_append, Nat.zero_add, Sort.putCells, Array.getElem?_toList, Array.getElem?_mapIdx, Sort.size_flatK, Nat.zero_le, true_and, Nat.sub_zero, id]
   by_cases ht : t < d'.size * 2
   ·have h1 := flatK_get d' t ht
    rw [Array.getElem?_eq_getElem (by simpa using ht)] at h1
    rw [List.getElem?_append_left (by rw [hfl, ← hs]; exact ht), ← h1]
    have hta : t < arr.size := by rw [hs] at ht; omega
    rw [Array.getElem?_eq_getElem hta, Option.map_some, if_pos ht, getElem!_pos _ t (by simpa using ht)]
   ·rw [List.getElem?_append_right (by rw [hfl, ← hs]; omega), List.getElem?_drop, show (flatS d'.toList).length + (t - (flatS d'.toList).length) = t by rw [hfl, ← hs]; omega]
    cases h2 : arr[t]? with
    | none => simp [h2]
    | some v => simp [h2, ht]
  refine ⟨rfl, rfl, rfl, ?_, fun k hk => ?_⟩
  ·rw [hsz]
   simp [Go.Proofs.sortWorldK, Sort.grow, Sort.putRowK, Sort.putRow, Sort.mapBlock, Sort.ahead]
  ·rw [hsz] at hk
   simp only [Go.Proofs.sortWorldK, Sort.grow, Sort.putRowK, Sort.putRow, Sort.mapBlock, Sort.ahead]
   rw [Array.getElem?_append_left (by simpa using hk), Array.getElem?_modify]
   by_cases hkb : b = k
   ·subst hkb
    rw [if_pos rfl, s6, harr]
    simp only [Option.map_some, Sort.onCells, harr2]
   ·rw [if_neg hkb, s5 k fun hh => hkb hh.symm]
 obtain ⟨hx2, hi2⟩ := Ext.later hb hi1
 refine ⟨_, _, .tup [], rfl, rfl, hx.trans hx2, hi2, .tup [] [] rfl (by simp), rfl, ?_⟩
 show C.σ.set 0 _ = _
 rw [hσ]; rfl
end Go.Vi
