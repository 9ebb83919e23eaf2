import Derived.Test.YtapennlmboabeaaGreatYA
import Derived.Test.YtapennlmboabeaaGreatVi33
set_option linter.unusedVariables false
set_option linter.unusedSimpArgs false
set_option linter.unnecessarySimpa false
namespace Go.Proofs.YtapennlmboabeaaGreat
open Go Go.Vi
def risU (us : List Us) : Bool := decide (us.Pairwise fun a b => a.id < b.id) && us.all fun u => decide (u.evs.Pairwise fun a b => a.id < b.id)
theorem risU_iff {us : List Us} : risU us = true ↔ (us.Pairwise fun a b => a.id < b.id) ∧ ∀ u ∈ us, u.evs.Pairwise fun a b => a.id < b.id := by
 simp [risU]
theorem risU_evs {us : List Us} {u : Us} (hu : u ∈ us) (h : ¬ u.evs.Pairwise fun a b => a.id < b.id) : risU us = false := by
 cases hr : risU us with
 | false => rfl
 | true => exact absurd ((risU_iff.1 hr).2 u hu) h
theorem risU_us {us : List Us} (h : ¬ us.Pairwise fun a b => a.id < b.id) : risU us = false := by
 cases hr : risU us with
 | false => rfl
 | true => exact absurd (risU_iff.1 hr).1 h
theorem ris_step {α : Type} {f : α → Int} {l : List α} {i : Nat} {x y : α} (h : (l.take (i + 1)).Pairwise fun a b => f a < f b) (hx : l[i]? = some x) (hy : l[i + 1]? = some y) (hxy : f x < f y) : (l.take (i + 1 + 1)).Pairwise fun a b => f a < f b := by
 have e1 : l.take (i + 1 + 1) = l.take (i + 1) ++ [y] := by rw [List.take_add_one (i := i + 1), hy]; rfl
 have e2 : l.take (i + 1) = l.take i ++ [x] := by rw [List.take_add_one, hx]; rfl
 rw [e1, List.pairwise_append]
 refine ⟨h, by simp, fun a ha b hb => ?_⟩
 simp at hb; subst hb
 rw [e2] at ha h
 rcases List.mem_append.1 ha with h' | h'
 ·have := (List.pairwise_append.1 h).2.2 a h' x (by simp); omega
 ·simp at h'; subst h'; exact hxy
theorem ris_no {α : Type} {f : α → Int} {l : List α} {i : Nat} {x y : α} (hx : l[i]? = some x) (hy : l[i + 1]? = some y) (hxy : ¬ f x < f y) : ¬ l.Pairwise fun a b => f a < f b := fun h => by
 obtain ⟨h1, rfl⟩ := List.getElem?_eq_some_iff.1 hx
 obtain ⟨h2, rfl⟩ := List.getElem?_eq_some_iff.1 hy
 exact hxy (List.pairwise_iff_getElem.1 h i (i + 1) h1 h2 (Nat.lt_succ_self i))
theorem exYG6 : type_of% (an @row1_len (an @row2_len (an @row3_len (an @rowsE_len (an @rowsU_len (an @rowsP_len @rowsD_len)))))) := (an @row1_len (an @row2_len (an @row3_len (an @rowsE_len (an @rowsU_len (an @rowsP_len @rowsD_len))))))
set_option maxHeartbeats 4000000 in
theorem rises17_p (t : Int) (us : List Us) (ps : List Po) (ds : List Dn) (hl : us.length ≤ 1407374883512) (hle : ∀ u ∈ us, u.evs.length ≤ 140737488351232) : PureD Tryz.prog 28 [St t us ps ds] (.bool (risU us)) := by
 refine pureV Tryz.func28 low28 (by simp [c28]) ?_
 simp only [c28, St]
 refine wk [] [] exYG6 ?_
 refine Run_loop (ι := {i : Nat // i ≤ us.length ∧ ((us.take i).Pairwise fun a b => a.id < b.id) ∧ ∀ u ∈ us.take i, u.evs.Pairwise fun a b => a.id < b.id}) (fun i => ([(1, .ptr 0 0 0 1), (8, .int .i64 us.length), (9, .int .i64 i.1)], [⟨true, false, true, false, 4, [[.int .i64 t, L (rowsU us), L (rowsP ps), L (rowsD ds)]], some 0⟩])) (fun i => us.length - i.1) ⟨0, by simp⟩ ?_ ?_
 ·exact gcw [0] exYG6
 rintro ⟨i, hi, hp, hall⟩ hk
 dsimp only at hk ⊢
 by_cases hlt : i < us.length
 ·have c1 : ((i : Int) < (us.length : Int)) = True := by simp; omega
  obtain ⟨u, hu⟩ : ∃ u, us[i]? = some u := ⟨_, List.getElem?_eq_getElem hlt⟩
  have hr := rowsU_get hu
  have hleu := hle u (List.mem_of_getElem? hu)
  cases i with
  | zero =>
   refine wk [] [] (an exYG6 (an c1 (an hr @Us.row.eq_1))) ?_
   refine Run_loop (ι := {j : Nat // j ≤ u.evs.length ∧ (u.evs.take j).Pairwise fun a b => a.id < b.id}) (fun j => ([(1, .ptr 0 0 0 1), (8, .int .i64 us.length), (9, .int .i64 ((0 : Nat) : Int)), (4, L (rowsE u.evs)), (37, .int .i64 u.evs.length), (38, .int .i64 j.1)], [⟨true, false, true, false, 4, [[.int .i64 t, L (rowsU us), L (rowsP ps), L (rowsD ds)]], some 0⟩])) (fun j => u.evs.length - j.1) ⟨0, by simp⟩ ?_ ?_
   ·exact gcw [0] exYG6
   rintro ⟨j, hj, hpj⟩ hkj
   dsimp only at hkj ⊢
   by_cases hltj : j < u.evs.length
   ·have c6 : ((j : Int) < (u.evs.length : Int)) = True := by simp; omega
    obtain ⟨v, hv⟩ : ∃ v, u.evs[j]? = some v := ⟨_, List.getElem?_eq_getElem hltj⟩
    have hrv := rowsE_get hv
    cases j with
    | zero =>
     refine wk [] [] (an exYG6 (an c6 (an hrv @En.row.eq_1))) ?_
     refine hkj ⟨1, by omega, by rw [List.take_add_one, hv]; simp⟩ _ _ (by dsimp only; omega) ?_
     dsimp only
     exact gcw [0] exYG6
    | succ j =>
     obtain ⟨w, hw⟩ : ∃ w, u.evs[j]? = some w := ⟨_, List.getElem?_eq_getElem (by omega)⟩
     have hrw := rowsE_get hw
     have c7 : (((j + 1 : Nat) : Int) > 0) = True := by rw [eq_iff_iff]; exact ⟨fun _ => trivial, fun _ => by omega⟩
     have c8 : (((j + 1 : Nat) : Int) - 1) = (j : Int) := by omega
     by_cases hlt2 : w.id < v.id
     ·have c9 : (w.id ≥ v.id) = False := by simp; omega
      refine wk [] [] (an exYG6 (an c6 (an c7 (an c8 (an c9 (an hrv (an hrw @En.row.eq_1))))))) ?_
      refine hkj ⟨j + 1 + 1, by omega, ris_step hpj hw hv hlt2⟩ _ _ (by dsimp only; omega) ?_
      dsimp only
      exact gcw [0] exYG6
     ·have c9 : (w.id ≥ v.id) = True := by simp; omega
      have e : risU us = false := risU_evs (List.mem_of_getElem? hu) (ris_no hw hv hlt2)
      rw [e]
      exact wk0 [] [] (an exYG6 (an c6 (an c7 (an c8 (an c9 (an hrv (an hrw @En.row.eq_1)))))))
   ·have c6 : ((j : Int) < (u.evs.length : Int)) = False := by simp; omega
    have hue : u.evs.Pairwise fun a b => a.id < b.id := by rw [List.take_of_length_le (by omega)] at hpj; exact hpj
    refine wk [] [] (an exYG6 c6) ?_
    refine hk ⟨1, by omega, by rw [List.take_add_one, hu]; simp, fun u' hu' => ?_⟩ _ _ (by dsimp only; omega) ?_
    ·rw [List.take_add_one, hu] at hu'
     rcases List.mem_append.1 hu' with h | h
     ·exact hall u' h
     ·simp at h; rw [h]; exact hue
    dsimp only
    exact gcw [0] exYG6
  | succ i =>
   obtain ⟨p, hpu⟩ : ∃ p, us[i]? = some p := ⟨_, List.getElem?_eq_getElem (by omega)⟩
   have hrp := rowsU_get hpu
   have c2 : (((i + 1 : Nat) : Int) > 0) = True := by rw [eq_iff_iff]; exact ⟨fun _ => trivial, fun _ => by omega⟩
   have c3 : (((i + 1 : Nat) : Int) - 1) = (i : Int) := by omega
   by_cases hlt1 : p.id < u.id
   ·have c4 : (p.id ≥ u.id) = False := by simp; omega
    refine wk [] [] (an exYG6 (an c1 (an c2 (an c3 (an c4 (an hr (an hrp @Us.row.eq_1))))))) ?_
    refine Run_loop (ι := {j : Nat // j ≤ u.evs.length ∧ (u.evs.take j).Pairwise fun a b => a.id < b.id}) (fun j => ([(1, .ptr 0 0 0 1), (8, .int .i64 us.length), (9, .int .i64 ((i + 1 : Nat) : Int)), (4, L (rowsE u.evs)), (37, .int .i64 u.evs.length), (38, .int .i64 j.1)], [⟨true, false, true, false, 4, [[.int .i64 t, L (rowsU us), L (rowsP ps), L (rowsD ds)]], some 0⟩])) (fun j => u.evs.length - j.1) ⟨0, by simp⟩ ?_ ?_
    ·exact gcw [0] exYG6
    rintro ⟨j, hj, hpj⟩ hkj
    dsimp only at hkj ⊢
    by_cases hltj : j < u.evs.length
    ·have c6 : ((j : Int) < (u.evs.length : Int)) = True := by simp; omega
     obtain ⟨v, hv⟩ : ∃ v, u.evs[j]? = some v := ⟨_, List.getElem?_eq_getElem hltj⟩
     have hrv := rowsE_get hv
     cases j with
     | zero =>
      refine wk [] [] (an exYG6 (an c6 (an hrv @En.row.eq_1))) ?_
      refine hkj ⟨1, by omega, by rw [List.take_add_one, hv]; simp⟩ _ _ (by dsimp only; omega) ?_
      dsimp only
      exact gcw [0] exYG6
     | succ j =>
      obtain ⟨w, hw⟩ : ∃ w, u.evs[j]? = some w := ⟨_, List.getElem?_eq_getElem (by omega)⟩
      have hrw := rowsE_get hw
      have c7 : (((j + 1 : Nat) : Int) > 0) = True := by rw [eq_iff_iff]; exact ⟨fun _ => trivial, fun _ => by omega⟩
      have c8 : (((j + 1 : Nat) : Int) - 1) = (j : Int) := by omega
      by_cases hlt2 : w.id < v.id
      ·have c9 : (w.id ≥ v.id) = False := by simp; omega
       refine wk [] [] (an exYG6 (an c6 (an c7 (an c8 (an c9 (an hrv (an hrw @En.row.eq_1))))))) ?_
       refine hkj ⟨j + 1 + 1, by omega, ris_step hpj hw hv hlt2⟩ _ _ (by dsimp only; omega) ?_
       dsimp only
       exact gcw [0] exYG6
      ·have c9 : (w.id ≥ v.id) = True := by simp; omega
       have e : risU us = false := risU_evs (List.mem_of_getElem? hu) (ris_no hw hv hlt2)
       rw [e]
       exact wk0 [] [] (an exYG6 (an c6 (an c7 (an c8 (an c9 (an hrv (an hrw @En.row.eq_1)))))))
    ·have c6 : ((j : Int) < (u.evs.length : Int)) = False := by simp; omega
     have hue : u.evs.Pairwise fun a b => a.id < b.id := by rw [List.take_of_length_le (by omega)] at hpj; exact hpj
     refine wk [] [] (an exYG6 c6) ?_
     refine hk ⟨i + 1 + 1, by omega, ris_step hp hpu hu hlt1, fun u' hu' => ?_⟩ _ _ (by dsimp only; omega) ?_
     ·rw [List.take_add_one, hu] at hu'
      rcases List.mem_append.1 hu' with h | h
      ·exact hall u' h
      ·simp at h; rw [h]; exact hue
     dsimp only
     exact gcw [0] exYG6
   ·have c4 : (p.id ≥ u.id) = True := by simp; omega
    have e : risU us = false := risU_us (ris_no hpu hu hlt1)
    rw [e]
    exact wk0 [] [] (an exYG6 (an c1 (an c2 (an c3 (an c4 (an hr (an hrp @Us.row.eq_1)))))))
 ·have c1 : ((i : Int) < (us.length : Int)) = False := by simp; omega
  have e : risU us = true := by
   rw [List.take_of_length_le (by omega)] at hp hall
   exact risU_iff.2 ⟨hp, hall⟩
  rw [e]
  exact wk0 [] [] (an exYG6 c1)
end Go.Proofs.YtapennlmboabeaaGreat

namespace Go.Proofs.YtapennlmboabeaaGreat
open Go Go.Vi
abbrev sh1 (b : Nat) (k : IntKind) : Sh := .slice b [.int k]
abbrev sh2 (b : Nat) (k m : IntKind) : Sh := .slice b [.int k, .int m]
abbrev sh3 : Sh := .slice 24 [.int .i64, .int .i64, .int .i64]
def shSe : List Sh := [.int .i64, sh2 16 .i64 .i64, sh3, sh1 8 .i64, .int .i64, .int .i64]
def shEv : List Sh := [.int .i64, .int .i64, .bool, .bool, .int .i64, .int .i64, .int .i64, .int .i64, sh1 8 .i64, sh1 8 .i64, sh2 16 .i64 .i64, sh1 8 .i64, .int .i64, sh1 8 .i64, sh1 8 .i64, sh3]
def shEn : List Sh := [.int .u32, .int .i64, .int .i64, .bool, .bool, .int .i64, .int .i64, .int .i64, .int .i64, sh1 8 .i64, sh1 8 .i64, sh2 16 .i64 .i64, sh1 8 .i64, .int .i64, sh1 8 .i64, sh1 8 .i64, sh3]
def shUs : List Sh := [.int .u32, .int .i64, sh2 16 .i64 .i64, sh3, sh1 8 .i64, .int .i64, .int .i64, .int .u64, .slice 240 shEn]
def shPo : List Sh := [.int .u32, .int .u32, .int .i64, .int .i64, .int .i64, .int .i64, sh1 4 .u32, sh2 16 .u32 .i64, .int .i64, sh2 8 .u32 .u32, sh3, sh1 8 .i64, sh2 16 .u32 .i64, .int .i64, .int .i64, .int .i64]
def shDn : List Sh := [.int .u32, .int .u64, .int .u64]
def shSt : List Sh := [.int .i64, .slice 136 shUs, .slice 216 shPo, .slice 24 shDn]
theorem rows_map {α : Type} {f : α → List D} {shs : List Sh} {Q : α → Prop} (hd : ∀ ds, FitsAll shs ds → ∃ x, ds = f x ∧ Q x) : ∀ rows : List (List D), (∀ r ∈ rows, FitsAll shs r) → ∃ l : List α, rows = l.map f ∧ ∀ x ∈ l, Q x
 | [], _ => ⟨[], rfl, by simp⟩
 | r :: rows, h => by
  obtain ⟨l, hl, hq⟩ := rows_map hd rows fun r hr => h r (by simp [hr])
  obtain ⟨x, hx, qx⟩ := hd r (h r (by simp))
  refine ⟨x :: l, by rw [hx, hl]; rfl, fun y hy => ?_⟩
  rcases List.mem_cons.1 hy with rfl | h
  ·exact qx
  ·exact hq y h
theorem fitL {α : Type} {f : α → List D} {shs : List Sh} {Q : α → Prop} {b : Nat} {d : D} (hd : ∀ ds, FitsAll shs ds → ∃ x, ds = f x ∧ Q x) (h : Fits (.slice b shs) d) : ∃ l : List α, d = L (l.map f) ∧ l.length * b ≤ 140737488351232 ∧ ∀ x ∈ l, Q x := by
 simp only [Fits] at h
 obtain ⟨rows, rfl, hl, hr⟩ := h
 obtain ⟨l, rfl, hq⟩ := rows_map hd rows hr
 exact ⟨l, rfl, by simpa using hl, hq⟩
theorem fit1 {b : Nat} {k : IntKind} {d : D} (hb : 0 < b) (h : Fits (sh1 b k) d) : ∃ l : List Int, d = L (row1 k l) ∧ l.length ≤ 140737488351232 := by
 obtain ⟨l, h1, h2, _⟩ := fitL (f := fun x : Int => [D.int k x]) (Q := fun _ => True) (fun ds h => by
  simp only [FitsAll, Fits] at h
  obtain ⟨_, _, rfl, ⟨n, rfl, _⟩, rfl⟩ := h
  exact ⟨n, rfl, trivial⟩) h
 exact ⟨l, h1, Nat.le_trans (Nat.le_mul_of_pos_right _ hb) h2⟩
theorem fit2 {b : Nat} {k m : IntKind} {d : D} (hb : 0 < b) (h : Fits (sh2 b k m) d) : ∃ l : List (Int × Int), d = L (row2 k m l) ∧ l.length ≤ 140737488351232 := by
 obtain ⟨l, h1, h2, _⟩ := fitL (f := fun x : Int × Int => [D.int k x.1, D.int m x.2]) (Q := fun _ => True) (fun ds h => by
  simp only [FitsAll, Fits] at h
  obtain ⟨_, _, rfl, ⟨n, rfl, _⟩, _, _, rfl, ⟨n', rfl, _⟩, rfl⟩ := h
  exact ⟨(n, n'), rfl, trivial⟩) h
 exact ⟨l, h1, Nat.le_trans (Nat.le_mul_of_pos_right _ hb) h2⟩
theorem fit3 {d : D} (h : Fits sh3 d) : ∃ l : List (Int × Int × Int), d = L (row3 l) ∧ l.length ≤ 140737488351232 := by
 obtain ⟨l, h1, h2, _⟩ := fitL (f := fun x : Int × Int × Int => [D.int .i64 x.1, D.int .i64 x.2.1, D.int .i64 x.2.2]) (Q := fun _ => True) (fun ds h => by
  simp only [FitsAll, Fits] at h
  obtain ⟨_, _, rfl, ⟨n, rfl, _⟩, _, _, rfl, ⟨n', rfl, _⟩, _, _, rfl, ⟨n'', rfl, _⟩, rfl⟩ := h
  exact ⟨(n, n', n''), rfl, trivial⟩) h
 exact ⟨l, h1, by omega⟩
theorem fitI {k : IntKind} {d : D} (h : Fits (.int k) d) : ∃ n, d = .int k n := by simp only [Fits] at h; obtain ⟨n, h, _⟩ := h; exact ⟨n, h⟩
theorem fitB {d : D} (h : Fits .bool d) : ∃ n, d = .bool n := by simp only [Fits] at h; exact h
theorem fitS {d : D} (h : Fits .str d) : ∃ s : ByteArray, d = .str s ∧ s.size ≤ 140737488351232 := by simp only [Fits] at h; exact h
theorem decSe (ds : List D) (h : FitsAll shSe ds) : ∃ s : Se, ds = s.cells ∧ s.fits := by
 simp only [shSe, FitsAll] at h
 obtain ⟨_, _, rfl, h1, _, _, rfl, h2, _, _, rfl, h3, _, _, rfl, h4, _, _, rfl, h5, _, _, rfl, h6, rfl⟩ := h
 obtain ⟨n1, rfl⟩ := fitI h1
 obtain ⟨l2, rfl, g2⟩ := fit2 (by decide) h2
 obtain ⟨l3, rfl, g3⟩ := fit3 h3
 obtain ⟨l4, rfl, g4⟩ := fit1 (by decide) h4
 obtain ⟨n5, rfl⟩ := fitI h5
 obtain ⟨n6, rfl⟩ := fitI h6
 exact ⟨⟨n1, l2, l3, l4, n5, n6⟩, rfl, g2, g3, g4⟩
theorem decEv (ds : List D) (h : FitsAll shEv ds) : ∃ s : Ev, ds = s.cells ∧ s.fits := by
 simp only [shEv, FitsAll] at h
 obtain ⟨_, _, rfl, h1, _, _, rfl, h2, _, _, rfl, h3, _, _, rfl, h4, _, _, rfl, h5, _, _, rfl, h6, _, _, rfl, h7, _, _, rfl, h8, _, _, rfl, h9, _, _, rfl, h10, _, _, rfl, h11, _, _, rfl, h12, _, _, rfl, h13, _, _, rfl, h14, _, _, rfl, h15, _, _, rfl, h16, rfl⟩ := h
 obtain ⟨n1, rfl⟩ := fitI h1
 obtain ⟨n2, rfl⟩ := fitI h2
 obtain ⟨n3, rfl⟩ := fitB h3
 obtain ⟨n4, rfl⟩ := fitB h4
 obtain ⟨n5, rfl⟩ := fitI h5
 obtain ⟨n6, rfl⟩ := fitI h6
 obtain ⟨n7, rfl⟩ := fitI h7
 obtain ⟨n8, rfl⟩ := fitI h8
 obtain ⟨l9, rfl, g9⟩ := fit1 (by decide) h9
 obtain ⟨l10, rfl, g10⟩ := fit1 (by decide) h10
 obtain ⟨l11, rfl, g11⟩ := fit2 (by decide) h11
 obtain ⟨l12, rfl, g12⟩ := fit1 (by decide) h12
 obtain ⟨n13, rfl⟩ := fitI h13
 obtain ⟨l14, rfl, g14⟩ := fit1 (by decide) h14
 obtain ⟨l15, rfl, g15⟩ := fit1 (by decide) h15
 obtain ⟨l16, rfl, g16⟩ := fit3 h16
 exact ⟨⟨n1, n2, n3, n4, ⟨n5, n6, n7, n8, l9, l10, l11, l12, n13⟩, l14, l15, l16⟩, rfl, ⟨g9, g10, g11, g12⟩, g14, g15, g16⟩
theorem decEn (ds : List D) (h : FitsAll shEn ds) : ∃ e : En, ds = e.row ∧ e.ev.fits := by
 simp only [shEn, FitsAll] at h
 obtain ⟨d0, r0, rfl, h0, h⟩ := h
 obtain ⟨n0, rfl⟩ := fitI h0
 obtain ⟨e, rfl, he⟩ := decEv r0 (by simp only [shEv, FitsAll]; exact h)
 exact ⟨⟨n0, e⟩, rfl, he⟩
theorem decUs (ds : List D) (h : FitsAll shUs ds) : ∃ u : Us, ds = u.row ∧ u.fit := by
 simp only [shUs, FitsAll] at h
 obtain ⟨_, _, rfl, h0, _, _, rfl, h1, _, _, rfl, h2, _, _, rfl, h3, _, _, rfl, h4, _, _, rfl, h5, _, _, rfl, h6, _, _, rfl, h7, _, _, rfl, h8, rfl⟩ := h
 obtain ⟨n0, rfl⟩ := fitI h0
 obtain ⟨n1, rfl⟩ := fitI h1
 obtain ⟨l2, rfl, g2⟩ := fit2 (by decide) h2
 obtain ⟨l3, rfl, g3⟩ := fit3 h3
 obtain ⟨l4, rfl, g4⟩ := fit1 (by decide) h4
 obtain ⟨n5, rfl⟩ := fitI h5
 obtain ⟨n6, rfl⟩ := fitI h6
 obtain ⟨n7, rfl⟩ := fitI h7
 obtain ⟨l8, rfl, g8, q8⟩ := fitL decEn h8
 exact ⟨⟨n0, ⟨n1, l2, l3, l4, n5, n6⟩, n7, l8⟩, rfl, ⟨g2, g3, g4⟩, by show l8.length ≤ _; omega, q8⟩
theorem decPo (ds : List D) (h : FitsAll shPo ds) : ∃ p : Po, ds = p.row ∧ p.fits := by
 simp only [shPo, FitsAll] at h
 obtain ⟨_, _, rfl, ha, _, _, rfl, hb, _, _, rfl, h0, _, _, rfl, h1, _, _, rfl, h2, _, _, rfl, h3, _, _, rfl, h4, _, _, rfl, h5, _, _, rfl, h6, _, _, rfl, h7, _, _, rfl, h8, _, _, rfl, h9, _, _, rfl, h10, _, _, rfl, h11, _, _, rfl, h12, _, _, rfl, h13, rfl⟩ := h
 obtain ⟨na, rfl⟩ := fitI ha
 obtain ⟨nb, rfl⟩ := fitI hb
 obtain ⟨n0, rfl⟩ := fitI h0
 obtain ⟨n1, rfl⟩ := fitI h1
 obtain ⟨n2, rfl⟩ := fitI h2
 obtain ⟨n3, rfl⟩ := fitI h3
 obtain ⟨l4, rfl, g4⟩ := fit1 (by decide) h4
 obtain ⟨l5, rfl, g5⟩ := fit2 (by decide) h5
 obtain ⟨n6, rfl⟩ := fitI h6
 obtain ⟨l7, rfl, g7⟩ := fit2 (by decide) h7
 obtain ⟨l8, rfl, g8⟩ := fit3 h8
 obtain ⟨l9, rfl, g9⟩ := fit1 (by decide) h9
 obtain ⟨l10, rfl, g10⟩ := fit2 (by decide) h10
 obtain ⟨n11, rfl⟩ := fitI h11
 obtain ⟨n12, rfl⟩ := fitI h12
 obtain ⟨n13, rfl⟩ := fitI h13
 exact ⟨⟨na, nb, ⟨n0, n1, n2, n3, l4, l5, n6, l7, l8⟩, l9, l10, n11, n12, n13⟩, rfl, ⟨g4, g5, g7, g8⟩, g9, g10⟩
theorem decDn (ds : List D) (h : FitsAll shDn ds) : ∃ d : Dn, ds = d.row ∧ True := by
 simp only [shDn, FitsAll] at h
 obtain ⟨_, _, rfl, h0, _, _, rfl, h1, _, _, rfl, h2, rfl⟩ := h
 obtain ⟨n0, rfl⟩ := fitI h0
 obtain ⟨n1, rfl⟩ := fitI h1
 obtain ⟨n2, rfl⟩ := fitI h2
 exact ⟨⟨n0, n1, n2⟩, rfl, trivial⟩
theorem decSt (ds : List D) (h : FitsAll shSt ds) : ∃ s : Sta, ds = s.cells ∧ s.fits := by
 simp only [shSt, FitsAll] at h
 obtain ⟨_, _, rfl, h0, _, _, rfl, h1, _, _, rfl, h2, _, _, rfl, h3, rfl⟩ := h
 obtain ⟨n0, rfl⟩ := fitI h0
 obtain ⟨us, rfl, g1, q1⟩ := fitL decUs h1
 obtain ⟨ps, rfl, g2, q2⟩ := fitL decPo h2
 obtain ⟨dn, rfl, g3, _⟩ := fitL decDn h3
 exact ⟨⟨n0, us, ps, dn⟩, rfl, by show us.length ≤ _; omega, by show ps.length ≤ _; omega, by show dn.length ≤ _; omega, q1, q2⟩
end Go.Proofs.YtapennlmboabeaaGreat

namespace Go.Proofs.YtapennlmboabeaaGreat
open Go Go.Vi
theorem exYGB : type_of% (an @row1_len (an @row2_len (an @row3_len (an @rowsE_len (an @rowsU_len (an @rowsP_len @rowsD_len)))))) := (an @row1_len (an @row2_len (an @row3_len (an @rowsE_len (an @rowsU_len (an @rowsP_len @rowsD_len))))))
theorem isNaN_p (a : Int) : PureD Tryz.prog 108 [.int .u32 a] (.bool false) := by
 refine pureV Tryz.func108 low108 (by simp [c108]) ?_
 simp only [c108]
 have h : (a != a) = false := by simp
 exact wk0 [] [] (an exYGB h)
def cmp (a b : Int) : Int := if a < b then -1 else if b < a then 1 else 0
theorem cmp_p (a b : Int) : PureD Tryz.prog 63 [.int .u32 a, .int .u32 b] (.int .i64 (cmp a b)) := by
 refine pureV Tryz.func63 low63 (by simp [c63]) ?_
 simp only [c63]
 unfold cmp
 have uc1 := @isNaN_p
 exact wk0 [] [] exYGB
theorem cmp_neg {a b : Int} : cmp a b < 0 ↔ a < b := by unfold cmp; (repeat' split) <;> omega
theorem cmp_zero {a b : Int} : cmp a b = 0 ↔ a = b := by unfold cmp; (repeat' split) <;> omega
def lowB {α : Type} (f : α → Int) : List α → Int → Nat
 | [], _ => 0
 | x :: l, id => if f x < id then lowB f l id + 1 else 0
theorem lowB_le {α : Type} (f : α → Int) : ∀ (l : List α) (id : Int), lowB f l id ≤ l.length
 | [], _ => Nat.le_refl _
 | x :: l, id => by
  have := lowB_le f l id
  unfold lowB; split <;> simp <;> omega
theorem lowB_spec {α : Type} (f : α → Int) : ∀ (l : List α) (id : Int), (l.Pairwise fun a b => f a < f b) → ∀ (h : Nat) (e : α), l[h]? = some e → (f e < id ↔ h < lowB f l id)
 | [], _, _, h, e, he => by simp at he
 | x :: l, id, hs, h, e, he => by
  obtain ⟨h1, h2⟩ := List.pairwise_cons.1 hs
  unfold lowB
  split
  ·rename_i hx
   cases h with
   | zero => simp at he; subst he; simp [hx]
   | succ h => rw [lowB_spec f l id h2 h e (by simpa using he)]; omega
  ·rename_i hx
   cases h with
   | zero => simp at he; subst he; simp; omega
   | succ h =>
    have := h1 e (List.mem_of_getElem? (by simpa using he))
    simp; omega
def isAtB {α : Type} (f : α → Int) (l : List α) (k : Nat) (id : Int) : Bool := match l[k]? with | some d => f d == id | none => false
theorem place1U_p (d : Us) (id : Int) : PureD Tryz.prog 62 [.agg d.row, .int .u32 id] (.int .i64 (cmp d.id id)) := by
 refine pureV Tryz.func62 low62 (by simp [c62]) ?_
 simp only [c62, Us.row]
 have uc1 := @cmp_p
 exact wk0 [] [] exYGB
theorem binU_p (l : List Us) (id : Int) (k : Nat) (hl : l.length ≤ 140737488351232) (hk : k ≤ l.length) (hs : ∀ (h : Nat) (d : Us), l[h]? = some d → (d.id < id ↔ h < k)) :
  PureD Tryz.prog 61 [L (rowsU l), .int .u32 id, .fn 62 []] (.tup [.int .i64 k, .bool (isAtB Us.id l k id)]) := by
 refine pureV Tryz.func61 low61 (by simp [c61]) ?_
 simp only [c61]
 refine wk [] [] exYGB ?_
 refine Run_loop (ι := {p : Nat × Nat // p.1 ≤ k ∧ k ≤ p.2 ∧ p.2 ≤ l.length}) (fun p => ([(0, L (rowsU l)), (1, .int .u32 id), (2, .fn 62 []), (8, .int .i64 l.length), (9, .int .i64 p.1.1), (10, .int .i64 p.1.2)], [])) (fun p => p.1.2 - p.1.1) ⟨(0, l.length), by simp, hk, by simp⟩ ?_ ?_
 ·exact gcw [] exYGB
 rintro ⟨⟨i, j⟩, h1, h2, h3⟩ hk'
 dsimp only at h1 h2 h3 hk' ⊢
 by_cases hij : i < j
 ·have c1 : ((i : Int) < (j : Int)) = True := by simp; omega
  obtain ⟨h, hh⟩ : ∃ h : Nat, h = (i + j) / 2 := ⟨_, rfl⟩
  have e2 : ((i : Int) + (j : Int)) / 2 = (h : Int) := by omega
  obtain ⟨d, hd⟩ : ∃ d, l[h]? = some d := ⟨_, List.getElem?_eq_getElem (by omega)⟩
  have hsd := hs h d hd
  have hd' := rowsU_get hd
  have pl := place1U_p d id
  simp only [Us.row] at pl
  by_cases hlt : h < k
  ·have c2 : (cmp d.id id < 0) = True := by simp; exact cmp_neg.2 (hsd.2 hlt)
   refine wk [] [] (an exYGB (an c1 (an e2 (an hd' (an c2 @Us.row.eq_1))))) ?_
   refine hk' ⟨(h + 1, j), by omega, by omega, by omega⟩ _ _ (by dsimp only; omega) ?_
   dsimp only
   exact gcw [] exYGB
  ·have c2 : (cmp d.id id < 0) = False := by simp; have := mt hsd.1 hlt; have := mt cmp_neg.1 this; omega
   refine wk [] [] (an exYGB (an c1 (an e2 (an hd' (an c2 @Us.row.eq_1))))) ?_
   refine hk' ⟨(i, h), by omega, by omega, by omega⟩ _ _ (by dsimp only; omega) ?_
   dsimp only
   exact gcw [] exYGB
 ·have c1 : ((i : Int) < (j : Int)) = False := by simp; omega
  obtain rfl : i = k := by omega
  by_cases hkl : i < l.length
  ·have c2 : ((i : Int) < (l.length : Int)) = True := by simp; omega
   obtain ⟨d, hd⟩ : ∃ d, l[i]? = some d := ⟨_, List.getElem?_eq_getElem (by omega)⟩
   have hd' := rowsU_get hd
   have pl := place1U_p d id
   simp only [Us.row] at pl
   have e : isAtB Us.id l i id = (cmp d.id id == 0) := by
    unfold isAtB; rw [hd, Bool.eq_iff_iff]; simp [cmp_zero]
   rw [e]
   exact wk0 [] [] (an exYGB (an c1 (an c2 (an hd' @Us.row.eq_1))))
  ·have c2 : ((i : Int) < (l.length : Int)) = False := by simp; omega
   have e : isAtB Us.id l i id = false := by unfold isAtB; rw [List.getElem?_eq_none (by omega)]
   rw [e]
   exact wk0 [] [] (an exYGB (an c1 c2))
theorem placeU_p (t : Int) (us : List Us) (ps : List Po) (ds : List Dn) (id : Int) (hl : us.length ≤ 140737488351232) (hs : us.Pairwise fun a b => a.id < b.id) :
  PureD Tryz.prog 31 [St t us ps ds, .int .u32 id] (.tup [.int .i64 (lowB Us.id us id), .bool (isAtB Us.id us (lowB Us.id us id) id)]) := by
 refine pureV Tryz.func31 low31 (by simp [c31]) ?_
 simp only [c31, St]
 repeat' ((first | refine Run_seq ?_ | refine Run_skip ?_ | refine Run_block ?_ | refine Run_blk ?_ | refine Run_exit rfl ?_ | refine Run_ret ?_ | refine Run_nil ?_ | refine Run_condK ?_ | refine Run_ops mixed ?_ | refine Run_opsX mixed ?_ | with_reducible refine PostV_open ?_ | with_reducible refine PostG_open ?_ | with_reducible refine PostQ_open ?_ | with_reducible refine ro_callV ?_ | with_reducible refine ro_callVX ?_ | refine CallV_pure (binU_p us id _ hl (lowB_le Us.id us id) (lowB_spec Us.id us id hs)) ?_ ?_ | simp (disch := omega) only [w64, wu64, wu32, wu16, wu8, Int.tdiv_eq_ediv_of_nonneg, Int.tmod_eq_emod_of_nonneg] | (with_reducible refine SliceK_own rfl rfl ?_ ?_; (focus ((try simp only [row1_len, row2_len, row3_len, rowsE_len, rowsU_len, rowsP_len, rowsD_len, reduceIte, Int.natCast_nonneg, Int.le_refl, List.length_append, List.length_map, Nat.sub_zero]) <;> ((repeat' (with_reducible refine And.intro ?_ ?_)) <;> first | exact trivial | assumption | (simp; done) | (simp only [List.length_map] at *; omega) | omega | (simp [D.cells, D.ok, D.one, D.pt, D.pt1]; done))))) | (refine GuardK_split (fun hc => ?_) (fun hc => ?_) <;> (try simp only [hc]) <;> (try simp at hc)) | (refine CondK_split (fun hc => ?_) (fun hc => ?_) <;> (try simp only [hc]) <;> (try simp at hc)) | (with_reducible refine And.intro ?_ ?_; (focus ((repeat' (with_reducible refine And.intro ?_ ?_)) <;> first | exact trivial | assumption | (simp; done) | (simp only [List.length_map] at *; omega) | omega | (simp [D.cells, D.ok, D.one, D.pt, D.pt1]; done)))) | (with_reducible intro x hx) | omega) <;> (try simp only [row1_len, row2_len, row3_len, rowsE_len, rowsU_len, rowsP_len, rowsD_len, ro_nil, oo_def, om_def, ol_def, oa_def, on_def, og_def, gm_def, gl_def, ga_def, kc_def, kx_def, gk_def, kk_def, kb_def, pf_def, pt_def, ro_mov, ro_mkfn, ro_pick, ro_build, ro_slit, SlitK_t, SlitK_f, ro_chk, ro_bin, ro_eq, ro_un, ro_conv, ro_same, ro_b2s, ro_faddr, ro_fld, ro_idx, ro_ext, ro_len, ro_mx, ro_mn, ro_slice, SliceK_str, SliceK_list, ro_slice3, ro_load, LoadK_elt, LoadK_ptr, LoadO_some, LoadR_some, LoadR_map, ro_box, ro_alloc, ro_store, StoreK_ptr, StoreO_some, StoreR_some, ro_iaddr, IaddrK_list, IaddrK_own, IaddrR_some, IaddrR_map, ro_app, ro_appz, newsD_list, newsD_str, newsD_own, newsO_some, newsC_list, newsC_str, newsC_own, newsCO_some, AppN_some, AppZ_int, AppS_nil, AppS_own, AppO_acc, ro_cap, CapK_own, CapO, ro_ovl, OvlK_own, OvlO_some, ro_copy, CopyK_own, CopyO_some, ro_clear, ClearK_own, ClearO_some, ClearK_nil, ro_mks, MksK_int, winD_all, viewS_list, viewS_own', viewO_some, eqO_ptr, eqO_bool, eqO_func, eqO_row, eqO_list, eqO_own, eqOo_some, rx_nil, rx_cons, keepK_nil, keepK_cons, keepE_nil, keepE_cons, keepN_nil, keepN_cons, D.names, D.namesL, acc_real, acc_nl, acc_pure, acc_fz, acc_sz, acc_rows, acc_spare, ro_guard, GuardK_tt, GuardK_no, GuardK_ff, GuardK_tf, GuardK_ft, CondK_t, CondK_f, contP_some, lk_nil, lk_hit, lk_miss, Nat.reduceBEq, put_some, put_none, ev_t, ev_c, argEnv, reduceIte, Nat.reduceEqDiff, Nat.reduceAdd, Nat.reduceSub, Nat.reduceMul, Nat.reduceLT, Nat.reduceLeDiff, reduceCtorEq, binD, binInt, binStr, eqD, eqCell, eqCells, eqN, boolD, okD, aggD, unD, pickD, chkD, convD, sameD, strD, faddrD, fldD, idxD, extD, lenD, mxD, mnD, sliceD, slice3D, bndD, loadD, fillD, splice, D.cells, D.ok, D.one, D.pt, D.pt1, D.pt0, D.norm1, D.norm, cond_true, cond_false, true_and, and_true, and_self, Bool.true_and, Bool.and_true, Bool.false_and, Bool.and_false, Bool.not_true, Bool.not_false, Bool.true_or, Bool.false_or, Bool.or_true, Bool.or_false, List.getElem?_cons_zero, List.getElem?_cons_succ, List.getElem?_nil, List.length_cons, List.length_nil, List.length_map, List.length_append, List.length_set, List.length_take, List.length_drop, List.length_replicate, List.take_succ_cons, List.take_zero, List.take_nil, List.drop_succ_cons, List.drop_zero, List.drop_nil, List.cons_append, List.nil_append, List.append_nil, List.map_cons, List.map_nil, List.all_cons, List.all_nil, List.set_cons_zero, List.set_cons_succ, List.isEmpty_cons, List.isEmpty_nil, List.forall_mem_cons, List.not_mem_nil, List.forall_mem_nil, false_imp_iff, implies_true, ne_eq, not_false_eq_true, Option.map_some, Option.map_none, Nat.zero_add, Nat.add_zero, Nat.sub_self, Int.toNat_natCast, Int.reduceToNat, Int.reduceLT, Int.reduceLE, Int.reduceEq, Int.reduceBEq, beq_self_eq_true, Int.reduceNeg, decide_true, decide_false, IntKind.bits, Nat.min_eq_left, Int.reducePow, Nat.reducePow, Int.fdiv_eq_ediv_of_nonneg, Nat.lt_irrefl, Int.le_refl, Nat.le_refl, Int.natCast_nonneg, Nat.lt_add_one, Nat.zero_lt_succ, view, view2, view1, view0, mapO, capsD_fn, D.sc, D.sc1, D.sc2, pull, pull2, pull1, pull0, idx_hit, idx_miss, idx_nil, sucO_some, sucO_none, gate, pullσ, pullOb, Go.Vi.freeze, Go.Vi.freeze1, capt, capt.captL, reachL, reachO, isin, List.flatten_cons, List.flatten_nil, merge, mset, renOb, fr, D.ren, D.renL, List.getD_cons_zero, List.getD_cons_succ, List.nodup_cons, List.nodup_nil, List.mem_cons, or_false, false_or, resK_nil, resK_tmp, resK_cell, ResC_ptr, ResO_some, ResR_some, ResL_some, ofRes, List.reverse_nil, Option.some.injEq, D.bool.injEq, D.int.injEq, D.str.injEq, D.agg.injEq, D.tup.injEq, D.list.injEq, D.ptr.injEq, D.own.injEq, List.cons.injEq, BndE_fn]))
end Go.Proofs.YtapennlmboabeaaGreat

namespace Go.Proofs.YtapennlmboabeaaGreat
open Go Go.Vi
def zU : Us := ⟨0, ⟨0, [], [], [], 0, 0⟩, 0, []⟩
def findU (us : List Us) (id : Int) : Option Us := us.find? fun u => u.id == id
theorem findB_low {α : Type} (f : α → Int) : ∀ (l : List α) (id : Int), (l.Pairwise fun a b => f a < f b) → (l.find? fun u => f u == id) = if isAtB f l (lowB f l id) id = true then l[lowB f l id]? else none
 | [], id, _ => by simp [isAtB, lowB]
 | x :: l, id, hs => by
  obtain ⟨h1, h2⟩ := List.pairwise_cons.1 hs
  have ih := findB_low f l id h2
  unfold lowB
  split
  ·rename_i hx
   have hne : (f x == id) = false := by simp; omega
   have e : isAtB f (x :: l) (lowB f l id + 1) id = isAtB f l (lowB f l id) id := by simp [isAtB]
   rw [List.find?_cons, hne, e, ih]
   simp
  ·rename_i hx
   have e : isAtB f (x :: l) 0 id = (f x == id) := by simp [isAtB]
   rw [e, List.find?_cons]
   by_cases h : f x = id
   ·have : (f x == id) = true := by simpa using h
    simp [this]
   ·have : (f x == id) = false := by simpa using h
    rw [this]
    simp only [Bool.false_eq_true, if_false]
    rw [List.find?_eq_none]
    intro y hy
    have := h1 y hy
    simp; omega
def findUR (us : List Us) (id : Int) : D := .tup [.agg ((findU us id).getD zU).row, .bool (findU us id).isSome]
--HAS book.Find
theorem exYGF : type_of% (an @row1_len (an @row2_len (an @row3_len (an @rowsE_len (an @rowsU_len (an @rowsP_len @rowsD_len)))))) := (an @row1_len (an @row2_len (an @row3_len (an @rowsE_len (an @rowsU_len (an @rowsP_len @rowsD_len))))))
theorem bookFind_p (t : Int) (us : List Us) (ps : List Po) (ds : List Dn) (id : Int) (hl : us.length ≤ 140737488351232) (hs : us.Pairwise fun a b => a.id < b.id) : PureD Tryz.prog 16 [St t us ps ds, .int .u32 id] (findUR us id) := by
 refine pureV Tryz.func16 low16 (by simp [c16]) ?_
 have pl := placeU_p t us ps ds id hl hs
 simp only [c16, St] at pl ⊢
 have hf := findB_low Us.id us id hs
 unfold findUR findU
 rw [hf]
 by_cases hat : isAtB Us.id us (lowB Us.id us id) id = true
 ·obtain ⟨u, hu⟩ : ∃ u, us[lowB Us.id us id]? = some u := by
   unfold isAtB at hat
   split at hat
   ·exact ⟨_, by assumption⟩
   ·cases hat
  rw [hat] at pl
  rw [if_pos hat, hu]
  have hr := rowsU_get hu
  have hlt := (List.getElem?_eq_some_iff.1 hu).1
  simp only [Option.getD_some, Option.isSome_some, Us.row]
  exact wk0 [] [] (an exYGF (an hr @Us.row.eq_1))
 ·have hat' : isAtB Us.id us (lowB Us.id us id) id = false := by simpa using hat
  rw [hat'] at pl
  rw [if_neg hat]
  simp only [Option.getD_none, Option.isSome_none, zU, Us.row, row1, row2, row3, rowsE, List.map_nil]
  exact wk0 [] [] exYGF
--END
set_option maxHeartbeats 1000000 in
theorem refFind_p (t : Int) (us : List Us) (ps : List Po) (ds : List Dn) (id : Int) (hl : us.length ≤ 140737488351232) : PureD Tryz.prog 17 [St t us ps ds, .int .u32 id] (findUR us id) := by
 refine pureV Tryz.func17 low17 (by simp [c17]) ?_
 simp only [c17, St]
 refine wk [] [] exYGF ?_
 refine Run_loop (ι := {i : Nat // i ≤ us.length ∧ findU us id = findU (us.drop i) id}) (fun i => ([(1, .int .u32 id), (2, .ptr 0 0 0 1), (4, .ptr 1 0 0 1), (9, .int .i64 us.length), (10, .int .i64 i.1)], [⟨true, false, true, false, 4, [[.int .i64 t, L (rowsU us), L (rowsP ps), L (rowsD ds)]], some 0⟩, ⟨true, false, true, false, 9, [[.int .u32 0, .int .i64 0, .list (some true) true [], .list (some true) true [], .list (some true) true [], .int .i64 0, .int .i64 0, .int .u64 0, .list (some true) true []]], some 0⟩])) (fun i => us.length - i.1) ⟨0, by simp, by simp⟩ ?_ ?_
 ·exact gcw [0, 1] exYGF
 rintro ⟨i, hi, hf⟩ hk
 dsimp only at hk ⊢
 by_cases hlt : i < us.length
 ·have c1 : ((i : Int) < (us.length : Int)) = True := by simp; omega
  obtain ⟨d, hd⟩ : ∃ d, us[i]? = some d := ⟨_, List.getElem?_eq_getElem hlt⟩
  have hr := rowsU_get hd
  have hdr : us.drop i = d :: us.drop (i + 1) := by
   rw [List.getElem?_eq_getElem hlt] at hd; cases hd; exact List.drop_eq_getElem_cons hlt
  by_cases hc : d.id = id
  ·have c2 : (d.id == id) = true := by simpa using hc
   have e : findU us id = some d := by rw [hf, hdr]; simp [findU, c2]
   unfold findUR
   rw [e]
   simp only [Option.getD_some, Option.isSome_some, Us.row]
   exact wk0 [] [] (an exYGF (an c1 (an hr (an c2 @Us.row.eq_1))))
  ·have c2 : (d.id == id) = false := by simpa using hc
   refine wk [] [] (an exYGF (an c1 (an hr (an c2 @Us.row.eq_1)))) ?_
   refine hk ⟨i + 1, by omega, ?_⟩ _ _ (by dsimp only; omega) ?_
   ·rw [hf, hdr]; simp [findU, c2]
   dsimp only
   exact gcw [0, 1] exYGF
 ·have c1 : ((i : Int) < (us.length : Int)) = False := by simp; omega
  have e : findU us id = none := by rw [hf, List.drop_eq_nil_of_le (by omega)]; rfl
  unfold findUR
  rw [e]
  simp only [Option.getD_none, Option.isSome_none, zU, Us.row, row1, row2, row3, rowsE, List.map_nil]
  exact wk0 [] [] (an exYGF c1)
end Go.Proofs.YtapennlmboabeaaGreat

namespace Go.Proofs.YtapennlmboabeaaGreat
open Go Go.Vi
theorem acc_b' {sz : Nat} {pu : Bool} {rows : List (List D)} (h : rows.isEmpty = false) : acc false sz pu rows = acc true sz pu rows := by simp [acc, h]
theorem acc_ne' {b pu : Bool} {sz : Nat} {rows : List (List D)} (h : rows.isEmpty = false) : acc b sz pu rows = ⟨true, false, pu, false, sz, rows, none⟩ := by simp [acc, h]
theorem ins_eqA {α : Type} {A B : List α} {z r : α} {k n : Nat} (hA : A.length = k) (hk : k < n) :
  List.take (k + 1) (List.take k (A ++ List.replicate (n + 1 - k) z) ++ List.take (n + 1 - k) [r] ++ List.drop (k + 1) (A ++ List.replicate (n + 1 - k) z)) ++ B ++
   List.drop (k + 1 + (n - k)) (List.take k (A ++ List.replicate (n + 1 - k) z) ++ List.take (n + 1 - k) [r] ++ List.drop (k + 1) (A ++ List.replicate (n + 1 - k) z)) = A ++ r :: B := by
 have h1 : List.take k (A ++ List.replicate (n + 1 - k) z) = A := List.take_left' hA
 have h2 : List.take (n + 1 - k) [r] = [r] := List.take_of_length_le (by simp; omega)
 rw [h1, h2, List.take_left' (by simp [hA]), List.drop_eq_nil_of_le (by simp; omega)]
 simp
theorem ins_eqB {α : Type} {L U : List α} {r : α} {k n : Nat} (hL : L.length = n) (hU : U.length = 1) (hk : k < n) :
  List.take k (List.take (k + 1) (L ++ U) ++ List.drop k L ++ List.drop (k + 1 + (n - k)) (L ++ U)) ++ List.take (n + 1 - k) [r] ++
   List.drop (k + min 1 (n + 1 - k)) (List.take (k + 1) (L ++ U) ++ List.drop k L ++ List.drop (k + 1 + (n - k)) (L ++ U)) = List.take k L ++ r :: List.drop k L := by
 have h1 : List.drop (k + 1 + (n - k)) (L ++ U) = [] := List.drop_eq_nil_of_le (by simp; omega)
 have h2 : List.take (n + 1 - k) [r] = [r] := List.take_of_length_le (by simp; omega)
 have h3 : k + min 1 (n + 1 - k) = k + 1 := by omega
 have h4 : (List.take (k + 1) (L ++ U)).length = k + 1 := by simp; omega
 rw [h1, h2, h3, List.append_nil, List.drop_left' h4, List.take_append_of_le_length (by omega), List.take_take, Nat.min_eq_left (by omega), List.take_append_of_le_length (by omega)]
 simp
theorem ins_isE {α : Type} {l : List α} {k : Nat} {d : α} : (l.take k ++ d :: l.drop k).isEmpty = false := by simp
theorem clU_ne (tg : Bool) (l : List (List D)) (hne : l ≠ []) (hsz : ∀ r ∈ l, r.length = 9) (hl : l.length ≤ 400000000000) : CallG Tryz.prog 40 [.list none tg l] [] (.own 0 0 l.length l.length 9 none) [acc true 9 true l] := by
 refine callG Tryz.func40 low40 (by simp [c40]) ?_
 simp only [c40]
 refine Run_nils 0 rfl fun b hb => ?_
 obtain rfl : b = false := by
  cases b with
  | false => rfl
  | true => exact absurd (hb rfl) hne
 refine wk [] [] trivial ?_
 rw [acc_b' (by simpa using hne)]
 exact rtw [0] trivial
theorem clU_nil (tg : Bool) : CallG Tryz.prog 40 [.list (some true) tg []] [] (.list (some true) true []) [] := by
 refine callG Tryz.func40 low40 (by simp [c40]) ?_
 simp only [c40]
 refine wk [] [] trivial ?_
 exact rtw [] trivial
theorem clU_emp (tg : Bool) : CallG Tryz.prog 40 [.list (some false) tg []] [] (.own 0 0 0 0 9 none) [acc false 9 true []] := by
 refine callG Tryz.func40 low40 (by simp [c40]) ?_
 simp only [c40]
 refine wk [] [] trivial ?_
 exact rtw [0] trivial
theorem inU_emp (d : List D) (hd : d.length = 9) (tg : Bool) (nl : Option Bool) : CallG Tryz.prog 64 [.own 0 0 0 0 9 none, .int .i64 0, .list nl tg [d]] [acc false 9 true []]
  (.own 0 0 1 1 9 none) [acc true 9 true [d]] := by
 refine callG Tryz.func64 low64 (by simp [c64]) ?_
 simp only [c64]
 refine wk [] [] (an hd @forall_eq.{1}) ?_
 exact rtw [0] trivial
theorem inU_nil (b : Bool) (d : List D) (hd : d.length = 9) (tg : Bool) (nl : Option Bool) : CallG Tryz.prog 64 [.list (some b) true [], .int .i64 0, .list nl tg [d]] []
  (.own 0 0 1 1 9 none) [acc true 9 true [d]] := by
 refine callG Tryz.func64 low64 (by simp [c64]) ?_
 simp only [c64]
 refine wk [] [] (an hd @forall_eq.{1}) ?_
 exact rtw [0] trivial
set_option maxHeartbeats 1000000 in
theorem inU_p (l : List (List D)) (k : Nat) (d : List D) (tg : Bool) (nl : Option Bool) (hne : l ≠ []) (hsz : ∀ r ∈ l, r.length = 9) (hd : d.length = 9) (hp : (l.all fun r => r.all D.pt1) = true) (hpd : (d.all D.pt1) = true) (hl : l.length ≤ 400000000000) (hk : k ≤ l.length) : CallG Tryz.prog 64 [.own 0 0 l.length l.length 9 none, .int .i64 k, .list nl tg [d]] [acc true 9 true l]
  (.own 0 0 (l.length + 1) (l.length + 1) 9 none) [acc true 9 true (l.take k ++ d :: l.drop k)] := by
 refine callG Tryz.func64 low64 (by simp [c64]) ?_
 simp only [c64]
 have hne' : l.isEmpty = false := by simpa using hne
 have hdn : (d = []) = False := by
  rw [eq_iff_iff]
  refine ⟨fun h => ?_, False.elim⟩
  rw [h] at hd
  cases hd
 have hszd : ∀ r ∈ l.drop k, r.length = 9 := fun r hr => hsz r (List.mem_of_mem_drop hr)
 by_cases hkl : k = l.length
 ·subst hkl
  have c2 : ((l.length : Int) == (l.length : Int)) = true := by simp
  refine wk [] [] (an hne' (an c2 (an hd @forall_eq.{1}))) ?_
  have e : l.take l.length ++ d :: l.drop l.length = l ++ [d] := by simp
  rw [e]
  exact rtw [0] trivial
 ·have c2 : ((k : Int) == (l.length : Int)) = false := by simp; omega
  have e3 : ((l.length : Int) + ((1 : Nat) : Int) - (k : Int)).toNat = l.length + 1 - k := by omega
  have c4 : ((k : Int) ≤ (l.length : Int)) = True := by simp; omega
  repeat' ((first | refine Run_seq ?_ | refine Run_skip ?_ | refine Run_block ?_ | refine Run_blk ?_ | refine Run_exit rfl ?_ | refine Run_ret ?_ | refine Run_nil ?_ | refine Run_condK ?_ | refine Run_ops mixed ?_ | refine Run_opsX mixed ?_ | with_reducible refine PostV_open ?_ | with_reducible refine PostG_open ?_ | with_reducible refine PostQ_open ?_ | with_reducible refine ro_callV ?_ | with_reducible refine ro_callVX ?_ | simp (disch := omega) only [w64, wu64, wu32, wu16, wu8, Int.tdiv_eq_ediv_of_nonneg, Int.tmod_eq_emod_of_nonneg] | (with_reducible refine SliceK_own rfl rfl ?_ ?_; (focus ((try simp only [reduceIte, Int.natCast_nonneg, Int.le_refl, List.length_append, List.length_map, Nat.sub_zero]) <;> ((repeat' (with_reducible refine And.intro ?_ ?_)) <;> first | exact trivial | assumption | (simp; done) | (simp only [List.length_map] at *; omega) | omega | (simp [D.cells, D.ok, D.one, D.pt, D.pt1]; done))))) | (refine GuardK_split (fun hc => ?_) (fun hc => ?_) <;> (try simp only [hc]) <;> (try simp at hc)) | (refine CondK_split (fun hc => ?_) (fun hc => ?_) <;> (try simp only [hc]) <;> (try simp at hc)) | (with_reducible refine And.intro ?_ ?_; (focus ((repeat' (with_reducible refine And.intro ?_ ?_)) <;> first | exact trivial | assumption | (simp; done) | (simp only [List.length_map] at *; omega) | omega | (simp [D.cells, D.ok, D.one, D.pt, D.pt1]; done)))) | (with_reducible intro x hx) | omega) <;> (try simp only [hne', c2, e3, c4, hd, forall_eq, ro_nil, oo_def, om_def, ol_def, oa_def, on_def, og_def, gm_def, gl_def, ga_def, kc_def, kx_def, gk_def, kk_def, kb_def, pf_def, pt_def, ro_mov, ro_mkfn, ro_pick, ro_build, ro_slit, SlitK_t, SlitK_f, ro_chk, ro_bin, ro_eq, ro_un, ro_conv, ro_same, ro_b2s, ro_faddr, ro_fld, ro_idx, ro_ext, ro_len, ro_mx, ro_mn, ro_slice, SliceK_str, SliceK_list, ro_slice3, ro_load, LoadK_elt, LoadK_ptr, LoadO_some, LoadR_some, LoadR_map, ro_box, ro_alloc, ro_store, StoreK_ptr, StoreO_some, StoreR_some, ro_iaddr, IaddrK_list, IaddrK_own, IaddrR_some, IaddrR_map, ro_app, ro_appz, newsD_list, newsD_str, newsD_own, newsO_some, newsC_list, newsC_str, newsC_own, newsCO_some, AppN_some, AppZ_int, AppS_nil, AppS_own, AppO_acc, ro_cap, CapK_own, CapO, ro_ovl, OvlK_own, OvlO_some, ro_copy, CopyK_own, CopyO_some, ro_clear, ClearK_own, ClearO_some, ClearK_nil, ro_mks, MksK_int, winD_all, viewS_list, viewS_own', viewO_some, eqO_ptr, eqO_bool, eqO_func, eqO_row, eqO_list, eqO_own, eqOo_some, rx_nil, rx_cons, keepK_nil, keepK_cons, keepE_nil, keepE_cons, keepN_nil, keepN_cons, D.names, D.namesL, acc_real, acc_nl, acc_pure, acc_fz, acc_sz, acc_rows, acc_spare, ro_guard, GuardK_tt, GuardK_no, GuardK_ff, GuardK_tf, GuardK_ft, CondK_t, CondK_f, contP_some, lk_nil, lk_hit, lk_miss, Nat.reduceBEq, put_some, put_none, ev_t, ev_c, argEnv, reduceIte, Nat.reduceEqDiff, Nat.reduceAdd, Nat.reduceSub, Nat.reduceMul, Nat.reduceLT, Nat.reduceLeDiff, reduceCtorEq, binD, binInt, binStr, eqD, eqCell, eqCells, eqN, boolD, okD, aggD, unD, pickD, chkD, convD, sameD, strD, faddrD, fldD, idxD, extD, lenD, mxD, mnD, sliceD, slice3D, bndD, loadD, fillD, splice, D.cells, D.ok, D.one, D.pt, D.pt1, D.pt0, D.norm1, D.norm, cond_true, cond_false, true_and, and_true, and_self, Bool.true_and, Bool.and_true, Bool.false_and, Bool.and_false, Bool.not_true, Bool.not_false, Bool.true_or, Bool.false_or, Bool.or_true, Bool.or_false, List.getElem?_cons_zero, List.getElem?_cons_succ, List.getElem?_nil, List.length_cons, List.length_nil, List.length_map, List.length_append, List.length_set, List.length_take, List.length_drop, List.length_replicate, List.take_succ_cons, List.take_zero, List.take_nil, List.drop_succ_cons, List.drop_zero, List.drop_nil, List.cons_append, List.nil_append, List.append_nil, List.map_cons, List.map_nil, List.all_cons, List.all_nil, List.set_cons_zero, List.set_cons_succ, List.isEmpty_cons, List.isEmpty_nil, List.forall_mem_cons, List.not_mem_nil, List.forall_mem_nil, false_imp_iff, implies_true, ne_eq, not_false_eq_true, Option.map_some, Option.map_none, Nat.zero_add, Nat.add_zero, Nat.sub_self, Int.toNat_natCast, Int.reduceToNat, Int.reduceLT, Int.reduceLE, Int.reduceEq, Int.reduceBEq, beq_self_eq_true, Int.reduceNeg, decide_true, decide_false, IntKind.bits, Nat.min_eq_left, Int.reducePow, Nat.reducePow, Int.fdiv_eq_ediv_of_nonneg, Nat.lt_irrefl, Int.le_refl, Nat.le_refl, Int.natCast_nonneg, Nat.lt_add_one, Nat.zero_lt_succ, view, view2, view1, view0, mapO, capsD_fn, D.sc, D.sc1, D.sc2, pull, pull2, pull1, pull0, idx_hit, idx_miss, idx_nil, sucO_some, sucO_none, gate, pullσ, pullOb, Go.Vi.freeze, Go.Vi.freeze1, capt, capt.captL, reachL, reachO, isin, List.flatten_cons, List.flatten_nil, merge, mset, renOb, fr, D.ren, D.renL, List.getD_cons_zero, List.getD_cons_succ, List.nodup_cons, List.nodup_nil, List.mem_cons, or_false, false_or, resK_nil, resK_tmp, resK_cell, ResC_ptr, ResO_some, ResR_some, ResL_some, ofRes, List.reverse_nil, Option.some.injEq, D.bool.injEq, D.int.injEq, D.str.injEq, D.agg.injEq, D.tup.injEq, D.list.injEq, D.ptr.injEq, D.own.injEq, List.cons.injEq, BndE_fn]))
  ·refine AppO_over (c := x) (by omega) ⟨by simp, by simp only [List.length_replicate]; omega, by simp only [List.length_replicate]; omega⟩ ⟨by simp only [List.length_replicate]; omega, rfl, rfl, by simp only [List.length_replicate]; omega, rfl⟩ ?_
   have e4 : k - 0 + (l.length + 1 - k) = l.length + 1 := by omega
   have e5 : winD 0 (k - 0) l.length l = l.take k := by
    unfold winD
    simp [hkl]
   have e6 : min k l.length = k := by omega
   have e7 : min 1 (l.length + 1 - k) = 1 := by omega
   have e8 : winD k (l.length - k) l.length l = l.drop k := by
    unfold winD
    split
    ·rename_i h; rw [h.1]; rfl
    ·rw [List.take_of_length_le (by simp)]
   have e9 : ((k : Int) + ((1 : Nat) : Int)).toNat = k + 1 := by omega
   have e10 : min (l.length - k) (l.length + 1 - (k + 1)) = l.length - k := by omega
   simp only [e4, List.length_replicate, e5]
   refine wk [] [] (an hne' (an c2 (an e3 (an c4 (an e6 (an e7 (an e8 (an e9 (an e10 (an hd @forall_eq.{1})))))))))) ?_
   have e11 : List.take (l.length + 1 - (k + 1)) (List.drop k l) = l.drop k := by rw [List.take_of_length_le (by simp)]
   rw [e11, ins_eqA (by rw [List.length_take]; omega) (by omega), acc_ne' ins_isE]
   exact rbw [1] trivial
  ·refine SliceK_spare (c := x) rfl rfl rfl ⟨rfl, by omega, by omega, by omega⟩ ⟨by simp, rfl, rfl, by omega, rfl, by omega⟩ ?_
   have e4 : ((l.length : Int) + ((1 : Nat) : Int)).toNat = l.length + 1 := by omega
   have e9 : ((k : Int) + ((1 : Nat) : Int)).toNat = k + 1 := by omega
   have f1 : l.length + 1 - l.length = 1 := by omega
   obtain ⟨u, hu⟩ : ∃ u, List.replicate 9 D.undef = u := ⟨_, rfl⟩
   obtain ⟨U, hU⟩ : ∃ U, List.replicate 1 u = U := ⟨_, rfl⟩
   have hUl : U.length = 1 := by rw [← hU]; rfl
   have f2 : winD k (l.length + 1 - k) (l.length + 1) (l ++ U) = l.drop k ++ U := by
    unfold winD
    split
    ·rename_i h; rw [h.1]; rfl
    ·rw [List.drop_append_of_le_length (by omega), List.take_of_length_le (by simp [hUl]; omega)]
   have f3 : List.take (l.length + 1 - (k + 1)) (l.drop k ++ U) = l.drop k := List.take_left' (by simp)
   have f6 : (∀ r ∈ l.drop k ++ U, r.length = 9) = True := by
    rw [eq_iff_iff]
    refine ⟨fun _ => trivial, fun _ r hr => ?_⟩
    rcases List.mem_append.1 hr with h | h
    ·exact hszd r h
    ·rw [← hU] at h; rw [List.eq_of_mem_replicate h, ← hu]; rfl
   have f4 : (l.drop k).all (fun r => r.all D.one) = true := by
    simp only [List.all_eq_true]
    intro r hr d hd
    exact pt1_one (List.all_eq_true.1 (List.all_eq_true.1 hp r (List.mem_of_mem_drop hr)) d hd)
   have f5 : min (l.length - k + 1) (l.length + 1 - (k + 1)) = l.length - k := by omega
   simp only [e4, f1, Nat.sub_zero, hu, hU]
   repeat' ((first | refine Run_seq ?_ | refine Run_skip ?_ | refine Run_block ?_ | refine Run_blk ?_ | refine Run_exit rfl ?_ | refine Run_nil ?_ | refine Run_condK ?_ | refine Run_ops mixed ?_ | refine Run_opsX mixed ?_ | with_reducible refine PostV_open ?_ | with_reducible refine PostG_open ?_ | with_reducible refine PostQ_open ?_ | with_reducible refine ro_callV ?_ | with_reducible refine ro_callVX ?_ | simp (disch := omega) only [w64, wu64, wu32, wu16, wu8, Int.tdiv_eq_ediv_of_nonneg, Int.tmod_eq_emod_of_nonneg] | (with_reducible refine SliceK_own rfl rfl ?_ ?_; (focus ((try simp only [reduceIte, Int.natCast_nonneg, Int.le_refl, List.length_append, List.length_map, Nat.sub_zero]) <;> ((repeat' (with_reducible refine And.intro ?_ ?_)) <;> first | exact trivial | assumption | (simp; done) | (simp only [List.length_map] at *; omega) | omega | (simp [D.cells, D.ok, D.one, D.pt, D.pt1]; done))))) | (refine GuardK_split (fun hc => ?_) (fun hc => ?_) <;> (try simp only [hc]) <;> (try simp at hc)) | (refine CondK_split (fun hc => ?_) (fun hc => ?_) <;> (try simp only [hc]) <;> (try simp at hc)) | (with_reducible refine And.intro ?_ ?_; (focus ((repeat' (with_reducible refine And.intro ?_ ?_)) <;> first | exact trivial | assumption | (simp; done) | (simp only [List.length_map] at *; omega) | omega | (simp [D.cells, D.ok, D.one, D.pt, D.pt1]; done)))) | (with_reducible intro x hx) | omega) <;> (try simp only [hne', c2, c4, e9, f1, f2, f3, f4, f5, f6, hUl, hU, Nat.sub_zero, hd, hdn, forall_eq, not_false_eq_true, ro_nil, oo_def, om_def, ol_def, oa_def, on_def, og_def, gm_def, gl_def, ga_def, kc_def, kx_def, gk_def, kk_def, kb_def, pf_def, pt_def, ro_mov, ro_mkfn, ro_pick, ro_build, ro_slit, SlitK_t, SlitK_f, ro_chk, ro_bin, ro_eq, ro_un, ro_conv, ro_same, ro_b2s, ro_faddr, ro_fld, ro_idx, ro_ext, ro_len, ro_mx, ro_mn, ro_slice, SliceK_str, SliceK_list, ro_slice3, ro_load, LoadK_elt, LoadK_ptr, LoadO_some, LoadR_some, LoadR_map, ro_box, ro_alloc, ro_store, StoreK_ptr, StoreO_some, StoreR_some, ro_iaddr, IaddrK_list, IaddrK_own, IaddrR_some, IaddrR_map, ro_app, ro_appz, newsD_list, newsD_str, newsD_own, newsO_some, newsC_list, newsC_str, newsC_own, newsCO_some, AppN_some, AppZ_int, AppS_nil, AppS_own, AppO_acc, ro_cap, CapK_own, CapO, ro_ovl, OvlK_own, OvlO_some, ro_copy, CopyK_own, CopyO_some, ro_clear, ClearK_own, ClearO_some, ClearK_nil, ro_mks, MksK_int, winD_all, viewS_list, viewS_own', viewO_some, eqO_ptr, eqO_bool, eqO_func, eqO_row, eqO_list, eqO_own, eqOo_some, rx_nil, rx_cons, keepK_nil, keepK_cons, keepE_nil, keepE_cons, keepN_nil, keepN_cons, D.names, D.namesL, acc_real, acc_nl, acc_pure, acc_fz, acc_sz, acc_rows, acc_spare, ro_guard, GuardK_tt, GuardK_no, GuardK_ff, GuardK_tf, GuardK_ft, CondK_t, CondK_f, contP_some, lk_nil, lk_hit, lk_miss, Nat.reduceBEq, put_some, put_none, ev_t, ev_c, argEnv, reduceIte, Nat.reduceEqDiff, Nat.reduceAdd, Nat.reduceSub, Nat.reduceMul, Nat.reduceLT, Nat.reduceLeDiff, reduceCtorEq, binD, binInt, binStr, eqD, eqCell, eqCells, eqN, boolD, okD, aggD, unD, pickD, chkD, convD, sameD, strD, faddrD, fldD, idxD, extD, lenD, mxD, mnD, sliceD, slice3D, bndD, loadD, fillD, splice, D.cells, D.ok, D.one, D.pt, D.pt1, D.pt0, D.norm1, D.norm, cond_true, cond_false, true_and, and_true, and_self, Bool.true_and, Bool.and_true, Bool.false_and, Bool.and_false, Bool.not_true, Bool.not_false, Bool.true_or, Bool.false_or, Bool.or_true, Bool.or_false, List.getElem?_cons_zero, List.getElem?_cons_succ, List.getElem?_nil, List.length_cons, List.length_nil, List.length_map, List.length_append, List.length_set, List.length_take, List.length_drop, List.length_replicate, List.take_succ_cons, List.take_zero, List.take_nil, List.drop_succ_cons, List.drop_zero, List.drop_nil, List.cons_append, List.nil_append, List.append_nil, List.map_cons, List.map_nil, List.all_cons, List.all_nil, List.set_cons_zero, List.set_cons_succ, List.isEmpty_cons, List.isEmpty_nil, List.forall_mem_cons, List.not_mem_nil, List.forall_mem_nil, false_imp_iff, implies_true, ne_eq, not_false_eq_true, Option.map_some, Option.map_none, Nat.zero_add, Nat.add_zero, Nat.sub_self, Int.toNat_natCast, Int.reduceToNat, Int.reduceLT, Int.reduceLE, Int.reduceEq, Int.reduceBEq, beq_self_eq_true, Int.reduceNeg, decide_true, decide_false, IntKind.bits, Nat.min_eq_left, Int.reducePow, Nat.reducePow, Int.fdiv_eq_ediv_of_nonneg, Nat.lt_irrefl, Int.le_refl, Nat.le_refl, Int.natCast_nonneg, Nat.lt_add_one, Nat.zero_lt_succ, view, view2, view1, view0, mapO, capsD_fn, D.sc, D.sc1, D.sc2, pull, pull2, pull1, pull0, idx_hit, idx_miss, idx_nil, sucO_some, sucO_none, gate, pullσ, pullOb, Go.Vi.freeze, Go.Vi.freeze1, capt, capt.captL, reachL, reachO, isin, List.flatten_cons, List.flatten_nil, merge, mset, renOb, fr, D.ren, D.renL, List.getD_cons_zero, List.getD_cons_succ, List.nodup_cons, List.nodup_nil, List.mem_cons, or_false, false_or, resK_nil, resK_tmp, resK_cell, ResC_ptr, ResO_some, ResR_some, ResL_some, ofRes, List.reverse_nil, Option.some.injEq, D.bool.injEq, D.int.injEq, D.str.injEq, D.agg.injEq, D.tup.injEq, D.list.injEq, D.ptr.injEq, D.own.injEq, List.cons.injEq, BndE_fn]))
   rw [ins_eqB rfl hUl (by omega), acc_ne' ins_isE]
   refine Run_ent (Ent_pure 0 rfl rfl (by
    show (l.take k ++ d :: l.drop k).all (fun r => r.all D.pt1) = true
    simp only [List.all_append, List.all_cons, Bool.and_eq_true]
    exact ⟨List.all_eq_true.2 fun r hr => List.all_eq_true.1 hp r (List.mem_of_mem_take hr), hpd, List.all_eq_true.2 fun r hr => List.all_eq_true.1 hp r (List.mem_of_mem_drop hr)⟩)) ?_
   refine wk [] [] trivial ?_
   exact rtw [0] trivial
end Go.Proofs.YtapennlmboabeaaGreat

namespace Go.Proofs.YtapennlmboabeaaGreat
open Go Go.Vi
theorem get_mid' {α : Type} {xs ys : List α} {x y : α} {i : Nat} (h : i ≠ xs.length) : (xs ++ x :: ys)[i]? = (xs ++ y :: ys)[i]? := by
 by_cases hi : i < xs.length
 ·rw [List.getElem?_append_left hi, List.getElem?_append_left hi]
 ·rw [List.getElem?_append_right (by omega), List.getElem?_append_right (by omega)]
  obtain ⟨j, hj⟩ : ∃ j, i - xs.length = j + 1 := ⟨i - xs.length - 1, by omega⟩
  rw [hj]; simp
theorem PureD_nils {P : Program} {f : FuncId} {pre post xs ys : List D} {tg : Bool} {rows : List (List D)} {r : D}
  (h : ∀ b, (b = true → rows = []) → PureD P f (pre ++ .agg (xs ++ .list (some b) tg rows :: ys) :: post) r) : PureD P f (pre ++ .agg (xs ++ .list none tg rows :: ys) :: post) r := by
 refine ⟨(h false (by simp)).enters, fun G w vs hG hl hr => ?_⟩
 have hlv : pre.length < vs.length := by rw [← hl]; simp
 have h1 := hr pre.length (.agg (xs ++ .list none tg rows :: ys)) vs[pre.length] (by simp) (List.getElem?_eq_getElem hlv)
 have key : ∃ b, (b = true → rows = []) ∧ PRep G w (.agg (xs ++ .list (some b) tg rows :: ys)) vs[pre.length] := by
  generalize vs[pre.length] = v at h1
  cases h1 with
  | agg _ us hlen hrep =>
   have hlu : xs.length < us.length := by rw [← hlen]; simp
   have h2 := hrep xs.length (.list none tg rows) us[xs.length] (by simp) (List.getElem?_eq_getElem hlu)
   have h3 : ∃ b, (b = true → rows = []) ∧ PRep G w (.list (some b) tg rows) us[xs.length] := by
    generalize us[xs.length] = u at h2
    cases h2 with
    | list nl tg rows A cap sz vf h1 h2 h3 h4 h5 h9 h6 h7 h8 =>
     refine ⟨A.isNone, fun hA => ?_, .list (some A.isNone) tg rows A cap sz vf (by simp) h2 h3 h4 h5 h9 h6 h7 h8⟩
     have : A = none := by simpa using hA
     exact List.eq_nil_of_length_eq_zero (by have := h2 this; omega)
   obtain ⟨b, hb, h3⟩ := h3
   refine ⟨b, hb, .agg _ us (by simpa using hlen) fun i d v hd hv => ?_⟩
   by_cases hi : i = xs.length
   ·subst hi
    simp only [List.getElem?_append_right (Nat.le_refl _), Nat.sub_self, List.getElem?_cons_zero, Option.some.injEq] at hd
    subst hd
    rw [List.getElem?_eq_getElem hlu] at hv
    cases hv
    exact h3
   ·exact hrep i d v (by rw [← hd]; exact get_mid' hi) hv
 obtain ⟨b, hb, key⟩ := key
 refine (h b hb).calls G w vs hG (by simpa using hl) fun i d v hd hv => ?_
 by_cases hi : i = pre.length
 ·subst hi
  simp only [List.getElem?_append_right (Nat.le_refl _), Nat.sub_self, List.getElem?_cons_zero, Option.some.injEq] at hd
  subst hd
  rw [List.getElem?_eq_getElem hlv] at hv
  cases hv
  exact key
 ·exact hr i d v (by rw [← hd]; exact get_mid' hi) hv
theorem exYGW : type_of% (an @row1_len (an @row2_len (an @row3_len (an @rowsE_len (an @rowsU_len (an @rowsP_len @rowsD_len)))))) := (an @row1_len (an @row2_len (an @row3_len (an @rowsE_len (an @rowsU_len (an @rowsP_len @rowsD_len))))))
theorem with_0b (b : Bool) (t : Int) (u : Us) (ps : List Po) (ds : List Dn) : PureD Tryz.prog 32 [.agg [.int .i64 t, .list (some b) false [], L (rowsP ps), L (rowsD ds)], .int .i64 0, .bool false, .agg u.row] (St t [u] ps ds) := by
 refine pureV Tryz.func32 low32 (by simp [c32]) ?_
 simp only [c32, St]
 have hrow : rowsU [u] = [u.row] := rfl
 rw [hrow]
 cases b
 ·have ins := inU_emp u.row rfl true (some false)
  simp only [Us.row] at ins ⊢
  have uc1 := @clU_emp
  exact wk0 [40, 64] [] exYGW
 ·have ins := inU_nil true u.row rfl true (some false)
  simp only [Us.row] at ins ⊢
  have uc1 := @clU_nil
  exact wk0 [40, 64] [] exYGW
theorem with_0 (t : Int) (u : Us) (ps : List Po) (ds : List Dn) : PureD Tryz.prog 32 [.agg [.int .i64 t, L [], L (rowsP ps), L (rowsD ds)], .int .i64 0, .bool false, .agg u.row] (St t [u] ps ds) :=
 PureD_nils (pre := []) (xs := [.int .i64 t]) (ys := [L (rowsP ps), L (rowsD ds)]) (post := [.int .i64 0, .bool false, .agg u.row]) fun b _ => with_0b b t u ps ds
end Go.Proofs.YtapennlmboabeaaGreat

namespace Go.Proofs.YtapennlmboabeaaGreat
open Go Go.Vi
theorem rowsU_snoc {l : List Us} {x : Us} : rowsU l ++ [[D.int IntKind.u32 x.id, D.int IntKind.i64 x.se.base, L (row2 .i64 .i64 x.se.turns), L (row3 x.se.shifts), L (row1 .i64 x.se.off), .int .i64 x.se.before, .int .i64 x.se.after, .int .u64 x.ver, L (rowsE x.evs)]] = rowsU (l ++ [x]) := by simp [rowsU, Us.row]
theorem rowsU_nil : rowsU [] = [] := rfl
def withS (u : Us) (s : List Us × Bool) (x : Us) : List Us × Bool :=
 let a := if s.2 = false ∧ u.id ≤ x.id then (s.1 ++ [u], true) else s
 if x.id = u.id then a else (a.1 ++ [x], a.2)
def withG (u : Us) (l : List Us) : List Us × Bool := l.foldl (withS u) ([], false)
def withR (us : List Us) (u : Us) : List Us := if (withG u us).2 then (withG u us).1 else (withG u us).1 ++ [u]
theorem withG_snoc (u : Us) (l : List Us) (x : Us) : withG u (l ++ [x]) = withS u (withG u l) x := by simp [withG]
theorem withS_len (u : Us) (s : List Us × Bool) (x : Us) : (withS u s x).1.length ≤ s.1.length + 2 := by
 unfold withS
 dsimp only
 (repeat' split) <;> simp
theorem withG_len (u : Us) : ∀ l : List Us, (withG u l).1.length ≤ 2 * l.length := by
 have : ∀ (l : List Us) (s : List Us × Bool), (l.foldl (withS u) s).1.length ≤ s.1.length + 2 * l.length := by
  intro l
  induction l with
  | nil => intro s; simp
  | cons x l ih => intro s; have h1 := ih (withS u s x); have h2 := withS_len u s x; simp only [List.foldl_cons, List.length_cons]; omega
 intro l
 have := this l ([], false)
 simpa [withG] using this
theorem exYGX : type_of% (an @row1_len (an @row2_len (an @row3_len (an @rowsE_len (an @rowsU_len (an @rowsP_len (an @rowsD_len (an @rowsU_snoc @rowsU_nil)))))))) := (an @row1_len (an @row2_len (an @row3_len (an @rowsE_len (an @rowsU_len (an @rowsP_len (an @rowsD_len (an @rowsU_snoc @rowsU_nil))))))))
set_option maxHeartbeats 1000000 in
theorem refWith_p (t : Int) (us : List Us) (ps : List Po) (ds : List Dn) (u : Us) (hl : us.length ≤ 1000000000) : PureD Tryz.prog 33 [St t us ps ds, .agg u.row] (St t (withR us u) ps ds) := by
 refine pureV Tryz.func33 low33 (by simp [c33]) ?_
 simp only [c33, St, Us.row]
 refine wk [] [] exYGX ?_
 refine Run_ent (Ent_acc (t := 5) (b := false) 9 true (by decide) rfl) ?_
 refine Run_loop (ι := {i : Nat // i ≤ us.length}) (fun i => ([(2, .ptr 0 0 0 1), (3, .ptr 1 0 0 1), (4, .ptr 2 0 0 1), (5, .own 3 0 (withG u (us.take i.1)).1.length (withG u (us.take i.1)).1.length 9 none), (6, .bool (withG u (us.take i.1)).2), (11, .int .i64 us.length), (12, .int .i64 i.1)],
  [⟨true, false, true, false, 4, [[.int .i64 t, L (rowsU us), L (rowsP ps), L (rowsD ds)]], some 0⟩, ⟨true, false, true, false, 9, [u.row], some 0⟩, ⟨true, false, true, false, 4, [[.int .i64 0, .list (some true) true [], .list (some true) true [], .list (some true) true []]], some 0⟩, acc false 9 true (rowsU (withG u (us.take i.1)).1)])) (fun i => us.length - i.1) ⟨0, by simp⟩ ?_ ?_
 ·simp only [List.take_zero, show withG u [] = ([], false) from rfl, rowsU_nil, List.length_nil, Us.row]
  exact gcw [0, 1, 2, 3] exYGX
 rintro ⟨i, hi⟩ hk
 dsimp only at hk ⊢
 have hlen := withG_len u (us.take i)
 simp only [List.length_take] at hlen
 by_cases hlt : i < us.length
 ·have c1 : ((i : Int) < (us.length : Int)) = True := by simp; omega
  obtain ⟨x, hx⟩ : ∃ x, us[i]? = some x := ⟨_, List.getElem?_eq_getElem hlt⟩
  have hr := rowsU_get hx
  have ht : us.take (i + 1) = us.take i ++ [x] := by rw [List.take_add_one, hx]; rfl
  have hg := withG_snoc u (us.take i) x
  generalize withG u (us.take i) = g at hg hlen
  obtain ⟨o, p⟩ := g
  dsimp only at hlen ⊢
  have q1 : (x.id == u.id) = decide (x.id = u.id) := by rw [Bool.eq_iff_iff]; simp
  cases p with
  | false =>
   by_cases hle : u.id ≤ x.id
   ·have c2 : (x.id ≥ u.id) = True := by simp; omega
    by_cases hxu : x.id = u.id
    ·have c3 : (x.id == u.id) = true := by simpa using hxu
     have e : withS u (o, false) x = (o ++ [u], true) := by
      simp [withS, *]
     refine wk [] [] (an exYGX (an c1 (an hr (an @Us.row.eq_1 (an c2 c3))))) ?_
     refine hk ⟨i + 1, by omega⟩ _ _ (by dsimp only; omega) ?_
     dsimp only [Us.row]
     rw [ht, hg, e]
     simp only [List.length_append, List.length_cons, List.length_nil]
     exact gcw [0, 1, 2, 3] exYGX
    ·have c3 : (x.id == u.id) = false := by simpa using hxu
     have e : withS u (o, false) x = (o ++ [u] ++ [x], true) := by
      simp [withS, *]
     refine wk [] [] (an exYGX (an c1 (an hr (an @Us.row.eq_1 (an c2 c3))))) ?_
     refine hk ⟨i + 1, by omega⟩ _ _ (by dsimp only; omega) ?_
     dsimp only [Us.row]
     rw [ht, hg, e]
     simp only [List.length_append, List.length_cons, List.length_nil]
     exact gcw [0, 1, 2, 3] exYGX
   ·have c2 : (x.id ≥ u.id) = False := by simp; omega
    have hxu : ¬ x.id = u.id := by omega
    have c3 : (x.id == u.id) = false := by simpa using hxu
    have e : withS u (o, false) x = (o ++ [x], false) := by
     simp [withS, *]
    refine wk [] [] (an exYGX (an c1 (an hr (an @Us.row.eq_1 (an c2 c3))))) ?_
    refine hk ⟨i + 1, by omega⟩ _ _ (by dsimp only; omega) ?_
    dsimp only [Us.row]
    rw [ht, hg, e]
    simp only [List.length_append, List.length_cons, List.length_nil]
    exact gcw [0, 1, 2, 3] exYGX
  | true =>
   by_cases hxu : x.id = u.id
   ·have c3 : (x.id == u.id) = true := by simpa using hxu
    have e : withS u (o, true) x = (o, true) := by
     simp [withS, *]
    refine wk [] [] (an exYGX (an c1 (an hr (an @Us.row.eq_1 c3)))) ?_
    refine hk ⟨i + 1, by omega⟩ _ _ (by dsimp only; omega) ?_
    dsimp only [Us.row]
    rw [ht, hg, e]
    simp only [List.length_append, List.length_cons, List.length_nil]
    exact gcw [0, 1, 2, 3] exYGX
   ·have c3 : (x.id == u.id) = false := by simpa using hxu
    have e : withS u (o, true) x = (o ++ [x], true) := by
     simp [withS, *]
    refine wk [] [] (an exYGX (an c1 (an hr (an @Us.row.eq_1 c3)))) ?_
    refine hk ⟨i + 1, by omega⟩ _ _ (by dsimp only; omega) ?_
    dsimp only [Us.row]
    rw [ht, hg, e]
    simp only [List.length_append, List.length_cons, List.length_nil]
    exact gcw [0, 1, 2, 3] exYGX
 ·have c1 : ((i : Int) < (us.length : Int)) = False := by simp; omega
  obtain rfl : i = us.length := by omega
  rw [List.take_length] at hlen ⊢
  have hR : withR us u = if (withG u us).2 then (withG u us).1 else (withG u us).1 ++ [u] := rfl
  generalize withG u us = g at hlen hR ⊢
  obtain ⟨o, p⟩ := g
  dsimp only at hlen hR ⊢
  rw [hR]
  cases p with
  | true =>
   simp only [if_true]
   exact wk0 [] [] (an exYGX (an c1 @Us.row.eq_1))
  | false =>
   simp only [Bool.false_eq_true, if_false]
   exact wk0 [] [] (an exYGX (an c1 @Us.row.eq_1))
end Go.Proofs.YtapennlmboabeaaGreat

namespace Go.Proofs.YtapennlmboabeaaGreat
open Go Go.Vi
def rep (u x : Us) : Us := if x.id = u.id then u else x
theorem rep_id (u x : Us) : (rep u x).id = x.id := by unfold rep; split <;> simp [*]
theorem map_rep_none (u : Us) : ∀ l : List Us, (∀ x ∈ l, x.id ≠ u.id) → l.map (rep u) = l
 | [], _ => rfl
 | x :: l, h => by
  rw [List.map_cons, map_rep_none u l fun y hy => h y (by simp [hy])]
  have := h x (by simp)
  simp [rep, this]
theorem fold_true (u : Us) : ∀ (l acc : List Us), (∀ x ∈ l, x.id ≠ u.id) → l.foldl (withS u) (acc, true) = (acc ++ l, true)
 | [], acc, _ => by simp
 | x :: l, acc, h => by
  have hx := h x (by simp)
  have e : withS u (acc, true) x = (acc ++ [x], true) := by simp [withS, hx]
  rw [List.foldl_cons, e, fold_true u l _ fun y hy => h y (by simp [hy])]
  simp
theorem fold_false (u : Us) : ∀ (l acc : List Us), (l.Pairwise fun a b => a.id < b.id) → (∃ x ∈ l, x.id = u.id) → l.foldl (withS u) (acc, false) = (acc ++ l.map (rep u), true)
 | [], _, _, h => by simp at h
 | x :: l, acc, hs, h => by
  obtain ⟨h1, h2⟩ := List.pairwise_cons.1 hs
  by_cases hx : x.id = u.id
  ·have e : withS u (acc, false) x = (acc ++ [u], true) := by simp [withS, hx]
   have hn : ∀ y ∈ l, y.id ≠ u.id := fun y hy => by have := h1 y hy; omega
   rw [List.foldl_cons, e, fold_true u l _ hn, List.map_cons, map_rep_none u l hn]
   simp [rep, hx]
  ·obtain ⟨y, hy, hyu⟩ := h
   have hyl : y ∈ l := by
    rcases List.mem_cons.1 hy with rfl | h
    ·exact absurd hyu hx
    ·exact h
   have hlt := h1 y hyl
   have e : withS u (acc, false) x = (acc ++ [x], false) := by
    have : ¬ u.id ≤ x.id := by omega
    simp [withS, hx, this]
   rw [List.foldl_cons, e, fold_false u l _ h2 ⟨y, hyl, hyu⟩]
   simp [rep, hx]
theorem withR_map {us : List Us} {u : Us} (hs : us.Pairwise fun a b => a.id < b.id) (h : ∃ x ∈ us, x.id = u.id) : withR us u = us.map (rep u) := by
 have : withG u us = (us.map (rep u), true) := by
  have := fold_false u us [] hs h
  simpa [withG] using this
 simp [withR, this]
theorem findU_some {us : List Us} {id : Int} {u : Us} (h : findU us id = some u) : u ∈ us ∧ u.id = id := by
 unfold findU at h
 have h1 := List.find?_some h
 exact ⟨List.mem_of_find?_eq_some h, by simpa using h1⟩
end Go.Proofs.YtapennlmboabeaaGreat

namespace Go.Proofs.YtapennlmboabeaaGreat
open Go Go.Vi
def zrU : List D := [.int .u32 0, .int .i64 0, .list (some true) true [], .list (some true) true [], .list (some true) true [], .int .i64 0, .int .i64 0, .int .u64 0, .list (some true) true []]
set_option maxHeartbeats 1000000 in
theorem delU_p (l : List (List D)) (k : Nat) (hsz : ∀ r ∈ l, r.length = 9) (hp : (l.all fun r => r.all D.pt1) = true) (hl : l.length ≤ 400000000000) (hk : k < l.length) : CallG Tryz.prog 39 [.own 0 0 l.length l.length 9 none, .int .i64 k, .int .i64 (k + 1)] [acc true 9 true l]
  (.own 0 0 (l.length - 1) l.length 9 none) [acc true 9 true (l.take k ++ l.drop (k + 1) ++ [zrU])] := by
 refine callG Tryz.func39 low39 (by simp [c39]) ?_
 simp only [c39]
 have hne' : l.isEmpty = false := by
  cases l with
  | nil => simp at hk
  | cons => rfl
 have c2 : ((k : Int) == (k : Int) + 1) = false := by simp; omega
 have e1 : (1 : Int) + (k : Int) = (k : Int) + 1 := by omega
 have e2 : ((k : Int) + 1).toNat = k + 1 := by omega
 have e3 : winD (k + 1) (l.length - (k + 1)) l.length l = l.drop (k + 1) := by
  unfold winD
  rw [if_neg (by omega), List.take_of_length_le (by simp)]
 refine wk [] [] (an hne' (an c2 (an e2 e3))) ?_
 refine ⟨fun r hr => hsz r (List.mem_of_mem_drop hr), ?_⟩
 have e4 : k + (l.length - (k + 1)) = l.length - 1 := by omega
 refine AppO_in (by omega) ⟨rfl, by simp only [List.length_drop]; omega, by simp only [List.length_drop]; omega⟩ ⟨rfl, by simp only [List.length_drop]; omega, by simp⟩ ?_
 simp only [Nat.sub_zero, Nat.zero_add, List.length_drop, e4]
 refine wk [] [] (an hne' c2) ?_
 have e5 : (l.take k ++ l.drop (k + 1) ++ l.drop (l.length - 1)).length = l.length := by simp only [List.length_append, List.length_take, List.length_drop]; omega
 have e6 : List.take (l.length - 1) (l.take k ++ l.drop (k + 1) ++ l.drop (l.length - 1)) = l.take k ++ l.drop (k + 1) := List.take_left' (by simp only [List.length_append, List.length_take, List.length_drop]; omega)
 have e7 : List.drop (l.length - 1 + 1) (l.take k ++ l.drop (k + 1) ++ l.drop (l.length - 1)) = [] := List.drop_eq_nil_of_le (by rw [e5]; omega)
 generalize l.take k ++ l.drop (k + 1) ++ l.drop (l.length - 1) = m at e5 e6 e7 ⊢
 refine SliceK_more rfl rfl rfl ⟨rfl, by omega, by omega, by omega⟩ ⟨e5, rfl, by omega⟩ ?_
 have e8 : l.length - (l.length - 1) = 1 := by omega
 simp only [e5, e6, e7, e8, List.replicate_one, ro_nil, oo_def, om_def, ol_def, oa_def, on_def, og_def, gm_def, gl_def, ga_def, kc_def, kx_def, gk_def, kk_def, kb_def, pf_def, pt_def, ro_mov, ro_mkfn, ro_pick, ro_build, ro_slit, SlitK_t, SlitK_f, ro_chk, ro_bin, ro_eq, ro_un, ro_conv, ro_same, ro_b2s, ro_faddr, ro_fld, ro_idx, ro_ext, ro_len, ro_mx, ro_mn, ro_slice, SliceK_str, SliceK_list, ro_slice3, ro_load, LoadK_elt, LoadK_ptr, LoadO_some, LoadR_some, LoadR_map, ro_box, ro_alloc, ro_store, StoreK_ptr, StoreO_some, StoreR_some, ro_iaddr, IaddrK_list, IaddrK_own, IaddrR_some, IaddrR_map, ro_app, ro_appz, newsD_list, newsD_str, newsD_own, newsO_some, newsC_list, newsC_str, newsC_own, newsCO_some, AppN_some, AppZ_int, AppS_nil, AppS_own, AppO_acc, ro_cap, CapK_own, CapO, ro_ovl, OvlK_own, OvlO_some, ro_copy, CopyK_own, CopyO_some, ro_clear, ClearK_own, ClearO_some, ClearK_nil, ro_mks, MksK_int, winD_all, viewS_list, viewS_own', viewO_some, eqO_ptr, eqO_bool, eqO_func, eqO_row, eqO_list, eqO_own, eqOo_some, rx_nil, rx_cons, keepK_nil, keepK_cons, keepE_nil, keepE_cons, keepN_nil, keepN_cons, D.names, D.namesL, acc_real, acc_nl, acc_pure, acc_fz, acc_sz, acc_rows, acc_spare, ro_guard, GuardK_tt, GuardK_no, GuardK_ff, GuardK_tf, GuardK_ft, CondK_t, CondK_f, contP_some, lk_nil, lk_hit, lk_miss, Nat.reduceBEq, put_some, put_none, ev_t, ev_c, argEnv, reduceIte, Nat.reduceEqDiff, Nat.reduceAdd, Nat.reduceSub, Nat.reduceMul, Nat.reduceLT, Nat.reduceLeDiff, reduceCtorEq, binD, binInt, binStr, eqD, eqCell, eqCells, eqN, boolD, okD, aggD, unD, pickD, chkD, convD, sameD, strD, faddrD, fldD, idxD, extD, lenD, mxD, mnD, sliceD, slice3D, bndD, loadD, fillD, splice, D.cells, D.ok, D.one, D.pt, D.pt1, D.pt0, D.norm1, D.norm, cond_true, cond_false, true_and, and_true, and_self, Bool.true_and, Bool.and_true, Bool.false_and, Bool.and_false, Bool.not_true, Bool.not_false, Bool.true_or, Bool.false_or, Bool.or_true, Bool.or_false, List.getElem?_cons_zero, List.getElem?_cons_succ, List.getElem?_nil, List.length_cons, List.length_nil, List.length_map, List.length_append, List.length_set, List.length_take, List.length_drop, List.length_replicate, List.take_succ_cons, List.take_zero, List.take_nil, List.drop_succ_cons, List.drop_zero, List.drop_nil, List.cons_append, List.nil_append, List.append_nil, List.map_cons, List.map_nil, List.all_cons, List.all_nil, List.set_cons_zero, List.set_cons_succ, List.isEmpty_cons, List.isEmpty_nil, List.forall_mem_cons, List.not_mem_nil, List.forall_mem_nil, false_imp_iff, implies_true, ne_eq, not_false_eq_true, Option.map_some, Option.map_none, Nat.zero_add, Nat.add_zero, Nat.sub_self, Int.toNat_natCast, Int.reduceToNat, Int.reduceLT, Int.reduceLE, Int.reduceEq, Int.reduceBEq, beq_self_eq_true, Int.reduceNeg, decide_true, decide_false, IntKind.bits, Nat.min_eq_left, Int.reducePow, Nat.reducePow, Int.fdiv_eq_ediv_of_nonneg, Nat.lt_irrefl, Int.le_refl, Nat.le_refl, Int.natCast_nonneg, Nat.lt_add_one, Nat.zero_lt_succ, view, view2, view1, view0, mapO, capsD_fn, D.sc, D.sc1, D.sc2, pull, pull2, pull1, pull0, idx_hit, idx_miss, idx_nil, sucO_some, sucO_none, gate, pullσ, pullOb, Go.Vi.freeze, Go.Vi.freeze1, capt, capt.captL, reachL, reachO, isin, List.flatten_cons, List.flatten_nil, merge, mset, renOb, fr, D.ren, D.renL, List.getD_cons_zero, List.getD_cons_succ, List.nodup_cons, List.nodup_nil, List.mem_cons, or_false, false_or, resK_nil, resK_tmp, resK_cell, ResC_ptr, ResO_some, ResR_some, ResL_some, ofRes, List.reverse_nil, Option.some.injEq, D.bool.injEq, D.int.injEq, D.str.injEq, D.agg.injEq, D.tup.injEq, D.list.injEq, D.ptr.injEq, D.own.injEq, List.cons.injEq, BndE_fn]
 refine wk [] [] (an e5 (an e6 e7)) ?_
 rw [acc_ne' (rows := l.take k ++ l.drop (k + 1) ++ [zrU]) (by simp)]
 unfold zrU
 exact rtw [0] trivial
end Go.Proofs.YtapennlmboabeaaGreat

namespace Go.Proofs.YtapennlmboabeaaGreat
open Go Go.Vi
theorem exYGQ : type_of% (an @row1_len (an @row2_len (an @row3_len (an @rowsE_len (an @rowsU_len (an @rowsP_len @rowsD_len)))))) := (an @row1_len (an @row2_len (an @row3_len (an @rowsE_len (an @rowsU_len (an @rowsP_len @rowsD_len))))))
theorem clP_ne (tg : Bool) (l : List (List D)) (hne : l ≠ []) (hsz : ∀ r ∈ l, r.length = 16) (hl : l.length ≤ 400000000000) : CallG Tryz.prog 42 [.list none tg l] [] (.own 0 0 l.length l.length 16 none) [acc true 16 true l] := by
 refine callG Tryz.func42 low42 (by simp [c42]) ?_
 simp only [c42]
 refine Run_nils 0 rfl fun b hb => ?_
 obtain rfl : b = false := by
  cases b with
  | false => rfl
  | true => exact absurd (hb rfl) hne
 refine wk [] [] exYGQ ?_
 rw [acc_b' (by simpa using hne)]
 exact rtw [0] exYGQ
theorem clP_nil (tg : Bool) : CallG Tryz.prog 42 [.list (some true) tg []] [] (.list (some true) true []) [] := by
 refine callG Tryz.func42 low42 (by simp [c42]) ?_
 simp only [c42]
 refine wk [] [] exYGQ ?_
 exact rtw [] exYGQ
theorem clP_emp (tg : Bool) : CallG Tryz.prog 42 [.list (some false) tg []] [] (.own 0 0 0 0 16 none) [acc false 16 true []] := by
 refine callG Tryz.func42 low42 (by simp [c42]) ?_
 simp only [c42]
 refine wk [] [] exYGQ ?_
 exact rtw [0] exYGQ
theorem lv1_p (p : Po) (user : Int) : PureD Tryz.prog 43 [.agg p.row, .elt [.int .u32 user] 0] (.bool (p.owner == user)) := by
 refine pureV Tryz.func43 low43 (by simp [c43]) ?_
 simp only [c43, Po.row]
 exact wk0 [] [] exYGQ
def idxP (user : Int) : List Po → Nat → Int
 | [], _ => -1
 | p :: l, n => if p.owner = user then n else idxP user l (n + 1)
theorem idxP_spec (user : Int) : ∀ (l : List Po) (n : Nat), (idxP user l n = -1 ∧ ∀ p ∈ l, p.owner ≠ user) ∨ ∃ i, idxP user l n = ((n + i : Nat) : Int) ∧ i < l.length ∧ (∃ p, l[i]? = some p ∧ p.owner = user) ∧ ∀ q ∈ l.take i, q.owner ≠ user
 | [], n => .inl ⟨rfl, by simp⟩
 | p :: l, n => by
  by_cases h : p.owner = user
  ·exact .inr ⟨0, by simp [idxP, h], by simp, ⟨p, by simp, h⟩, by simp⟩
  ·rcases idxP_spec user l (n + 1) with ⟨h1, h2⟩ | ⟨i, h1, h2, h3, h4⟩
   ·refine .inl ⟨by simp [idxP, h, h1], fun q hq => ?_⟩
    rcases List.mem_cons.1 hq with rfl | hq
    ·exact h
    ·exact h2 q hq
   ·refine .inr ⟨i + 1, ?_, by simp; omega, by simpa using h3, fun q hq => ?_⟩
    ·simp only [idxP, if_neg h, h1]; omega
    ·rw [List.take_succ_cons] at hq
     rcases List.mem_cons.1 hq with rfl | hq
     ·exact h
     ·exact h4 q hq
theorem ix_p (l : List Po) (user : Int) (hl : l.length ≤ 400000000000) : PureD Tryz.prog 70 [L (rowsP l), .fn 43 [.elt [.int .u32 user] 0]] (.int .i64 (idxP user l 0)) := by
 refine pureV Tryz.func70 low70 (by simp [c70]) ?_
 simp only [c70]
 refine wk [] [] exYGQ ?_
 refine Run_loop (ι := {i : Nat // i ≤ l.length ∧ idxP user l 0 = idxP user (l.drop i) i}) (fun i => ([(0, L (rowsP l)), (1, .fn 43 [.elt [.int .u32 user] 0]), (7, .int .i64 l.length), (8, .int .i64 i.1)], [])) (fun i => l.length - i.1) ⟨0, by simp⟩ ?_ ?_
 ·exact gcw [] exYGQ
 rintro ⟨i, hi, hx⟩ hk
 dsimp only at hk ⊢
 by_cases hlt : i < l.length
 ·have c1 : ((i : Int) < (l.length : Int)) = True := by simp; omega
  obtain ⟨p, hp⟩ : ∃ p, l[i]? = some p := ⟨_, List.getElem?_eq_getElem hlt⟩
  have hr := rowsP_get hp
  have hdr : l.drop i = p :: l.drop (i + 1) := by
   rw [List.getElem?_eq_getElem hlt] at hp; cases hp; exact List.drop_eq_getElem_cons hlt
  have lv := lv1_p p user
  simp only [Po.row] at lv
  by_cases hc : p.owner = user
  ·have c2 : (p.owner == user) = true := by simpa using hc
   rw [c2] at lv
   have e : idxP user l 0 = i := by rw [hx, hdr]; simp [idxP, hc]
   rw [e]
   exact wk0 [] [] (an exYGQ (an c1 (an hr @Po.row.eq_1)))
  ·have c2 : (p.owner == user) = false := by simpa using hc
   rw [c2] at lv
   have e : idxP user l 0 = idxP user (l.drop (i + 1)) (i + 1) := by rw [hx, hdr]; simp [idxP, hc]
   refine wk [] [] (an exYGQ (an c1 (an hr @Po.row.eq_1))) ?_
   refine hk ⟨i + 1, by omega, e⟩ _ _ (by dsimp only; omega) ?_
   dsimp only
   exact gcw [] exYGQ
 ·have c1 : ((i : Int) < (l.length : Int)) = False := by simp; omega
  have e : idxP user l 0 = -1 := by rw [hx, List.drop_eq_nil_of_le (by omega)]; rfl
  rw [e]
  exact wk0 [] [] (an exYGQ c1)
def keepP (user : Int) (l : List Po) : List Po := l.filter fun p => !(p.owner == user)
theorem dfnil_p (tg : Bool) (user : Int) : CallG Tryz.prog 41 [.list (some true) tg [], .fn 43 [.elt [.int .u32 user] 0]] [] (.list (some true) tg []) [] := by
 refine callG Tryz.func41 low41 (by simp [c41]) ?_
 simp only [c41]
 have ix := ix_p [] user (by simp)
 simp only [rowsP, List.map_nil, show idxP user [] 0 = -1 from rfl] at ix
 refine wk [] [] exYGQ ?_
 exact rtw [] exYGQ
theorem dfno_p (b : Bool) (l : List Po) (user : Int) (hl : l.length ≤ 400000000000) (hn : ∀ p ∈ l, p.owner ≠ user) : CallG Tryz.prog 41 [.own 0 0 l.length l.length 16 none, .fn 43 [.elt [.int .u32 user] 0]] [acc b 16 true (rowsP l)] (.own 0 0 l.length l.length 16 none) [acc b 16 true (rowsP l)] := by
 refine callG Tryz.func41 low41 (by simp [c41]) ?_
 simp only [c41]
 have e : idxP user l 0 = -1 := by
  rcases idxP_spec user l 0 with ⟨h, _⟩ | ⟨i, _, _, ⟨p, hp, ho⟩, _⟩
  ·exact h
  ·exact absurd ho (hn p (List.mem_of_getElem? hp))
 have ix := ix_p l user hl
 rw [e] at ix
 refine wk [] [] exYGQ ?_
 exact rtw [0] exYGQ
def zrP : List D := [.int .u32 0, .int .u32 0, .int .i64 0, .int .i64 0, .int .i64 0, .int .i64 0, .list (some true) true [], .list (some true) true [], .int .i64 0, .list (some true) true [], .list (some true) true [], .list (some true) true [], .list (some true) true [], .int .i64 0, .int .i64 0, .int .i64 0]
theorem keepP_take {user : Int} {l : List Po} {j : Nat} {p : Po} (h : l[j]? = some p) : keepP user (l.take (j + 1)) = keepP user (l.take j) ++ if p.owner = user then [] else [p] := by
 have : l.take (j + 1) = l.take j ++ [p] := by rw [List.take_add_one, h]; rfl
 rw [this]
 unfold keepP
 rw [List.filter_append]
 congr 1
 by_cases hx : p.owner = user <;> simp [hx]
set_option maxHeartbeats 2000000 in
theorem df_p (l : List Po) (user : Int) (hl : l.length ≤ 400000000000) (hn : ∃ p ∈ l, p.owner = user) : CallG Tryz.prog 41 [.own 0 0 l.length l.length 16 none, .fn 43 [.elt [.int .u32 user] 0]] [acc true 16 true (rowsP l)] (.own 0 0 (keepP user l).length l.length 16 none)
  [acc true 16 true (rowsP (keepP user l) ++ List.replicate (l.length - (keepP user l).length) zrP)] := by
 refine callG Tryz.func41 low41 (by simp [c41]) ?_
 simp only [c41]
 obtain ⟨i, hi, hil, ⟨p, hp, ho⟩, hb⟩ : ∃ i : Nat, idxP user l 0 = (i : Int) ∧ i < l.length ∧ (∃ p, l[i]? = some p ∧ p.owner = user) ∧ ∀ q ∈ l.take i, q.owner ≠ user := by
  rcases idxP_spec user l 0 with ⟨_, h⟩ | ⟨i, h1, h2⟩
  ·obtain ⟨p, hp, ho⟩ := hn
   exact absurd ho (h p hp)
  ·exact ⟨i, by simpa using h1, h2⟩
 have hne : (rowsP l).isEmpty = false := by
  cases l with
  | nil => simp at hil
  | cons => rfl
 have ix := ix_p l user hl
 rw [hi] at ix
 have k0 : keepP user (l.take i) = l.take i := by
  unfold keepP
  rw [List.filter_eq_self]
  intro q hq
  simpa using hb q hq
 have c0 : ((i : Int) == -1) = false := by simp
 refine wk [] [] (an exYGQ c0) ?_
 refine Run_loop (ι := {j : Nat × List Po // j.1 ≤ l.length ∧ j.2.length + (keepP user (l.take j.1)).length = j.1 ∧ 1 ≤ j.2.length}) (fun j => ([(0, .own 0 0 l.length l.length 16 none), (1, .fn 43 [.elt [.int .u32 user] 0]), (5, .int .i64 (keepP user (l.take j.1.1)).length), (6, .int .i64 j.1.1)],
  [⟨true, false, true, false, 16, rowsP (keepP user (l.take j.1.1) ++ (j.1.2 ++ l.drop j.1.1)), none⟩])) (fun j => l.length - j.1.1) ⟨(i + 1, [p]), by dsimp only; omega, by dsimp only; rw [keepP_take hp, if_pos ho, List.append_nil, k0, List.length_take]; simp only [List.length_cons, List.length_nil]; omega, by simp⟩ ?_ ?_
 ·have eK : keepP user (l.take (i + 1)) = l.take i := by rw [keepP_take hp, if_pos ho, List.append_nil, k0]
  have eL : l.take i ++ ([p] ++ l.drop (i + 1)) = l := by
   have h1 : l.drop i = p :: l.drop (i + 1) := by
    rw [List.getElem?_eq_getElem hil] at hp; cases hp; exact List.drop_eq_getElem_cons hil
   rw [List.singleton_append, ← h1, List.take_append_drop]
  have eN : (l.take i).length = i := by rw [List.length_take]; omega
  dsimp only
  rw [eK, eL, eN, acc_ne' hne]
  exact gcw [0] exYGQ
 rintro ⟨⟨j, X⟩, hj, hX, hX1⟩ hk
 dsimp only at hk hj hX hX1 ⊢
 obtain ⟨x, X', rfl⟩ : ∃ x X', X = x :: X' := by
  cases X with
  | nil => simp at hX1
  | cons x X' => exact ⟨x, X', rfl⟩
 by_cases hlt : j < l.length
 ·have c1 : ((j : Int) < (l.length : Int)) = True := by simp; omega
  obtain ⟨q, hq⟩ : ∃ q, l[j]? = some q := ⟨_, List.getElem?_eq_getElem hlt⟩
  have hdr : l.drop j = q :: l.drop (j + 1) := by
   rw [List.getElem?_eq_getElem hlt] at hq; cases hq; exact List.drop_eq_getElem_cons hlt
  have hkt := keepP_take (user := user) hq
  have lv := lv1_p q user
  simp only [Po.row] at lv
  rw [hdr]
  generalize keepP user (l.take j) = F at hX hkt ⊢
  have hr : (F ++ (x :: X' ++ q :: l.drop (j + 1)))[j]? = some q := by
   rw [← List.append_assoc, List.getElem?_append_right (by simp only [List.length_append]; omega)]
   have : j - (F ++ x :: X').length = 0 := by simp only [List.length_append]; omega
   rw [this]; rfl
  have hr2 : (F ++ (x :: X' ++ q :: l.drop (j + 1)))[F.length]? = some x := by
   rw [List.getElem?_append_right (Nat.le_refl _), Nat.sub_self]; rfl
  have hm1 : (F ++ (x :: X' ++ q :: l.drop (j + 1))).length = l.length := by
   simp only [List.length_append, List.length_cons, List.length_drop] at hX ⊢
   omega
  by_cases hc : q.owner = user
  ·have c2 : (q.owner == user) = true := by simpa using hc
   rw [c2] at lv
   rw [if_pos hc, List.append_nil] at hkt
   have hm : F ++ (x :: X' ++ q :: l.drop (j + 1)) = F ++ (x :: (X' ++ [q]) ++ l.drop (j + 1)) := by simp
   generalize F ++ (x :: X' ++ q :: l.drop (j + 1)) = m at hr hm hm1 ⊢
   have hr' := rowsP_get hr
   refine wk [] [] (an exYGQ (an c1 (an hr' (an hm1 @Po.row.eq_1)))) ?_
   refine hk ⟨(j + 1, x :: (X' ++ [q])), by dsimp only; omega, by dsimp only; rw [hkt]; simp only [List.length_append, List.length_cons, List.length_nil] at hX ⊢; omega, by simp⟩ _ _ (by dsimp only; omega) ?_
   dsimp only
   rw [hkt, ← hm]
   exact gcw [0] exYGQ
  ·have c2 : (q.owner == user) = false := by simpa using hc
   rw [c2] at lv
   rw [if_neg hc] at hkt
   have hm : (F ++ (x :: X' ++ q :: l.drop (j + 1))).set F.length q = F ++ [q] ++ (X' ++ [q] ++ l.drop (j + 1)) := by
    rw [List.set_append_right _ _ (Nat.le_refl _), Nat.sub_self]; simp
   have hFl : F.length < l.length := by simp only [List.length_cons] at hX; omega
   generalize F ++ (x :: X' ++ q :: l.drop (j + 1)) = m at hr hr2 hm hm1 ⊢
   have hr' := rowsP_get hr
   have hr2' := rowsP_get hr2
   have hs : (rowsP m).set F.length q.row = rowsP (m.set F.length q) := by simp [rowsP, List.map_set]
   rw [hm] at hs
   simp only [Po.row] at hs
   refine wk [] [] (an exYGQ (an c1 (an hr' (an hr2' (an hm1 (an hs @Po.row.eq_1)))))) ?_
   refine hk ⟨(j + 1, X' ++ [q]), by dsimp only; omega, by dsimp only; rw [hkt]; simp only [List.length_append, List.length_cons, List.length_nil] at hX ⊢; omega, by simp⟩ _ _ (by dsimp only; omega) ?_
   dsimp only
   rw [hkt]
   simp only [List.length_append, List.length_cons, List.length_nil]
   exact gcw [0] exYGQ
 ·have c1 : ((j : Int) < (l.length : Int)) = False := by simp; omega
  obtain rfl : j = l.length := by omega
  rw [List.take_length] at hX ⊢
  rw [List.drop_length, List.append_nil]
  generalize keepP user l = F at hX ⊢
  have hm1 : (F ++ x :: X').length = l.length := by simp only [List.length_append]; omega
  have hm2 : List.take F.length (rowsP (F ++ x :: X')) = rowsP F := by simp [rowsP]
  have hm3 : List.drop (F.length + (l.length - F.length)) (rowsP (F ++ x :: X')) = [] := List.drop_eq_nil_of_le (by rw [rowsP_len]; omega)
  generalize F ++ x :: X' = m at hm1 hm2 hm3 ⊢
  refine wk [] [] (an exYGQ (an c1 (an hm1 (an hm2 hm3)))) ?_
  rw [Nat.sub_zero, acc_ne' (rows := rowsP F ++ List.replicate (l.length - F.length) zrP) (by
   obtain ⟨n, hn⟩ : ∃ n, l.length - F.length = n + 1 := ⟨l.length - F.length - 1, by simp only [List.length_cons] at hX; omega⟩
   rw [hn]; simp [List.replicate_succ])]
  unfold zrP
  exact rtw [0] exYGQ
end Go.Proofs.YtapennlmboabeaaGreat

namespace Go.Proofs.YtapennlmboabeaaGreat
open Go Go.Vi
def outU (user : Int) (l : List Us) : List Us := l.filter fun u => !(u.id == user)
theorem outU_at : ∀ (l : List Us) (k : Nat) (u : Us), (l.Pairwise fun a b => a.id < b.id) → l[k]? = some u → outU u.id l = l.take k ++ l.drop (k + 1)
 | [], k, u, _, h => by simp at h
 | x :: l, 0, u, hs, h => by
  obtain ⟨h1, h2⟩ := List.pairwise_cons.1 hs
  simp at h; subst h
  have e : outU x.id l = l := by
   unfold outU
   rw [List.filter_eq_self]
   intro y hy
   have := h1 y hy
   simp; omega
  have e2 : outU x.id (x :: l) = outU x.id l := by simp [outU]
  rw [e2, e]; simp
 | x :: l, k + 1, u, hs, h => by
  obtain ⟨h1, h2⟩ := List.pairwise_cons.1 hs
  have hm : l[k]? = some u := by simpa using h
  have hx := h1 u (List.mem_of_getElem? hm)
  have hn : (x.id == u.id) = false := by simp; omega
  have e2 : outU u.id (x :: l) = x :: outU u.id l := by simp [outU, hn]
  rw [e2, outU_at l k u h2 hm]; simp
theorem isAt_some {us : List Us} {k : Nat} {id : Int} (h : isAtB Us.id us k id = true) : ∃ u, us[k]? = some u ∧ u.id = id := by
 unfold isAtB at h
 split at h
 ·rename_i x hx
  exact ⟨x, hx, by simpa using h⟩
 ·cases h
theorem pt_rows (us : List Us) : ((rowsU us).all fun r => r.all D.pt1) = true := by simp [rowsU, Us.row, D.pt1]
theorem sz_rows (us : List Us) : ∀ r ∈ rowsU us, r.length = 9 := by simp [rowsU, Us.row]
theorem szP_rows (l : List Po) : ∀ r ∈ rowsP l, r.length = 16 := by simp [rowsP, Po.row]
theorem out_win (us : List Us) (k : Nat) (z : List D) (hk : k < us.length) : winD 0 (us.length - 1) us.length (List.take k (rowsU us) ++ List.drop (k + 1) (rowsU us) ++ [z]) = rowsU (us.take k ++ us.drop (k + 1)) := by
 unfold winD
 rw [if_neg (by omega), List.drop_zero, List.take_left' (by simp only [List.length_append, List.length_take, List.length_drop, rowsU_len]; omega)]
 simp [rowsU, List.map_take, List.map_drop]
theorem keep_win (l : List Po) (user : Int) (z : List D) : winD 0 (keepP user l).length l.length (rowsP (keepP user l) ++ List.replicate (l.length - (keepP user l).length) z) = rowsP (keepP user l) := by
 have hle : (keepP user l).length ≤ l.length := List.length_filter_le ..
 unfold winD
 split
 ·rename_i h
  rw [h.2, Nat.sub_self]; simp
 ·rw [List.drop_zero, List.take_left' (by rw [rowsP_len])]
theorem exYGLv : type_of% (an @row1_len (an @row2_len (an @row3_len (an @rowsE_len (an @rowsU_len (an @rowsP_len @rowsD_len)))))) := (an @row1_len (an @row2_len (an @row3_len (an @rowsE_len (an @rowsU_len (an @rowsP_len @rowsD_len))))))
set_option maxHeartbeats 2000000 in
theorem leave_p (t : Int) (us : List Us) (ps : List Po) (ds : List Dn) (user : Int) (hl : us.length ≤ 400000000000) (hlp : ps.length ≤ 400000000000) (hs : us.Pairwise fun a b => a.id < b.id) :
  PureD Tryz.prog 14 [St t us ps ds, .int .u32 user] (if (findU us user).isSome then .tup [St t (outU user us) (keepP user ps) ds, .int .i64 0] else .tup [St t us ps ds, .int .i64 4]) := by
 have pl := placeU_p t us ps ds user (by omega) hs
 have hf := findB_low Us.id us user hs
 have hff : findU us user = us.find? fun u => u.id == user := rfl
 rw [← hff] at hf
 by_cases hat : isAtB Us.id us (lowB Us.id us user) user = true
 ·obtain ⟨u, hu, hid⟩ := isAt_some hat
  rw [hat] at pl
  rw [if_pos hat, hu] at hf
  rw [hf]
  have hlt := (List.getElem?_eq_some_iff.1 hu).1
  generalize lowB Us.id us user = k at pl hu hlt
  have ho := outU_at us k u hs hu
  rw [hid] at ho
  rw [ho]
  simp only [Option.isSome_some, if_true]
  have hune : rowsU us ≠ [] := by
   cases us with
   | nil => simp at hlt
   | cons => simp [rowsU]
  have cu := clU_ne false (rowsU us) hune (sz_rows us) (by rw [rowsU_len]; omega)
  have du := delU_p (rowsU us) k (sz_rows us) (pt_rows us) (by rw [rowsU_len]; omega) (by rw [rowsU_len]; omega)
  have ow := out_win us k zrU hlt
  have oe : (List.take k (rowsU us) ++ List.drop (k + 1) (rowsU us) ++ [zrU]).length = us.length := by simp only [List.length_append, List.length_take, List.length_drop, rowsU_len, List.length_cons, List.length_nil]; omega
  rw [rowsU_len] at cu du
  generalize List.take k (rowsU us) ++ List.drop (k + 1) (rowsU us) ++ [zrU] = M at du ow oe
  generalize us.take k ++ us.drop (k + 1) = us' at ow
  by_cases hp : ps = []
  ·subst hp
   rw [show keepP user [] = [] from rfl]
   refine PureD_nils (pre := []) (xs := [.int .i64 t, L (rowsU us)]) (ys := [L (rowsD ds)]) (post := [.int .u32 user]) fun b _ => ?_
   refine pureV Tryz.func14 low14 (by simp [c14]) ?_
   simp only [c14, St, rowsP, List.map_nil, List.nil_append, List.cons_append] at pl ⊢
   cases b
   ·have df := dfno_p false [] user (by simp) (by simp)
    simp only [List.length_nil, rowsP, List.map_nil] at df
    have uc1 := @clP_emp
    exact wk0 [40, 39, 42, 41] [] (an exYGLv (an oe ow))
   ·have uc1 := @clP_nil
    have uc2 := @dfnil_p
    exact wk0 [40, 39, 42, 41] [] (an exYGLv (an oe ow))
  ·have hpne : rowsP ps ≠ [] := by
    cases ps with
    | nil => exact absurd rfl hp
    | cons => simp [rowsP]
   have cp := clP_ne false (rowsP ps) hpne (szP_rows ps) (by rw [rowsP_len]; omega)
   rw [rowsP_len] at cp
   refine pureV Tryz.func14 low14 (by simp [c14]) ?_
   simp only [c14, St] at pl ⊢
   by_cases hn : ∃ p ∈ ps, p.owner = user
   ·have df := df_p ps user (by omega) hn
    have kw := keep_win ps user zrP
    have ke : (rowsP (keepP user ps) ++ List.replicate (ps.length - (keepP user ps).length) zrP).length = ps.length := by
     have hle : (keepP user ps).length ≤ ps.length := List.length_filter_le ..
     simp only [List.length_append, rowsP_len, List.length_replicate]; omega
    generalize rowsP (keepP user ps) ++ List.replicate (ps.length - (keepP user ps).length) zrP = N at df kw ke
    generalize keepP user ps = F at df kw
    exact wk0 [40, 39, 42, 41] [] (an exYGLv (an oe (an ke (an ow kw))))
   ·have hn' : ∀ p ∈ ps, p.owner ≠ user := fun p hp h => hn ⟨p, hp, h⟩
    have df := dfno_p true ps user (by omega) hn'
    have kk : keepP user ps = ps := by
     unfold keepP
     rw [List.filter_eq_self]
     intro q hq
     simpa using hn' q hq
    rw [kk]
    repeat' ((first | refine Run_seq ?_ | refine Run_skip ?_ | refine Run_block ?_ | refine Run_blk ?_ | refine Run_exit rfl ?_ | refine Run_ret ?_ | refine Run_nil ?_ | refine Run_condK ?_ | refine Run_ops mixed ?_ | refine Run_opsX mixed ?_ | with_reducible refine PostV_open ?_ | with_reducible refine PostG_open ?_ | with_reducible refine PostQ_open ?_ | with_reducible refine ro_callA (f := .c (.fn 40 [])) ?_ | with_reducible refine ro_callA' (f := .c (.fn 40 [])) ?_ | with_reducible refine ro_callA (f := .c (.fn 39 [])) ?_ | with_reducible refine ro_callA' (f := .c (.fn 39 [])) ?_ | with_reducible refine ro_callA (f := .c (.fn 42 [])) ?_ | with_reducible refine ro_callA' (f := .c (.fn 42 [])) ?_ | with_reducible refine ro_callA (f := .c (.fn 41 [])) ?_ | with_reducible refine ro_callA' (f := .c (.fn 41 [])) ?_ | with_reducible refine ro_callV ?_ | with_reducible refine ro_callVX ?_ | refine CallV_pure (pl) ?_ ?_ | with_reducible refine CallE_use (cu) (by simp) ?_ | with_reducible refine CallE_use (du) (by simp) ?_ | with_reducible refine CallE_use (cp) (by simp) ?_ | with_reducible refine CallE_use (df) (by simp) ?_ | simp (disch := omega) only [w64, wu64, wu32, wu16, wu8, Int.tdiv_eq_ediv_of_nonneg, Int.tmod_eq_emod_of_nonneg] | (with_reducible refine SliceK_own rfl rfl ?_ ?_; (focus ((try simp only [row1_len, row2_len, row3_len, rowsE_len, rowsU_len, rowsP_len, rowsD_len, reduceIte, Int.natCast_nonneg, Int.le_refl, List.length_append, List.length_map, Nat.sub_zero]) <;> ((repeat' (with_reducible refine And.intro ?_ ?_)) <;> first | exact trivial | assumption | (simp; done) | (simp only [List.length_map] at *; omega) | omega | (simp [D.cells, D.ok, D.one, D.pt, D.pt1]; done))))) | (refine GuardK_split (fun hc => ?_) (fun hc => ?_) <;> (try simp only [hc]) <;> (try simp at hc)) | (refine CondK_split (fun hc => ?_) (fun hc => ?_) <;> (try simp only [hc]) <;> (try simp at hc)) | (with_reducible refine And.intro ?_ ?_; (focus ((repeat' (with_reducible refine And.intro ?_ ?_)) <;> first | exact trivial | assumption | (simp; done) | (simp only [List.length_map] at *; omega) | omega | (simp [D.cells, D.ok, D.one, D.pt, D.pt1]; done)))) | (with_reducible intro x hx) | omega) <;> (try simp only [row1_len, row2_len, row3_len, rowsE_len, rowsU_len, rowsP_len, rowsD_len, oe, ow, rowsP_len, ro_nil, oo_def, om_def, ol_def, oa_def, on_def, og_def, gm_def, gl_def, ga_def, kc_def, kx_def, gk_def, kk_def, kb_def, pf_def, pt_def, ro_mov, ro_mkfn, ro_pick, ro_build, ro_slit, SlitK_t, SlitK_f, ro_chk, ro_bin, ro_eq, ro_un, ro_conv, ro_same, ro_b2s, ro_faddr, ro_fld, ro_idx, ro_ext, ro_len, ro_mx, ro_mn, ro_slice, SliceK_str, SliceK_list, ro_slice3, ro_load, LoadK_elt, LoadK_ptr, LoadO_some, LoadR_some, LoadR_map, ro_box, ro_alloc, ro_store, StoreK_ptr, StoreO_some, StoreR_some, ro_iaddr, IaddrK_list, IaddrK_own, IaddrR_some, IaddrR_map, ro_app, ro_appz, newsD_list, newsD_str, newsD_own, newsO_some, newsC_list, newsC_str, newsC_own, newsCO_some, AppN_some, AppZ_int, AppS_nil, AppS_own, AppO_acc, ro_cap, CapK_own, CapO, ro_ovl, OvlK_own, OvlO_some, ro_copy, CopyK_own, CopyO_some, ro_clear, ClearK_own, ClearO_some, ClearK_nil, ro_mks, MksK_int, winD_all, viewS_list, viewS_own', viewO_some, eqO_ptr, eqO_bool, eqO_func, eqO_row, eqO_list, eqO_own, eqOo_some, rx_nil, rx_cons, keepK_nil, keepK_cons, keepE_nil, keepE_cons, keepN_nil, keepN_cons, D.names, D.namesL, acc_real, acc_nl, acc_pure, acc_fz, acc_sz, acc_rows, acc_spare, ro_guard, GuardK_tt, GuardK_no, GuardK_ff, GuardK_tf, GuardK_ft, CondK_t, CondK_f, contP_some, lk_nil, lk_hit, lk_miss, Nat.reduceBEq, put_some, put_none, ev_t, ev_c, argEnv, reduceIte, Nat.reduceEqDiff, Nat.reduceAdd, Nat.reduceSub, Nat.reduceMul, Nat.reduceLT, Nat.reduceLeDiff, reduceCtorEq, binD, binInt, binStr, eqD, eqCell, eqCells, eqN, boolD, okD, aggD, unD, pickD, chkD, convD, sameD, strD, faddrD, fldD, idxD, extD, lenD, mxD, mnD, sliceD, slice3D, bndD, loadD, fillD, splice, D.cells, D.ok, D.one, D.pt, D.pt1, D.pt0, D.norm1, D.norm, cond_true, cond_false, true_and, and_true, and_self, Bool.true_and, Bool.and_true, Bool.false_and, Bool.and_false, Bool.not_true, Bool.not_false, Bool.true_or, Bool.false_or, Bool.or_true, Bool.or_false, List.getElem?_cons_zero, List.getElem?_cons_succ, List.getElem?_nil, List.length_cons, List.length_nil, List.length_map, List.length_append, List.length_set, List.length_take, List.length_drop, List.length_replicate, List.take_succ_cons, List.take_zero, List.take_nil, List.drop_succ_cons, List.drop_zero, List.drop_nil, List.cons_append, List.nil_append, List.append_nil, List.map_cons, List.map_nil, List.all_cons, List.all_nil, List.set_cons_zero, List.set_cons_succ, List.isEmpty_cons, List.isEmpty_nil, List.forall_mem_cons, List.not_mem_nil, List.forall_mem_nil, false_imp_iff, implies_true, ne_eq, not_false_eq_true, Option.map_some, Option.map_none, Nat.zero_add, Nat.add_zero, Nat.sub_self, Int.toNat_natCast, Int.reduceToNat, Int.reduceLT, Int.reduceLE, Int.reduceEq, Int.reduceBEq, beq_self_eq_true, Int.reduceNeg, decide_true, decide_false, IntKind.bits, Nat.min_eq_left, Int.reducePow, Nat.reducePow, Int.fdiv_eq_ediv_of_nonneg, Nat.lt_irrefl, Int.le_refl, Nat.le_refl, Int.natCast_nonneg, Nat.lt_add_one, Nat.zero_lt_succ, view, view2, view1, view0, mapO, capsD_fn, D.sc, D.sc1, D.sc2, pull, pull2, pull1, pull0, idx_hit, idx_miss, idx_nil, sucO_some, sucO_none, gate, pullσ, pullOb, Go.Vi.freeze, Go.Vi.freeze1, capt, capt.captL, reachL, reachO, isin, List.flatten_cons, List.flatten_nil, merge, mset, renOb, fr, D.ren, D.renL, List.getD_cons_zero, List.getD_cons_succ, List.nodup_cons, List.nodup_nil, List.mem_cons, or_false, false_or, resK_nil, resK_tmp, resK_cell, ResC_ptr, ResO_some, ResR_some, ResL_some, ofRes, List.reverse_nil, Option.some.injEq, D.bool.injEq, D.int.injEq, D.str.injEq, D.agg.injEq, D.tup.injEq, D.list.injEq, D.ptr.injEq, D.own.injEq, List.cons.injEq, BndE_fn]))
 ·have hat' : isAtB Us.id us (lowB Us.id us user) user = false := by simpa using hat
  rw [hat'] at pl
  rw [if_neg hat] at hf
  rw [hf]
  refine pureV Tryz.func14 low14 (by simp [c14]) ?_
  simp only [c14, St, Option.isSome_none, Bool.false_eq_true, if_false] at pl ⊢
  exact wk0 [] [] exYGLv
end Go.Proofs.YtapennlmboabeaaGreat
