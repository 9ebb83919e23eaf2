import Derived.Test.YtapennlmboabeaaGreatYA
import Derived.Test.YtapennlmboabeaaGreatVi33
set_option linter.unusedVariables false
set_option linter.unusedSimpArgs false
set_option linter.unnecessarySimpa false
namespace Go.Proofs.YtapennlmboabeaaGreat
open Go Go.Vi
def mq (us : List Us) : Bool := decide (us.Pairwise fun a b => a.id < b.id) && us.all fun u => decide (u.evs.Pairwise fun a b => a.id < b.id)
theorem lu {us : List Us} : mq us = true ↔ (us.Pairwise fun a b => a.id < b.id) ∧ ∀ u ∈ us, u.evs.Pairwise fun a b => a.id < b.id := by
 simp [mq]
theorem sP {us : List Us} {u : Us} (hu : u ∈ us) (h : ¬ u.evs.Pairwise fun a b => a.id < b.id) : mq us = false := by
 cases hr : mq us with
 | false => rfl
 | true => exact absurd ((lu.1 hr).2 u hu) h
theorem zB {us : List Us} (h : ¬ us.Pairwise fun a b => a.id < b.id) : mq us = false := by
 cases hr : mq us with
 | false => rfl
 | true => exact absurd (lu.1 hr).1 h
theorem pA {α : Type} {f : α → Int} {l : List α} {i : Nat} {x y : α} (h : (l.take (i + 1)).Pairwise fun a b => f a < f b) (hx : l[i]? = some x) (hy : l[i + 1]? = some y) (hxy : f x < f y) : (l.take (i + 1 + 1)).Pairwise fun a b => f a < f b := by
 have e1 : l.take (i + 1 + 1) = l.take (i + 1) ++ [y] := by rw [List.take_add_one (i := i + 1), hy]; rfl
 have e2 : l.take (i + 1) = l.take i ++ [x] := by rw [List.take_add_one, hx]; rfl
 rw [e1, List.pairwise_append]
 refine ⟨h, by simp, fun a ha b hb => ?_⟩
 simp at hb; subst hb
 rw [e2] at ha h
 rcases List.mem_append.1 ha with h' | h'
 ·have := (List.pairwise_append.1 h).2.2 a h' x (by simp); omega
 ·simp at h'; subst h'; exact hxy
theorem uk {α : Type} {f : α → Int} {l : List α} {i : Nat} {x y : α} (hx : l[i]? = some x) (hy : l[i + 1]? = some y) (hxy : ¬ f x < f y) : ¬ l.Pairwise fun a b => f a < f b := fun h => by
 obtain ⟨h1, rfl⟩ := List.getElem?_eq_some_iff.1 hx
 obtain ⟨h2, rfl⟩ := List.getElem?_eq_some_iff.1 hy
 exact hxy (List.pairwise_iff_getElem.1 h i (i + 1) h1 h2 (Nat.lt_succ_self i))
theorem iO : type_of% (an @ab (an @ac (an @ae (an @ah (an @aj (an @ak @ai)))))) := (an @ab (an @ac (an @ae (an @ah (an @aj (an @ak @ai))))))
set_option maxHeartbeats 4000000 in
theorem vS (t : Int) (us : List Us) (ps : List Po) (ds : List Dn) (hl : us.length ≤ 1407374883512) (hle : ∀ u ∈ us, u.evs.length ≤ 140737488351232) : aA Tryz.prog 28 [St t us ps ds] (.bool (mq us)) := by
 refine bl Tryz.func28 low28 (by simp [c28]) ?_
 simp only [c28, St]
 refine wk [] [] iO ?_
 refine av (ι := {i : Nat // i ≤ us.length ∧ ((us.take i).Pairwise fun a b => a.id < b.id) ∧ ∀ u ∈ us.take i, u.evs.Pairwise fun a b => a.id < b.id}) (fun i => ([(1, .ptr 0 0 0 1), (8, .int .i64 us.length), (9, .int .i64 i.1)], [⟨true, false, true, false, 4, [[.int .i64 t, L (dA us), L (fF ps), L (hH ds)]], some 0⟩])) (fun i => us.length - i.1) ⟨0, by simp⟩ ?_ ?_
 ·exact fx [0] iO
 rintro ⟨i, hi, hp, hall⟩ hk
 dsimp only at hk ⊢
 by_cases hlt : i < us.length
 ·have c1 : ((i : Int) < (us.length : Int)) = True := by simp; omega
  obtain ⟨u, hu⟩ : ∃ u, us[i]? = some u := ⟨_, List.getElem?_eq_getElem hlt⟩
  have hr := fY hu
  have hleu := hle u (List.mem_of_getElem? hu)
  cases i with
  | zero =>
   refine wk [] [] (an iO (an c1 (an hr @Us.row.eq_1))) ?_
   refine av (ι := {j : Nat // j ≤ u.evs.length ∧ (u.evs.take j).Pairwise fun a b => a.id < b.id}) (fun j => ([(1, .ptr 0 0 0 1), (8, .int .i64 us.length), (9, .int .i64 ((0 : Nat) : Int)), (4, L (bA u.evs)), (37, .int .i64 u.evs.length), (38, .int .i64 j.1)], [⟨true, false, true, false, 4, [[.int .i64 t, L (dA us), L (fF ps), L (hH ds)]], some 0⟩])) (fun j => u.evs.length - j.1) ⟨0, by simp⟩ ?_ ?_
   ·exact fx [0] iO
   rintro ⟨j, hj, hpj⟩ hkj
   dsimp only at hkj ⊢
   by_cases hltj : j < u.evs.length
   ·have c6 : ((j : Int) < (u.evs.length : Int)) = True := by simp; omega
    obtain ⟨v, hv⟩ : ∃ v, u.evs[j]? = some v := ⟨_, List.getElem?_eq_getElem hltj⟩
    have hrv := gK hv
    cases j with
    | zero =>
     refine wk [] [] (an iO (an c6 (an hrv @En.row.eq_1))) ?_
     refine hkj ⟨1, by omega, by rw [List.take_add_one, hv]; simp⟩ _ _ (by dsimp only; omega) ?_
     dsimp only
     exact fx [0] iO
    | succ j =>
     obtain ⟨w, hw⟩ : ∃ w, u.evs[j]? = some w := ⟨_, List.getElem?_eq_getElem (by omega)⟩
     have hrw := gK hw
     have c7 : (((j + 1 : Nat) : Int) > 0) = True := by rw [eq_iff_iff]; exact ⟨fun _ => trivial, fun _ => by omega⟩
     have c8 : (((j + 1 : Nat) : Int) - 1) = (j : Int) := by omega
     by_cases hlt2 : w.id < v.id
     ·have c9 : (w.id ≥ v.id) = False := by simp; omega
      refine wk [] [] (an iO (an c6 (an c7 (an c8 (an c9 (an hrv (an hrw @En.row.eq_1))))))) ?_
      refine hkj ⟨j + 1 + 1, by omega, pA hpj hw hv hlt2⟩ _ _ (by dsimp only; omega) ?_
      dsimp only
      exact fx [0] iO
     ·have c9 : (w.id ≥ v.id) = True := by simp; omega
      have e : mq us = false := sP (List.mem_of_getElem? hu) (uk hw hv hlt2)
      rw [e]
      exact dz [] [] (an iO (an c6 (an c7 (an c8 (an c9 (an hrv (an hrw @En.row.eq_1)))))))
   ·have c6 : ((j : Int) < (u.evs.length : Int)) = False := by simp; omega
    have hue : u.evs.Pairwise fun a b => a.id < b.id := by rw [List.take_of_length_le (by omega)] at hpj; exact hpj
    refine wk [] [] (an iO c6) ?_
    refine hk ⟨1, by omega, by rw [List.take_add_one, hu]; simp, fun u' hu' => ?_⟩ _ _ (by dsimp only; omega) ?_
    ·rw [List.take_add_one, hu] at hu'
     rcases List.mem_append.1 hu' with h | h
     ·exact hall u' h
     ·simp at h; rw [h]; exact hue
    dsimp only
    exact fx [0] iO
  | succ i =>
   obtain ⟨p, hpu⟩ : ∃ p, us[i]? = some p := ⟨_, List.getElem?_eq_getElem (by omega)⟩
   have hrp := fY hpu
   have c2 : (((i + 1 : Nat) : Int) > 0) = True := by rw [eq_iff_iff]; exact ⟨fun _ => trivial, fun _ => by omega⟩
   have c3 : (((i + 1 : Nat) : Int) - 1) = (i : Int) := by omega
   by_cases hlt1 : p.id < u.id
   ·have c4 : (p.id ≥ u.id) = False := by simp; omega
    refine wk [] [] (an iO (an c1 (an c2 (an c3 (an c4 (an hr (an hrp @Us.row.eq_1))))))) ?_
    refine av (ι := {j : Nat // j ≤ u.evs.length ∧ (u.evs.take j).Pairwise fun a b => a.id < b.id}) (fun j => ([(1, .ptr 0 0 0 1), (8, .int .i64 us.length), (9, .int .i64 ((i + 1 : Nat) : Int)), (4, L (bA u.evs)), (37, .int .i64 u.evs.length), (38, .int .i64 j.1)], [⟨true, false, true, false, 4, [[.int .i64 t, L (dA us), L (fF ps), L (hH ds)]], some 0⟩])) (fun j => u.evs.length - j.1) ⟨0, by simp⟩ ?_ ?_
    ·exact fx [0] iO
    rintro ⟨j, hj, hpj⟩ hkj
    dsimp only at hkj ⊢
    by_cases hltj : j < u.evs.length
    ·have c6 : ((j : Int) < (u.evs.length : Int)) = True := by simp; omega
     obtain ⟨v, hv⟩ : ∃ v, u.evs[j]? = some v := ⟨_, List.getElem?_eq_getElem hltj⟩
     have hrv := gK hv
     cases j with
     | zero =>
      refine wk [] [] (an iO (an c6 (an hrv @En.row.eq_1))) ?_
      refine hkj ⟨1, by omega, by rw [List.take_add_one, hv]; simp⟩ _ _ (by dsimp only; omega) ?_
      dsimp only
      exact fx [0] iO
     | succ j =>
      obtain ⟨w, hw⟩ : ∃ w, u.evs[j]? = some w := ⟨_, List.getElem?_eq_getElem (by omega)⟩
      have hrw := gK hw
      have c7 : (((j + 1 : Nat) : Int) > 0) = True := by rw [eq_iff_iff]; exact ⟨fun _ => trivial, fun _ => by omega⟩
      have c8 : (((j + 1 : Nat) : Int) - 1) = (j : Int) := by omega
      by_cases hlt2 : w.id < v.id
      ·have c9 : (w.id ≥ v.id) = False := by simp; omega
       refine wk [] [] (an iO (an c6 (an c7 (an c8 (an c9 (an hrv (an hrw @En.row.eq_1))))))) ?_
       refine hkj ⟨j + 1 + 1, by omega, pA hpj hw hv hlt2⟩ _ _ (by dsimp only; omega) ?_
       dsimp only
       exact fx [0] iO
      ·have c9 : (w.id ≥ v.id) = True := by simp; omega
       have e : mq us = false := sP (List.mem_of_getElem? hu) (uk hw hv hlt2)
       rw [e]
       exact dz [] [] (an iO (an c6 (an c7 (an c8 (an c9 (an hrv (an hrw @En.row.eq_1)))))))
    ·have c6 : ((j : Int) < (u.evs.length : Int)) = False := by simp; omega
     have hue : u.evs.Pairwise fun a b => a.id < b.id := by rw [List.take_of_length_le (by omega)] at hpj; exact hpj
     refine wk [] [] (an iO c6) ?_
     refine hk ⟨i + 1 + 1, by omega, pA hp hpu hu hlt1, fun u' hu' => ?_⟩ _ _ (by dsimp only; omega) ?_
     ·rw [List.take_add_one, hu] at hu'
      rcases List.mem_append.1 hu' with h | h
      ·exact hall u' h
      ·simp at h; rw [h]; exact hue
     dsimp only
     exact fx [0] iO
   ·have c4 : (p.id ≥ u.id) = True := by simp; omega
    have e : mq us = false := zB (uk hpu hu hlt1)
    rw [e]
    exact dz [] [] (an iO (an c1 (an c2 (an c3 (an c4 (an hr (an hrp @Us.row.eq_1)))))))
 ·have c1 : ((i : Int) < (us.length : Int)) = False := by simp; omega
  have e : mq us = true := by
   rw [List.take_of_length_le (by omega)] at hp hall
   exact lu.2 ⟨hp, hall⟩
  rw [e]
  exact dz [] [] (an iO c1)
end Go.Proofs.YtapennlmboabeaaGreat

namespace Go.Proofs.YtapennlmboabeaaGreat
open Go Go.Vi
abbrev uq (b : Nat) (k : IntKind) : Sh := .slice b [.int k]
abbrev A0 (b : Nat) (k m : IntKind) : Sh := .slice b [.int k, .int m]
abbrev C8 : Sh := .slice 24 [.int .i64, .int .i64, .int .i64]
def Ap : List Sh := [.int .i64, .int .i64, .bool, .bool, .int .i64, .int .i64, .int .i64, .int .i64, uq 8 .i64, uq 8 .i64, A0 16 .i64 .i64, uq 8 .i64, .int .i64, uq 8 .i64, uq 8 .i64, C8]
def yf : List Sh := [.int .u32, .int .i64, .int .i64, .bool, .bool, .int .i64, .int .i64, .int .i64, .int .i64, uq 8 .i64, uq 8 .i64, A0 16 .i64 .i64, uq 8 .i64, .int .i64, uq 8 .i64, uq 8 .i64, C8]
def yi : List Sh := [.int .u32, .int .i64, A0 16 .i64 .i64, C8, uq 8 .i64, .int .i64, .int .i64, .int .u64, .slice 240 yf]
def yg : List Sh := [.int .u32, .int .u32, .int .i64, .int .i64, .int .i64, .int .i64, uq 4 .u32, A0 16 .u32 .i64, .int .i64, A0 8 .u32 .u32, C8, uq 8 .i64, A0 16 .u32 .i64, .int .i64, .int .i64, .int .i64]
def ye : List Sh := [.int .u32, .int .u64, .int .u64]
def yh : List Sh := [.int .i64, .slice 136 yi, .slice 216 yg, .slice 24 ye]
theorem sS {α : Type} {f : α → List D} {shs : List Sh} {Q : α → Prop} (hd : ∀ ds, bC shs ds → ∃ x, ds = f x ∧ Q x) : ∀ rows : List (List D), (∀ r ∈ rows, bC shs r) → ∃ l : List α, rows = l.map f ∧ ∀ x ∈ l, Q x
 | [], _ => ⟨[], rfl, by simp⟩
 | r :: rows, h => by
  obtain ⟨l, hl, hq⟩ := sS hd rows fun r hr => h r (by simp [hr])
  obtain ⟨x, hx, qx⟩ := hd r (h r (by simp))
  refine ⟨x :: l, by rw [hx, hl]; rfl, fun y hy => ?_⟩
  rcases List.mem_cons.1 hy with rfl | h
  ·exact qx
  ·exact hq y h
theorem tK {α : Type} {f : α → List D} {shs : List Sh} {Q : α → Prop} {b : Nat} {d : D} (hd : ∀ ds, bC shs ds → ∃ x, ds = f x ∧ Q x) (h : jH (.slice b shs) d) : ∃ l : List α, d = L (l.map f) ∧ l.length * b ≤ 140737488351232 ∧ ∀ x ∈ l, Q x := by
 simp only [jH] at h
 obtain ⟨rows, rfl, hl, hr⟩ := h
 obtain ⟨l, rfl, hq⟩ := sS hd rows hr
 exact ⟨l, rfl, by simpa using hl, hq⟩
theorem sB {b : Nat} {k : IntKind} {d : D} (hb : 0 < b) (h : jH (uq b k) d) : ∃ l : List Int, d = L (ar k l) ∧ l.length ≤ 140737488351232 := by
 obtain ⟨l, h1, h2, _⟩ := tK (f := fun x : Int => [D.int k x]) (Q := fun _ => True) (fun ds h => by
  simp only [bC, jH] at h
  obtain ⟨_, _, rfl, ⟨n, rfl, _⟩, rfl⟩ := h
  exact ⟨n, rfl, trivial⟩) h
 exact ⟨l, h1, Nat.le_trans (Nat.le_mul_of_pos_right _ hb) h2⟩
theorem xd {b : Nat} {k m : IntKind} {d : D} (hb : 0 < b) (h : jH (A0 b k m) d) : ∃ l : List (Int × Int), d = L (bz k m l) ∧ l.length ≤ 140737488351232 := by
 obtain ⟨l, h1, h2, _⟩ := tK (f := fun x : Int × Int => [D.int k x.1, D.int m x.2]) (Q := fun _ => True) (fun ds h => by
  simp only [bC, jH] at h
  obtain ⟨_, _, rfl, ⟨n, rfl, _⟩, _, _, rfl, ⟨n', rfl, _⟩, rfl⟩ := h
  exact ⟨(n, n'), rfl, trivial⟩) h
 exact ⟨l, h1, Nat.le_trans (Nat.le_mul_of_pos_right _ hb) h2⟩
theorem Co {d : D} (h : jH C8 d) : ∃ l : List (Int × Int × Int), d = L (ed l) ∧ l.length ≤ 140737488351232 := by
 obtain ⟨l, h1, h2, _⟩ := tK (f := fun x : Int × Int × Int => [D.int .i64 x.1, D.int .i64 x.2.1, D.int .i64 x.2.2]) (Q := fun _ => True) (fun ds h => by
  simp only [bC, jH] at h
  obtain ⟨_, _, rfl, ⟨n, rfl, _⟩, _, _, rfl, ⟨n', rfl, _⟩, _, _, rfl, ⟨n'', rfl, _⟩, rfl⟩ := h
  exact ⟨(n, n', n''), rfl, trivial⟩) h
 exact ⟨l, h1, by omega⟩
theorem i9 {k : IntKind} {d : D} (h : jH (.int k) d) : ∃ n, d = .int k n := by simp only [jH] at h; obtain ⟨n, h, _⟩ := h; exact ⟨n, h⟩
theorem fitB {d : D} (h : jH .bool d) : ∃ n, d = .bool n := by simp only [jH] at h; exact h
theorem fitS {d : D} (h : jH .str d) : ∃ s : ByteArray, d = .str s ∧ s.size ≤ 140737488351232 := by simp only [jH] at h; exact h
theorem AM (ds : List D) (h : bC Ap ds) : ∃ s : Ev, ds = s.cells ∧ s.fits := by
 simp only [Ap, bC] at h
 obtain ⟨_, _, rfl, h1, _, _, rfl, h2, _, _, rfl, h3, _, _, rfl, h4, _, _, rfl, h5, _, _, rfl, h6, _, _, rfl, h7, _, _, rfl, h8, _, _, rfl, h9, _, _, rfl, h10, _, _, rfl, h11, _, _, rfl, h12, _, _, rfl, h13, _, _, rfl, h14, _, _, rfl, h15, _, _, rfl, h16, rfl⟩ := h
 obtain ⟨n1, rfl⟩ := i9 h1
 obtain ⟨n2, rfl⟩ := i9 h2
 obtain ⟨n3, rfl⟩ := fitB h3
 obtain ⟨n4, rfl⟩ := fitB h4
 obtain ⟨n5, rfl⟩ := i9 h5
 obtain ⟨n6, rfl⟩ := i9 h6
 obtain ⟨n7, rfl⟩ := i9 h7
 obtain ⟨n8, rfl⟩ := i9 h8
 obtain ⟨l9, rfl, g9⟩ := sB (by decide) h9
 obtain ⟨l10, rfl, g10⟩ := sB (by decide) h10
 obtain ⟨l11, rfl, g11⟩ := xd (by decide) h11
 obtain ⟨l12, rfl, g12⟩ := sB (by decide) h12
 obtain ⟨n13, rfl⟩ := i9 h13
 obtain ⟨l14, rfl, g14⟩ := sB (by decide) h14
 obtain ⟨l15, rfl, g15⟩ := sB (by decide) h15
 obtain ⟨l16, rfl, g16⟩ := Co h16
 exact ⟨⟨n1, n2, n3, n4, ⟨n5, n6, n7, n8, l9, l10, l11, l12, n13⟩, l14, l15, l16⟩, rfl, ⟨g9, g10, g11, g12⟩, g14, g15, g16⟩
theorem decEn (ds : List D) (h : bC yf ds) : ∃ e : En, ds = e.row ∧ e.ev.fits := by
 simp only [yf, bC] at h
 obtain ⟨d0, r0, rfl, h0, h⟩ := h
 obtain ⟨n0, rfl⟩ := i9 h0
 obtain ⟨e, rfl, he⟩ := AM r0 (by simp only [Ap, bC]; exact h)
 exact ⟨⟨n0, e⟩, rfl, he⟩
theorem decUs (ds : List D) (h : bC yi ds) : ∃ u : Us, ds = u.row ∧ u.fit := by
 simp only [yi, bC] at h
 obtain ⟨_, _, rfl, h0, _, _, rfl, h1, _, _, rfl, h2, _, _, rfl, h3, _, _, rfl, h4, _, _, rfl, h5, _, _, rfl, h6, _, _, rfl, h7, _, _, rfl, h8, rfl⟩ := h
 obtain ⟨n0, rfl⟩ := i9 h0
 obtain ⟨n1, rfl⟩ := i9 h1
 obtain ⟨l2, rfl, g2⟩ := xd (by decide) h2
 obtain ⟨l3, rfl, g3⟩ := Co h3
 obtain ⟨l4, rfl, g4⟩ := sB (by decide) h4
 obtain ⟨n5, rfl⟩ := i9 h5
 obtain ⟨n6, rfl⟩ := i9 h6
 obtain ⟨n7, rfl⟩ := i9 h7
 obtain ⟨l8, rfl, g8, q8⟩ := tK decEn h8
 exact ⟨⟨n0, ⟨n1, l2, l3, l4, n5, n6⟩, n7, l8⟩, rfl, ⟨g2, g3, g4⟩, by show l8.length ≤ _; omega, q8⟩
theorem decPo (ds : List D) (h : bC yg ds) : ∃ p : Po, ds = p.row ∧ p.fits := by
 simp only [yg, bC] at h
 obtain ⟨_, _, rfl, ha, _, _, rfl, hb, _, _, rfl, h0, _, _, rfl, h1, _, _, rfl, h2, _, _, rfl, h3, _, _, rfl, h4, _, _, rfl, h5, _, _, rfl, h6, _, _, rfl, h7, _, _, rfl, h8, _, _, rfl, h9, _, _, rfl, h10, _, _, rfl, h11, _, _, rfl, h12, _, _, rfl, h13, rfl⟩ := h
 obtain ⟨na, rfl⟩ := i9 ha
 obtain ⟨nb, rfl⟩ := i9 hb
 obtain ⟨n0, rfl⟩ := i9 h0
 obtain ⟨n1, rfl⟩ := i9 h1
 obtain ⟨n2, rfl⟩ := i9 h2
 obtain ⟨n3, rfl⟩ := i9 h3
 obtain ⟨l4, rfl, g4⟩ := sB (by decide) h4
 obtain ⟨l5, rfl, g5⟩ := xd (by decide) h5
 obtain ⟨n6, rfl⟩ := i9 h6
 obtain ⟨l7, rfl, g7⟩ := xd (by decide) h7
 obtain ⟨l8, rfl, g8⟩ := Co h8
 obtain ⟨l9, rfl, g9⟩ := sB (by decide) h9
 obtain ⟨l10, rfl, g10⟩ := xd (by decide) h10
 obtain ⟨n11, rfl⟩ := i9 h11
 obtain ⟨n12, rfl⟩ := i9 h12
 obtain ⟨n13, rfl⟩ := i9 h13
 exact ⟨⟨na, nb, ⟨n0, n1, n2, n3, l4, l5, n6, l7, l8⟩, l9, l10, n11, n12, n13⟩, rfl, ⟨g4, g5, g7, g8⟩, g9, g10⟩
theorem decDn (ds : List D) (h : bC ye ds) : ∃ d : Dn, ds = d.row ∧ True := by
 simp only [ye, bC] at h
 obtain ⟨_, _, rfl, h0, _, _, rfl, h1, _, _, rfl, h2, rfl⟩ := h
 obtain ⟨n0, rfl⟩ := i9 h0
 obtain ⟨n1, rfl⟩ := i9 h1
 obtain ⟨n2, rfl⟩ := i9 h2
 exact ⟨⟨n0, n1, n2⟩, rfl, trivial⟩
theorem decSt (ds : List D) (h : bC yh ds) : ∃ s : iQ, ds = s.cells ∧ s.fits := by
 simp only [yh, bC] at h
 obtain ⟨_, _, rfl, h0, _, _, rfl, h1, _, _, rfl, h2, _, _, rfl, h3, rfl⟩ := h
 obtain ⟨n0, rfl⟩ := i9 h0
 obtain ⟨us, rfl, g1, q1⟩ := tK decUs h1
 obtain ⟨ps, rfl, g2, q2⟩ := tK decPo h2
 obtain ⟨dn, rfl, g3, _⟩ := tK decDn h3
 exact ⟨⟨n0, us, ps, dn⟩, rfl, by show us.length ≤ _; omega, by show ps.length ≤ _; omega, by show dn.length ≤ _; omega, q1, q2⟩
end Go.Proofs.YtapennlmboabeaaGreat

namespace Go.Proofs.YtapennlmboabeaaGreat
open Go Go.Vi
theorem lg : type_of% (an @ab (an @ac (an @ae (an @ah (an @aj (an @ak @ai)))))) := (an @ab (an @ac (an @ae (an @ah (an @aj (an @ak @ai))))))
theorem zd (a : Int) : aA Tryz.prog 108 [.int .u32 a] (.bool false) := by
 refine bl Tryz.func108 low108 (by simp [c108]) ?_
 simp only [c108]
 have h : (a != a) = false := by simp
 exact dz [] [] (an lg h)
def uO (a b : Int) : Int := if a < b then -1 else if b < a then 1 else 0
theorem AL (a b : Int) : aA Tryz.prog 63 [.int .u32 a, .int .u32 b] (.int .i64 (uO a b)) := by
 refine bl Tryz.func63 low63 (by simp [c63]) ?_
 simp only [c63]
 unfold uO
 have uc1 := @zd
 exact dz [] [] lg
theorem oy {a b : Int} : uO a b < 0 ↔ a < b := by unfold uO; (repeat' split) <;> omega
theorem so {a b : Int} : uO a b = 0 ↔ a = b := by unfold uO; (repeat' split) <;> omega
def fQ {α : Type} (f : α → Int) : List α → Int → Nat
 | [], _ => 0
 | x :: l, id => if f x < id then fQ f l id + 1 else 0
theorem oE {α : Type} (f : α → Int) : ∀ (l : List α) (id : Int), fQ f l id ≤ l.length
 | [], _ => Nat.le_refl _
 | x :: l, id => by
  have := oE f l id
  unfold fQ; split <;> simp <;> omega
theorem m9 {α : Type} (f : α → Int) : ∀ (l : List α) (id : Int), (l.Pairwise fun a b => f a < f b) → ∀ (h : Nat) (e : α), l[h]? = some e → (f e < id ↔ h < fQ f l id)
 | [], _, _, h, e, he => by simp at he
 | x :: l, id, hs, h, e, he => by
  obtain ⟨h1, h2⟩ := List.pairwise_cons.1 hs
  unfold fQ
  split
  ·rename_i hx
   cases h with
   | zero => simp at he; subst he; simp [hx]
   | succ h => rw [m9 f l id h2 h e (by simpa using he)]; omega
  ·rename_i hx
   cases h with
   | zero => simp at he; subst he; simp; omega
   | succ h =>
    have := h1 e (List.mem_of_getElem? (by simpa using he))
    simp; omega
def fD {α : Type} (f : α → Int) (l : List α) (k : Nat) (id : Int) : Bool := match l[k]? with | some d => f d == id | none => false
theorem qC (d : Us) (id : Int) : aA Tryz.prog 62 [.agg d.row, .int .u32 id] (.int .i64 (uO d.id id)) := by
 refine bl Tryz.func62 low62 (by simp [c62]) ?_
 simp only [c62, Us.row]
 have uc1 := @AL
 exact dz [] [] lg
theorem Bu (l : List Us) (id : Int) (k : Nat) (hl : l.length ≤ 140737488351232) (hk : k ≤ l.length) (hs : ∀ (h : Nat) (d : Us), l[h]? = some d → (d.id < id ↔ h < k)) :
  aA Tryz.prog 61 [L (dA l), .int .u32 id, .fn 62 []] (.tup [.int .i64 k, .bool (fD Us.id l k id)]) := by
 refine bl Tryz.func61 low61 (by simp [c61]) ?_
 simp only [c61]
 refine wk [] [] lg ?_
 refine av (ι := {p : Nat × Nat // p.1 ≤ k ∧ k ≤ p.2 ∧ p.2 ≤ l.length}) (fun p => ([(0, L (dA l)), (1, .int .u32 id), (2, .fn 62 []), (8, .int .i64 l.length), (9, .int .i64 p.1.1), (10, .int .i64 p.1.2)], [])) (fun p => p.1.2 - p.1.1) ⟨(0, l.length), by simp, hk, by simp⟩ ?_ ?_
 ·exact fx [] lg
 rintro ⟨⟨i, j⟩, h1, h2, h3⟩ hk'
 dsimp only at h1 h2 h3 hk' ⊢
 by_cases hij : i < j
 ·have c1 : ((i : Int) < (j : Int)) = True := by simp; omega
  obtain ⟨h, hh⟩ : ∃ h : Nat, h = (i + j) / 2 := ⟨_, rfl⟩
  have e2 : ((i : Int) + (j : Int)) / 2 = (h : Int) := by omega
  obtain ⟨d, hd⟩ : ∃ d, l[h]? = some d := ⟨_, List.getElem?_eq_getElem (by omega)⟩
  have hsd := hs h d hd
  have hd' := fY hd
  have pl := qC d id
  simp only [Us.row] at pl
  by_cases hlt : h < k
  ·have c2 : (uO d.id id < 0) = True := by simp; exact oy.2 (hsd.2 hlt)
   refine wk [] [] (an lg (an c1 (an e2 (an hd' (an c2 @Us.row.eq_1))))) ?_
   refine hk' ⟨(h + 1, j), by omega, by omega, by omega⟩ _ _ (by dsimp only; omega) ?_
   dsimp only
   exact fx [] lg
  ·have c2 : (uO d.id id < 0) = False := by simp; have := mt hsd.1 hlt; have := mt oy.1 this; omega
   refine wk [] [] (an lg (an c1 (an e2 (an hd' (an c2 @Us.row.eq_1))))) ?_
   refine hk' ⟨(i, h), by omega, by omega, by omega⟩ _ _ (by dsimp only; omega) ?_
   dsimp only
   exact fx [] lg
 ·have c1 : ((i : Int) < (j : Int)) = False := by simp; omega
  obtain rfl : i = k := by omega
  by_cases hkl : i < l.length
  ·have c2 : ((i : Int) < (l.length : Int)) = True := by simp; omega
   obtain ⟨d, hd⟩ : ∃ d, l[i]? = some d := ⟨_, List.getElem?_eq_getElem (by omega)⟩
   have hd' := fY hd
   have pl := qC d id
   simp only [Us.row] at pl
   have e : fD Us.id l i id = (uO d.id id == 0) := by
    unfold fD; rw [hd, Bool.eq_iff_iff]; simp [so]
   rw [e]
   exact dz [] [] (an lg (an c1 (an c2 (an hd' @Us.row.eq_1))))
  ·have c2 : ((i : Int) < (l.length : Int)) = False := by simp; omega
   have e : fD Us.id l i id = false := by unfold fD; rw [List.getElem?_eq_none (by omega)]
   rw [e]
   exact dz [] [] (an lg (an c1 c2))
theorem jd (t : Int) (us : List Us) (ps : List Po) (ds : List Dn) (id : Int) (hl : us.length ≤ 140737488351232) (hs : us.Pairwise fun a b => a.id < b.id) :
  aA Tryz.prog 31 [St t us ps ds, .int .u32 id] (.tup [.int .i64 (fQ Us.id us id), .bool (fD Us.id us (fQ Us.id us id) id)]) := by
 refine bl Tryz.func31 low31 (by simp [c31]) ?_
 simp only [c31, St]
 repeat' ((first | refine dV ?_ | refine cY ?_ | refine ci ?_ | refine dS ?_ | refine cW rfl ?_ | refine fP ?_ | refine dT ?_ | refine cj ?_ | refine dU mixed ?_ | refine cX mixed ?_ | with_reducible refine bp ?_ | with_reducible refine bn ?_ | with_reducible refine bo ?_ | with_reducible refine da ?_ | with_reducible refine ck ?_ | refine az (Bu us id _ hl (oE Us.id us id) (m9 Us.id us id hs)) ?_ ?_ | simp (disch := omega) only [kL, il, iM, iL, lD, Int.tdiv_eq_ediv_of_nonneg, Int.tmod_eq_emod_of_nonneg] | (with_reducible refine bq rfl rfl ?_ ?_; (focus ((try simp only [ab, ac, ae, ah, aj, ak, ai, reduceIte, Int.natCast_nonneg, Int.le_refl, List.length_append, List.length_map, Nat.sub_zero]) <;> ((repeat' (with_reducible refine And.intro ?_ ?_)) <;> first | exact trivial | assumption | (simp; done) | (simp only [List.length_map] at *; omega) | omega | (simp [D.cells, D.ok, D.one, D.pt, D.pt1]; done))))) | (refine ax (fun hc => ?_) (fun hc => ?_) <;> (try simp only [hc]) <;> (try simp at hc)) | (refine aN (fun hc => ?_) (fun hc => ?_) <;> (try simp only [hc]) <;> (try simp at hc)) | (with_reducible refine And.intro ?_ ?_; (focus ((repeat' (with_reducible refine And.intro ?_ ?_)) <;> first | exact trivial | assumption | (simp; done) | (simp only [List.length_map] at *; omega) | omega | (simp [D.cells, D.ok, D.one, D.pt, D.pt1]; done)))) | (with_reducible intro x hx) | omega) <;> (try simp only [ab, ac, ae, ah, aj, ak, ai, ft, eT, eQ, eP, eN, eS, eO, eI, eH, eF, eK, eM, eG, eL, eJ, eU, eV, fq, dN, dO, cL, dQ, dF, dE, fe, eY, gr, gw, dK, dP, eX, cO, fg, fh, ff, fk, gu, gt, cR, aX, aG, cf, dM, bL, bM, aW, aB, bN, eZ, cK, cS, aY, aH, aI, cQ, aF, aU, aw, aV, eW, dJ, bg, bZ, bY, bh, bf, bX, bW, aJ, bE, cy, cw, cx, cv, fc, cz, im, fu, cB, bO, dL, bF, aT, cM, aS, aE, aR, fm, cA, aM, aq, ao, am, dH, cD, cE, dI, cF, dG, bS, fv, dR, bU, bc, bT, ba, bV, be, D.names, D.namesL, aO, dg, aK, df, dh, aL, ay, cP, bK, bI, bG, bJ, bH, dD, dC, aZ, dj, di, cg, Nat.reduceBEq, cH, cG, iF, iE, dq, reduceIte, Nat.reduceEqDiff, Nat.reduceAdd, Nat.reduceSub, Nat.reduceMul, Nat.reduceLT, Nat.reduceLeDiff, reduceCtorEq, ia, em, eo, jA, dY, cT, kM, gf, kR, io, ky, gh, ip, gg, gi, iy, eu, ir, iu, iq, iv, kQ, kP, ee, dp, gb, fE, fN, splice, D.cells, D.ok, D.one, D.pt, D.pt1, D.pt0, D.norm1, D.norm, cond_true, cond_false, true_and, and_true, and_self, Bool.true_and, Bool.and_true, Bool.false_and, Bool.and_false, Bool.not_true, Bool.not_false, Bool.true_or, Bool.false_or, Bool.or_true, Bool.or_false, List.getElem?_cons_zero, List.getElem?_cons_succ, List.getElem?_nil, List.length_cons, List.length_nil, List.length_map, List.length_append, List.length_set, List.length_take, List.length_drop, List.length_replicate, List.take_succ_cons, List.take_zero, List.take_nil, List.drop_succ_cons, List.drop_zero, List.drop_nil, List.cons_append, List.nil_append, List.append_nil, List.map_cons, List.map_nil, List.all_cons, List.all_nil, List.set_cons_zero, List.set_cons_succ, List.isEmpty_cons, List.isEmpty_nil, List.forall_mem_cons, List.not_mem_nil, List.forall_mem_nil, false_imp_iff, implies_true, ne_eq, not_false_eq_true, Option.map_some, Option.map_none, Nat.zero_add, Nat.add_zero, Nat.sub_self, Int.toNat_natCast, Int.reduceToNat, Int.reduceLT, Int.reduceLE, Int.reduceEq, Int.reduceBEq, beq_self_eq_true, Int.reduceNeg, decide_true, decide_false, IntKind.bits, Nat.min_eq_left, Int.reducePow, Nat.reducePow, Int.fdiv_eq_ediv_of_nonneg, Nat.lt_irrefl, Int.le_refl, Nat.le_refl, Int.natCast_nonneg, Nat.lt_add_one, Nat.zero_lt_succ, fJ, dX, dW, du, cV, aQ, D.sc, D.sc1, D.sc2, dZ, ek, cr, dm, cm, bk, cn, aD, aC, gA, ct, c0, Go.Vi.freeze, Go.Vi.bu, bv, bv.captL, au, dk, gC, List.flatten_cons, List.flatten_nil, dv, fM, dl, fr, D.ren, D.renL, List.getD_cons_zero, List.getD_cons_succ, List.nodup_cons, List.nodup_nil, List.mem_cons, or_false, false_or, cI, cJ, cd, cC, bQ, bR, bP, eA, List.reverse_nil, Option.some.injEq, D.bool.injEq, D.int.injEq, D.str.injEq, D.agg.injEq, D.tup.injEq, D.list.injEq, D.ptr.injEq, D.own.injEq, List.cons.injEq, dB]))
end Go.Proofs.YtapennlmboabeaaGreat

namespace Go.Proofs.YtapennlmboabeaaGreat
open Go Go.Vi
def zU : Us := ⟨0, ⟨0, [], [], [], 0, 0⟩, 0, []⟩
def fB (us : List Us) (id : Int) : Option Us := us.find? fun u => u.id == id
theorem jQ {α : Type} (f : α → Int) : ∀ (l : List α) (id : Int), (l.Pairwise fun a b => f a < f b) → (l.find? fun u => f u == id) = if fD f l (fQ f l id) id = true then l[fQ f l id]? else none
 | [], id, _ => by simp [fD, fQ]
 | x :: l, id, hs => by
  obtain ⟨h1, h2⟩ := List.pairwise_cons.1 hs
  have ih := jQ f l id h2
  unfold fQ
  split
  ·rename_i hx
   have hne : (f x == id) = false := by simp; omega
   have e : fD f (x :: l) (fQ f l id + 1) id = fD f l (fQ f l id) id := by simp [fD]
   rw [List.find?_cons, hne, e, ih]
   simp
  ·rename_i hx
   have e : fD f (x :: l) 0 id = (f x == id) := by simp [fD]
   rw [e, List.find?_cons]
   by_cases h : f x = id
   ·have : (f x == id) = true := by simpa using h
    simp [this]
   ·have : (f x == id) = false := by simpa using h
    rw [this]
    simp only [Bool.false_eq_true, if_false]
    rw [List.find?_eq_none]
    intro y hy
    have := h1 y hy
    simp; omega
def kD (us : List Us) (id : Int) : D := .tup [.agg ((fB us id).getD zU).row, .bool (fB us id).isSome]
--HAS book.Find
theorem nQ : type_of% (an @ab (an @ac (an @ae (an @ah (an @aj (an @ak @ai)))))) := (an @ab (an @ac (an @ae (an @ah (an @aj (an @ak @ai))))))
theorem tF (t : Int) (us : List Us) (ps : List Po) (ds : List Dn) (id : Int) (hl : us.length ≤ 140737488351232) (hs : us.Pairwise fun a b => a.id < b.id) : aA Tryz.prog 16 [St t us ps ds, .int .u32 id] (kD us id) := by
 refine bl Tryz.func16 low16 (by simp [c16]) ?_
 have pl := jd t us ps ds id hl hs
 simp only [c16, St] at pl ⊢
 have hf := jQ Us.id us id hs
 unfold kD fB
 rw [hf]
 by_cases hat : fD Us.id us (fQ Us.id us id) id = true
 ·obtain ⟨u, hu⟩ : ∃ u, us[fQ Us.id us id]? = some u := by
   unfold fD at hat
   split at hat
   ·exact ⟨_, by assumption⟩
   ·cases hat
  rw [hat] at pl
  rw [if_pos hat, hu]
  have hr := fY hu
  have hlt := (List.getElem?_eq_some_iff.1 hu).1
  simp only [Option.getD_some, Option.isSome_some, Us.row]
  exact dz [] [] (an nQ (an hr @Us.row.eq_1))
 ·have hat' : fD Us.id us (fQ Us.id us id) id = false := by simpa using hat
  rw [hat'] at pl
  rw [if_neg hat]
  simp only [Option.getD_none, Option.isSome_none, zU, Us.row, ar, bz, ed, bA, List.map_nil]
  exact dz [] [] nQ
--END
set_option maxHeartbeats 1000000 in
theorem nt (t : Int) (us : List Us) (ps : List Po) (ds : List Dn) (id : Int) (hl : us.length ≤ 140737488351232) : aA Tryz.prog 17 [St t us ps ds, .int .u32 id] (kD us id) := by
 refine bl Tryz.func17 low17 (by simp [c17]) ?_
 simp only [c17, St]
 refine wk [] [] nQ ?_
 refine av (ι := {i : Nat // i ≤ us.length ∧ fB us id = fB (us.drop i) id}) (fun i => ([(1, .int .u32 id), (2, .ptr 0 0 0 1), (4, .ptr 1 0 0 1), (9, .int .i64 us.length), (10, .int .i64 i.1)], [⟨true, false, true, false, 4, [[.int .i64 t, L (dA us), L (fF ps), L (hH ds)]], some 0⟩, ⟨true, false, true, false, 9, [[.int .u32 0, .int .i64 0, .list (some true) true [], .list (some true) true [], .list (some true) true [], .int .i64 0, .int .i64 0, .int .u64 0, .list (some true) true []]], some 0⟩])) (fun i => us.length - i.1) ⟨0, by simp, by simp⟩ ?_ ?_
 ·exact fx [0, 1] nQ
 rintro ⟨i, hi, hf⟩ hk
 dsimp only at hk ⊢
 by_cases hlt : i < us.length
 ·have c1 : ((i : Int) < (us.length : Int)) = True := by simp; omega
  obtain ⟨d, hd⟩ : ∃ d, us[i]? = some d := ⟨_, List.getElem?_eq_getElem hlt⟩
  have hr := fY hd
  have hdr : us.drop i = d :: us.drop (i + 1) := by
   rw [List.getElem?_eq_getElem hlt] at hd; cases hd; exact List.drop_eq_getElem_cons hlt
  by_cases hc : d.id = id
  ·have c2 : (d.id == id) = true := by simpa using hc
   have e : fB us id = some d := by rw [hf, hdr]; simp [fB, c2]
   unfold kD
   rw [e]
   simp only [Option.getD_some, Option.isSome_some, Us.row]
   exact dz [] [] (an nQ (an c1 (an hr (an c2 @Us.row.eq_1))))
  ·have c2 : (d.id == id) = false := by simpa using hc
   refine wk [] [] (an nQ (an c1 (an hr (an c2 @Us.row.eq_1)))) ?_
   refine hk ⟨i + 1, by omega, ?_⟩ _ _ (by dsimp only; omega) ?_
   ·rw [hf, hdr]; simp [fB, c2]
   dsimp only
   exact fx [0, 1] nQ
 ·have c1 : ((i : Int) < (us.length : Int)) = False := by simp; omega
  have e : fB us id = none := by rw [hf, List.drop_eq_nil_of_le (by omega)]; rfl
  unfold kD
  rw [e]
  simp only [Option.getD_none, Option.isSome_none, zU, Us.row, ar, bz, ed, bA, List.map_nil]
  exact dz [] [] (an nQ c1)
end Go.Proofs.YtapennlmboabeaaGreat

namespace Go.Proofs.YtapennlmboabeaaGreat
open Go Go.Vi
theorem wM {sz : Nat} {pu : Bool} {rows : List (List D)} (h : rows.isEmpty = false) : bw false sz pu rows = bw true sz pu rows := by simp [bw, h]
theorem rd {b pu : Bool} {sz : Nat} {rows : List (List D)} (h : rows.isEmpty = false) : bw b sz pu rows = ⟨true, false, pu, false, sz, rows, none⟩ := by simp [bw, h]
theorem y9 {α : Type} {A B : List α} {z r : α} {k n : Nat} (hA : A.length = k) (hk : k < n) :
  List.take (k + 1) (List.take k (A ++ List.replicate (n + 1 - k) z) ++ List.take (n + 1 - k) [r] ++ List.drop (k + 1) (A ++ List.replicate (n + 1 - k) z)) ++ B ++
   List.drop (k + 1 + (n - k)) (List.take k (A ++ List.replicate (n + 1 - k) z) ++ List.take (n + 1 - k) [r] ++ List.drop (k + 1) (A ++ List.replicate (n + 1 - k) z)) = A ++ r :: B := by
 have h1 : List.take k (A ++ List.replicate (n + 1 - k) z) = A := List.take_left' hA
 have h2 : List.take (n + 1 - k) [r] = [r] := List.take_of_length_le (by simp; omega)
 rw [h1, h2, List.take_left' (by simp [hA]), List.drop_eq_nil_of_le (by simp; omega)]
 simp
theorem za {α : Type} {L U : List α} {r : α} {k n : Nat} (hL : L.length = n) (hU : U.length = 1) (hk : k < n) :
  List.take k (List.take (k + 1) (L ++ U) ++ List.drop k L ++ List.drop (k + 1 + (n - k)) (L ++ U)) ++ List.take (n + 1 - k) [r] ++
   List.drop (k + min 1 (n + 1 - k)) (List.take (k + 1) (L ++ U) ++ List.drop k L ++ List.drop (k + 1 + (n - k)) (L ++ U)) = List.take k L ++ r :: List.drop k L := by
 have h1 : List.drop (k + 1 + (n - k)) (L ++ U) = [] := List.drop_eq_nil_of_le (by simp; omega)
 have h2 : List.take (n + 1 - k) [r] = [r] := List.take_of_length_le (by simp; omega)
 have h3 : k + min 1 (n + 1 - k) = k + 1 := by omega
 have h4 : (List.take (k + 1) (L ++ U)).length = k + 1 := by simp; omega
 rw [h1, h2, h3, List.append_nil, List.drop_left' h4, List.take_append_of_le_length (by omega), List.take_take, Nat.min_eq_left (by omega), List.take_append_of_le_length (by omega)]
 simp
theorem u9 {α : Type} {l : List α} {k : Nat} {d : α} : (l.take k ++ d :: l.drop k).isEmpty = false := by simp
theorem Bw (tg : Bool) (l : List (List D)) (hne : l ≠ []) (hsz : ∀ r ∈ l, r.length = 9) (hl : l.length ≤ 400000000000) : aa Tryz.prog 40 [.list none tg l] [] (.own 0 0 l.length l.length 9 none) [bw true 9 true l] := by
 refine aP Tryz.func40 low40 (by simp [c40]) ?_
 simp only [c40]
 refine oS 0 rfl fun b hb => ?_
 obtain rfl : b = false := by
  cases b with
  | false => rfl
  | true => exact absurd (hb rfl) hne
 refine wk [] [] trivial ?_
 rw [wM (by simpa using hne)]
 exact fH [0] trivial
theorem yQ (tg : Bool) : aa Tryz.prog 40 [.list (some true) tg []] [] (.list (some true) true []) [] := by
 refine aP Tryz.func40 low40 (by simp [c40]) ?_
 simp only [c40]
 refine wk [] [] trivial ?_
 exact fH [] trivial
theorem yP (tg : Bool) : aa Tryz.prog 40 [.list (some false) tg []] [] (.own 0 0 0 0 9 none) [bw false 9 true []] := by
 refine aP Tryz.func40 low40 (by simp [c40]) ?_
 simp only [c40]
 refine wk [] [] trivial ?_
 exact fH [0] trivial
theorem y7 (d : List D) (hd : d.length = 9) (tg : Bool) (nl : Option Bool) : aa Tryz.prog 64 [.own 0 0 0 0 9 none, .int .i64 0, .list nl tg [d]] [bw false 9 true []]
  (.own 0 0 1 1 9 none) [bw true 9 true [d]] := by
 refine aP Tryz.func64 low64 (by simp [c64]) ?_
 simp only [c64]
 refine wk [] [] (an hd @forall_eq.{1}) ?_
 exact fH [0] trivial
theorem y8 (b : Bool) (d : List D) (hd : d.length = 9) (tg : Bool) (nl : Option Bool) : aa Tryz.prog 64 [.list (some b) true [], .int .i64 0, .list nl tg [d]] []
  (.own 0 0 1 1 9 none) [bw true 9 true [d]] := by
 refine aP Tryz.func64 low64 (by simp [c64]) ?_
 simp only [c64]
 refine wk [] [] (an hd @forall_eq.{1}) ?_
 exact fH [0] trivial
end Go.Proofs.YtapennlmboabeaaGreat

namespace Go.Proofs.YtapennlmboabeaaGreat
open Go Go.Vi
theorem sF {α : Type} {xs ys : List α} {x y : α} {i : Nat} (h : i ≠ xs.length) : (xs ++ x :: ys)[i]? = (xs ++ y :: ys)[i]? := by
 by_cases hi : i < xs.length
 ·rw [List.getElem?_append_left hi, List.getElem?_append_left hi]
 ·rw [List.getElem?_append_right (by omega), List.getElem?_append_right (by omega)]
  obtain ⟨j, hj⟩ : ∃ j, i - xs.length = j + 1 := ⟨i - xs.length - 1, by omega⟩
  rw [hj]; simp
theorem tC {P : Program} {f : FuncId} {pre post xs ys : List D} {tg : Bool} {rows : List (List D)} {r : D}
  (h : ∀ b, (b = true → rows = []) → aA P f (pre ++ .agg (xs ++ .list (some b) tg rows :: ys) :: post) r) : aA P f (pre ++ .agg (xs ++ .list none tg rows :: ys) :: post) r := by
 refine ⟨(h false (by simp)).enters, fun G w vs hG hl hr => ?_⟩
 have hlv : pre.length < vs.length := by rw [← hl]; simp
 have h1 := hr pre.length (.agg (xs ++ .list none tg rows :: ys)) vs[pre.length] (by simp) (List.getElem?_eq_getElem hlv)
 have key : ∃ b, (b = true → rows = []) ∧ eB G w (.agg (xs ++ .list (some b) tg rows :: ys)) vs[pre.length] := by
  generalize vs[pre.length] = v at h1
  cases h1 with
  | agg _ us hlen hrep =>
   have hlu : xs.length < us.length := by rw [← hlen]; simp
   have h2 := hrep xs.length (.list none tg rows) us[xs.length] (by simp) (List.getElem?_eq_getElem hlu)
   have h3 : ∃ b, (b = true → rows = []) ∧ eB G w (.list (some b) tg rows) us[xs.length] := by
    generalize us[xs.length] = u at h2
    cases h2 with
    | list nl tg rows A cap sz vf h1 h2 h3 h4 h5 h9 h6 h7 h8 =>
     refine ⟨A.isNone, fun hA => ?_, .list (some A.isNone) tg rows A cap sz vf (by simp) h2 h3 h4 h5 h9 h6 h7 h8⟩
     have : A = none := by simpa using hA
     exact List.eq_nil_of_length_eq_zero (by have := h2 this; omega)
   obtain ⟨b, hb, h3⟩ := h3
   refine ⟨b, hb, .agg _ us (by simpa using hlen) fun i d v hd hv => ?_⟩
   by_cases hi : i = xs.length
   ·subst hi
    simp only [List.getElem?_append_right (Nat.le_refl _), Nat.sub_self, List.getElem?_cons_zero, Option.some.injEq] at hd
    subst hd
    rw [List.getElem?_eq_getElem hlu] at hv
    cases hv
    exact h3
   ·exact hrep i d v (by rw [← hd]; exact sF hi) hv
 obtain ⟨b, hb, key⟩ := key
 refine (h b hb).calls G w vs hG (by simpa using hl) fun i d v hd hv => ?_
 by_cases hi : i = pre.length
 ·subst hi
  simp only [List.getElem?_append_right (Nat.le_refl _), Nat.sub_self, List.getElem?_cons_zero, Option.some.injEq] at hd
  subst hd
  rw [List.getElem?_eq_getElem hlv] at hv
  cases hv
  exact key
 ·exact hr i d v (by rw [← hd]; exact sF hi) hv
theorem AQ : type_of% (an @ab (an @ac (an @ae (an @ah (an @aj (an @ak @ai)))))) := (an @ab (an @ac (an @ae (an @ah (an @aj (an @ak @ai))))))
theorem Au (b : Bool) (t : Int) (u : Us) (ps : List Po) (ds : List Dn) : aA Tryz.prog 32 [.agg [.int .i64 t, .list (some b) false [], L (fF ps), L (hH ds)], .int .i64 0, .bool false, .agg u.row] (St t [u] ps ds) := by
 refine bl Tryz.func32 low32 (by simp [c32]) ?_
 simp only [c32, St]
 have hrow : dA [u] = [u.row] := rfl
 rw [hrow]
 cases b
 ·have ins := y7 u.row rfl true (some false)
  simp only [Us.row] at ins ⊢
  have uc1 := @yP
  exact dz [40, 64] [] AQ
 ·have ins := y8 true u.row rfl true (some false)
  simp only [Us.row] at ins ⊢
  have uc1 := @yQ
  exact dz [40, 64] [] AQ
theorem CU (t : Int) (u : Us) (ps : List Po) (ds : List Dn) : aA Tryz.prog 32 [.agg [.int .i64 t, L [], L (fF ps), L (hH ds)], .int .i64 0, .bool false, .agg u.row] (St t [u] ps ds) :=
 tC (pre := []) (xs := [.int .i64 t]) (ys := [L (fF ps), L (hH ds)]) (post := [.int .i64 0, .bool false, .agg u.row]) fun b _ => Au b t u ps ds
end Go.Proofs.YtapennlmboabeaaGreat

namespace Go.Proofs.YtapennlmboabeaaGreat
open Go Go.Vi
theorem pF {l : List Us} {x : Us} : dA l ++ [[D.int IntKind.u32 x.id, D.int IntKind.i64 x.se.base, L (bz .i64 .i64 x.se.turns), L (ed x.se.shifts), L (ar .i64 x.se.off), .int .i64 x.se.before, .int .i64 x.se.after, .int .u64 x.ver, L (bA x.evs)]] = dA (l ++ [x]) := by simp [dA, Us.row]
theorem nH : dA [] = [] := rfl
def iD (u : Us) (s : List Us × Bool) (x : Us) : List Us × Bool :=
 let a := if s.2 = false ∧ u.id ≤ x.id then (s.1 ++ [u], true) else s
 if x.id = u.id then a else (a.1 ++ [x], a.2)
def i4 (u : Us) (l : List Us) : List Us × Bool := l.foldl (iD u) ([], false)
def vk (us : List Us) (u : Us) : List Us := if (i4 u us).2 then (i4 u us).1 else (i4 u us).1 ++ [u]
theorem uE (u : Us) (l : List Us) (x : Us) : i4 u (l ++ [x]) = iD u (i4 u l) x := by simp [i4]
theorem wz (u : Us) (s : List Us × Bool) (x : Us) : (iD u s x).1.length ≤ s.1.length + 2 := by
 unfold iD
 dsimp only
 (repeat' split) <;> simp
theorem wy (u : Us) : ∀ l : List Us, (i4 u l).1.length ≤ 2 * l.length := by
 have : ∀ (l : List Us) (s : List Us × Bool), (l.foldl (iD u) s).1.length ≤ s.1.length + 2 * l.length := by
  intro l
  induction l with
  | nil => intro s; simp
  | cons x l ih => intro s; have h1 := ih (iD u s x); have h2 := wz u s x; simp only [List.foldl_cons, List.length_cons]; omega
 intro l
 have := this l ([], false)
 simpa [i4] using this
theorem j3 : type_of% (an @ab (an @ac (an @ae (an @ah (an @aj (an @ak (an @ai (an @pF @nH)))))))) := (an @ab (an @ac (an @ae (an @ah (an @aj (an @ak (an @ai (an @pF @nH))))))))
set_option maxHeartbeats 1000000 in
theorem qM (t : Int) (us : List Us) (ps : List Po) (ds : List Dn) (u : Us) (hl : us.length ≤ 1000000000) : aA Tryz.prog 33 [St t us ps ds, .agg u.row] (St t (vk us u) ps ds) := by
 refine bl Tryz.func33 low33 (by simp [c33]) ?_
 simp only [c33, St, Us.row]
 refine wk [] [] j3 ?_
 refine gn (qV (t := 5) (b := false) 9 true (by decide) rfl) ?_
 refine av (ι := {i : Nat // i ≤ us.length}) (fun i => ([(2, .ptr 0 0 0 1), (3, .ptr 1 0 0 1), (4, .ptr 2 0 0 1), (5, .own 3 0 (i4 u (us.take i.1)).1.length (i4 u (us.take i.1)).1.length 9 none), (6, .bool (i4 u (us.take i.1)).2), (11, .int .i64 us.length), (12, .int .i64 i.1)],
  [⟨true, false, true, false, 4, [[.int .i64 t, L (dA us), L (fF ps), L (hH ds)]], some 0⟩, ⟨true, false, true, false, 9, [u.row], some 0⟩, ⟨true, false, true, false, 4, [[.int .i64 0, .list (some true) true [], .list (some true) true [], .list (some true) true []]], some 0⟩, bw false 9 true (dA (i4 u (us.take i.1)).1)])) (fun i => us.length - i.1) ⟨0, by simp⟩ ?_ ?_
 ·simp only [List.take_zero, show i4 u [] = ([], false) from rfl, nH, List.length_nil, Us.row]
  exact fx [0, 1, 2, 3] j3
 rintro ⟨i, hi⟩ hk
 dsimp only at hk ⊢
 have hlen := wy u (us.take i)
 simp only [List.length_take] at hlen
 by_cases hlt : i < us.length
 ·have c1 : ((i : Int) < (us.length : Int)) = True := by simp; omega
  obtain ⟨x, hx⟩ : ∃ x, us[i]? = some x := ⟨_, List.getElem?_eq_getElem hlt⟩
  have hr := fY hx
  have ht : us.take (i + 1) = us.take i ++ [x] := by rw [List.take_add_one, hx]; rfl
  have hg := uE u (us.take i) x
  generalize i4 u (us.take i) = g at hg hlen
  obtain ⟨o, p⟩ := g
  dsimp only at hlen ⊢
  have q1 : (x.id == u.id) = decide (x.id = u.id) := by rw [Bool.eq_iff_iff]; simp
  cases p with
  | false =>
   by_cases hle : u.id ≤ x.id
   ·have c2 : (x.id ≥ u.id) = True := by simp; omega
    by_cases hxu : x.id = u.id
    ·have c3 : (x.id == u.id) = true := by simpa using hxu
     have e : iD u (o, false) x = (o ++ [u], true) := by
      simp [iD, *]
     refine wk [] [] (an j3 (an c1 (an hr (an @Us.row.eq_1 (an c2 c3))))) ?_
     refine hk ⟨i + 1, by omega⟩ _ _ (by dsimp only; omega) ?_
     dsimp only [Us.row]
     rw [ht, hg, e]
     simp only [List.length_append, List.length_cons, List.length_nil]
     exact fx [0, 1, 2, 3] j3
    ·have c3 : (x.id == u.id) = false := by simpa using hxu
     have e : iD u (o, false) x = (o ++ [u] ++ [x], true) := by
      simp [iD, *]
     refine wk [] [] (an j3 (an c1 (an hr (an @Us.row.eq_1 (an c2 c3))))) ?_
     refine hk ⟨i + 1, by omega⟩ _ _ (by dsimp only; omega) ?_
     dsimp only [Us.row]
     rw [ht, hg, e]
     simp only [List.length_append, List.length_cons, List.length_nil]
     exact fx [0, 1, 2, 3] j3
   ·have c2 : (x.id ≥ u.id) = False := by simp; omega
    have hxu : ¬ x.id = u.id := by omega
    have c3 : (x.id == u.id) = false := by simpa using hxu
    have e : iD u (o, false) x = (o ++ [x], false) := by
     simp [iD, *]
    refine wk [] [] (an j3 (an c1 (an hr (an @Us.row.eq_1 (an c2 c3))))) ?_
    refine hk ⟨i + 1, by omega⟩ _ _ (by dsimp only; omega) ?_
    dsimp only [Us.row]
    rw [ht, hg, e]
    simp only [List.length_append, List.length_cons, List.length_nil]
    exact fx [0, 1, 2, 3] j3
  | true =>
   by_cases hxu : x.id = u.id
   ·have c3 : (x.id == u.id) = true := by simpa using hxu
    have e : iD u (o, true) x = (o, true) := by
     simp [iD, *]
    refine wk [] [] (an j3 (an c1 (an hr (an @Us.row.eq_1 c3)))) ?_
    refine hk ⟨i + 1, by omega⟩ _ _ (by dsimp only; omega) ?_
    dsimp only [Us.row]
    rw [ht, hg, e]
    simp only [List.length_append, List.length_cons, List.length_nil]
    exact fx [0, 1, 2, 3] j3
   ·have c3 : (x.id == u.id) = false := by simpa using hxu
    have e : iD u (o, true) x = (o ++ [x], true) := by
     simp [iD, *]
    refine wk [] [] (an j3 (an c1 (an hr (an @Us.row.eq_1 c3)))) ?_
    refine hk ⟨i + 1, by omega⟩ _ _ (by dsimp only; omega) ?_
    dsimp only [Us.row]
    rw [ht, hg, e]
    simp only [List.length_append, List.length_cons, List.length_nil]
    exact fx [0, 1, 2, 3] j3
 ·have c1 : ((i : Int) < (us.length : Int)) = False := by simp; omega
  obtain rfl : i = us.length := by omega
  rw [List.take_length] at hlen ⊢
  have hR : vk us u = if (i4 u us).2 then (i4 u us).1 else (i4 u us).1 ++ [u] := rfl
  generalize i4 u us = g at hlen hR ⊢
  obtain ⟨o, p⟩ := g
  dsimp only at hlen hR ⊢
  rw [hR]
  cases p with
  | true =>
   simp only [if_true]
   exact dz [] [] (an j3 (an c1 @Us.row.eq_1))
  | false =>
   simp only [Bool.false_eq_true, if_false]
   exact dz [] [] (an j3 (an c1 @Us.row.eq_1))
end Go.Proofs.YtapennlmboabeaaGreat

namespace Go.Proofs.YtapennlmboabeaaGreat
open Go Go.Vi
def rep (u x : Us) : Us := if x.id = u.id then u else x
theorem xY (u x : Us) : (rep u x).id = x.id := by unfold rep; split <;> simp [*]
theorem kG (u : Us) : ∀ l : List Us, (∀ x ∈ l, x.id ≠ u.id) → l.map (rep u) = l
 | [], _ => rfl
 | x :: l, h => by
  rw [List.map_cons, kG u l fun y hy => h y (by simp [hy])]
  have := h x (by simp)
  simp [rep, this]
theorem ql (u : Us) : ∀ (l bw : List Us), (∀ x ∈ l, x.id ≠ u.id) → l.foldl (iD u) (bw, true) = (bw ++ l, true)
 | [], bw, _ => by simp
 | x :: l, bw, h => by
  have hx := h x (by simp)
  have e : iD u (bw, true) x = (bw ++ [x], true) := by simp [iD, hx]
  rw [List.foldl_cons, e, ql u l _ fun y hy => h y (by simp [hy])]
  simp
theorem o0 (u : Us) : ∀ (l bw : List Us), (l.Pairwise fun a b => a.id < b.id) → (∃ x ∈ l, x.id = u.id) → l.foldl (iD u) (bw, false) = (bw ++ l.map (rep u), true)
 | [], _, _, h => by simp at h
 | x :: l, bw, hs, h => by
  obtain ⟨h1, h2⟩ := List.pairwise_cons.1 hs
  by_cases hx : x.id = u.id
  ·have e : iD u (bw, false) x = (bw ++ [u], true) := by simp [iD, hx]
   have hn : ∀ y ∈ l, y.id ≠ u.id := fun y hy => by have := h1 y hy; omega
   rw [List.foldl_cons, e, ql u l _ hn, List.map_cons, kG u l hn]
   simp [rep, hx]
  ·obtain ⟨y, hy, hyu⟩ := h
   have hyl : y ∈ l := by
    rcases List.mem_cons.1 hy with rfl | h
    ·exact absurd hyu hx
    ·exact h
   have hlt := h1 y hyl
   have e : iD u (bw, false) x = (bw ++ [x], false) := by
    have : ¬ u.id ≤ x.id := by omega
    simp [iD, hx, this]
   rw [List.foldl_cons, e, o0 u l _ h2 ⟨y, hyl, hyu⟩]
   simp [rep, hx]
theorem qS {us : List Us} {u : Us} (hs : us.Pairwise fun a b => a.id < b.id) (h : ∃ x ∈ us, x.id = u.id) : vk us u = us.map (rep u) := by
 have : i4 u us = (us.map (rep u), true) := by
  have := o0 u us [] hs h
  simpa [i4] using this
 simp [vk, this]
theorem gq {us : List Us} {id : Int} {u : Us} (h : fB us id = some u) : u ∈ us ∧ u.id = id := by
 unfold fB at h
 have h1 := List.find?_some h
 exact ⟨List.mem_of_find?_eq_some h, by simpa using h1⟩
end Go.Proofs.YtapennlmboabeaaGreat

namespace Go.Proofs.YtapennlmboabeaaGreat
open Go Go.Vi
theorem vH {us : List Us} {k : Nat} {id : Int} (h : fD Us.id us k id = true) : ∃ u, us[k]? = some u ∧ u.id = id := by
 unfold fD at h
 split at h
 ·rename_i x hx
  exact ⟨x, hx, by simpa using h⟩
 ·cases h
theorem Ar (us : List Us) : ∀ r ∈ dA us, r.length = 9 := by simp [dA, Us.row]
end Go.Proofs.YtapennlmboabeaaGreat
