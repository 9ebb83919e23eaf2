import Derived.Test.YtefpjijokdplfaaZ11
set_option linter.unusedVariables false
set_option linter.unusedSimpArgs false
namespace Go.Proofs.Ytefpjijokdplfaa
open Go Go.Vi

def iot : Nat → Int → List Int
  | 0, _ => []
  | k + 1, u => u :: iot k (u + 1)

theorem mem_iot : ∀ {k : Nat} {u z : Int}, z ∈ iot k u ↔ u ≤ z ∧ z < u + k
  | 0, u, z => by simp only [iot, List.not_mem_nil, false_iff]; omega
  | k + 1, u, z => by
    simp only [iot, List.mem_cons, mem_iot]
    omega
theorem inc_iot : ∀ (k : Nat) (u : Int), (iot k u).Pairwise (· < ·)
  | 0, u => by simp [iot]
  | k + 1, u => by
    simp only [iot, List.pairwise_cons]
    exact ⟨fun z hz => by have := mem_iot.1 hz; omega, inc_iot k (u + 1)⟩

theorem inc_eq : ∀ {xs ys : List Int}, xs.Pairwise (· < ·) → ys.Pairwise (· < ·) → (∀ z, z ∈ xs ↔ z ∈ ys) → xs = ys
  | [], [], _, _, _ => rfl
  | [], y :: ys, _, _, h => by have := (h y).2 (by simp); simp at this
  | x :: xs, [], _, _, h => by have := (h x).1 (by simp); simp at this
  | x :: xs, y :: ys, h1, h2, h => by
    rw [List.pairwise_cons] at h1 h2
    have e : x = y := by
      have a := (h x).1 (by simp)
      have c := (h y).2 (by simp)
      rw [List.mem_cons] at a c
      rcases a with a | a
      · exact a
      · rcases c with c | c
        · exact c.symm
        · have := h1.1 y c
          have := h2.1 x a
          omega
    subst e
    congr 1
    refine inc_eq h1.2 h2.2 fun z => ⟨fun hz => ?_, fun hz => ?_⟩
    · have := (h z).1 (by simp [hz])
      have := h1.1 z hz
      rcases List.mem_cons.1 (by assumption : z ∈ x :: ys) with a | a
      · omega
      · exact a
    · have := (h z).2 (by simp [hz])
      have := h2.1 z hz
      rcases List.mem_cons.1 (by assumption : z ∈ x :: xs) with a | a
      · omega
      · exact a

/-- The first of a row, and how many. -/
def fst (s : Int × Nat) (F : List Int) : Int × Nat := (if s.2 = 0 then F.head?.getD s.1 else s.1, s.2 + F.length)

theorem sc_eq (f : Int → Bool) : ∀ (k : Nat) (u : Int) (s : Int × Nat), sc f k u s = fst s ((iot k u).filter f)
  | 0, u, s => by simp [sc, iot, fst]
  | k + 1, u, (a, m) => by
    simp only [sc, iot, List.filter_cons]
    rw [sc_eq f k (u + 1)]
    by_cases h : f u = true
    · simp only [h, if_true, fst]
      by_cases hm : m = 0
      · simp [hm]; omega
      · simp [hm]; omega
    · simp [h]

theorem scan_eq (b : Int) (ts : List T) (l : Int) : ∀ (k n : Nat) (s : Int × Nat), scan b ts l n k s = fst s (((List.range' n k).filter (fun n => decide (bh ts (l - addO b ts n) = n))).map (fun n => l - addO b ts n))
  | 0, n, s => by simp [scan, fst]
  | k + 1, n, (a, m) => by
    simp only [scan, List.range'_succ, List.filter_cons]
    rw [scan_eq b ts l k (n + 1)]
    by_cases h : bh ts (l - addO b ts n) = n
    · simp only [h, if_true, decide_true, fst]
      by_cases hm : m = 0
      · simp [hm]; omega
      · simp [hm]; omega
    · simp [h]

theorem same_scan {b : Int} {ts : List T} (hg : Good b ts) (l : Int) : scR b ts l = scanL b ts l := by
  rw [scR, scanL, sc_eq, scan_eq]
  congr 1
  have hlh : bh ts (l - 901) ≤ bh ts (l + 901) := bh_mono (by omega)
  refine inc_eq ((inc_iot _ _).filter _) ?_ fun z => ?_
  · rw [List.pairwise_map]
    refine (List.Pairwise.filter _ List.pairwise_lt_range').imp_of_mem ?_
    intro n n' hn hn' hlt
    have e1 : bh ts (l - addO b ts n) = n := by simpa using (List.mem_filter.1 hn).2
    have e2 : bh ts (l - addO b ts n') = n' := by simpa using (List.mem_filter.1 hn').2
    rcases Int.lt_or_le (l - addO b ts n) (l - addO b ts n') with h | h
    · exact h
    · have := bh_mono (ts := ts) h
      omega
  · simp only [List.mem_filter, mem_iot, List.mem_map, List.mem_range'_1, hitR, decide_eq_true_eq]
    constructor
    · rintro ⟨⟨h1, h2⟩, h3⟩
      have a1 := bh_mono (ts := ts) (u := l - 901) (v := z) (by omega)
      have a2 := bh_mono (ts := ts) (u := z) (v := l + 901) (by omega)
      have e : l - addO b ts (bh ts z) = z := by omega
      exact ⟨bh ts z, ⟨⟨by omega, by omega⟩, by rw [e]⟩, e⟩
    · rintro ⟨n, ⟨⟨h1, h2⟩, h3⟩, rfl⟩
      have := @addO_le b ts n hg
      exact ⟨by omega, by rw [h3]; omega⟩

theorem close_turns {b : Int} {ts : List T} (hg : Good b ts) (l : Int) : bh ts (l + 901) ≤ bh ts (l - 901) + 1 := by
  apply Classical.byContradiction
  intro h
  have hh := @bh_le ts (l + 901)
  have h1 := List.getElem?_eq_getElem (l := ts) (i := bh ts (l - 901)) (by omega)
  have h2 := List.getElem?_eq_getElem (l := ts) (i := bh ts (l - 901) + 1) (by omega)
  have a1 := (bh_split hg.asc (l - 901)).2 _ _ (Nat.le_refl _) h1
  have a2 := (bh_split hg.asc (l + 901)).1 _ _ (by omega) h2
  have a3 := (hg.2.2.2 _ _ h2).2.2.2.2 _ (by omega) h1
  omega

/-- A jump, by the turns behind two minutes. -/
theorem jump_iff {b : Int} {ts : List T} (hg : Good b ts) (l : Int) {i : Nat} (hi : i < ts.length) :
    (atT ts i + addO b ts i ≤ l ∧ l < atT ts i + addO b ts (i + 1)) ↔ (i < bh ts (l - addO b ts i) ∧ bh ts (l - addO b ts (i + 1)) ≤ i) := by
  have hv := List.getElem?_eq_getElem hi
  have e : atT ts i = (ts[i]).at' := by simp only [atT, hv, Option.map_some, Option.getD_some]
  have key : ∀ u, atT ts i ≤ u ↔ i < bh ts u := fun u => by
    rw [e]
    obtain ⟨h1, h2⟩ := bh_split hg.asc u
    constructor
    · intro h
      apply Classical.byContradiction
      intro hc
      exact h2 i _ (by omega) hv h
    · intro h; exact h1 i _ h hv
  have k1 := key (l - addO b ts i)
  have k2 := key (l - addO b ts (i + 1))
  omega

theorem sg_none (b : Int) (ts : List T) (l : Int) (m : Nat) : ∀ (k i : Nat) (a : Int), (∀ j, i ≤ j → j < i + k → ¬ (m = 0 ∧ atT ts j + addO b ts j ≤ l ∧ l < atT ts j + addO b ts (j + 1))) → sgR b ts l m k i a = a
  | 0, i, a, h => rfl
  | k + 1, i, a, h => by
    simp only [sgR]
    rw [if_neg (h i (by omega) (by omega))]
    exact sg_none b ts l m k (i + 1) a fun j h1 h2 => h j (by omega) (by omega)
theorem sg_one (b : Int) (ts : List T) (l : Int) (lo : Nat) : ∀ (k i : Nat) (a : Int), i ≤ lo → lo < i + k → (atT ts lo + addO b ts lo ≤ l ∧ l < atT ts lo + addO b ts (lo + 1)) →
    (∀ j, j ≠ lo → i ≤ j → j < i + k → ¬ (atT ts j + addO b ts j ≤ l ∧ l < atT ts j + addO b ts (j + 1))) → sgR b ts l 0 k i a = l - addO b ts lo
  | 0, i, a, h1, h2, _, _ => by omega
  | k + 1, i, a, h1, h2, hc, hn => by
    rw [sgR]
    by_cases e : i = lo
    · subst e
      rw [if_pos (And.intro (by rfl) hc)]
      exact sg_none b ts l 0 k (i + 1) _ fun j h1 h2 h3 => hn j (by omega) (by omega) (by omega) h3.2
    · rw [if_neg fun h => hn i e (by omega) (by omega) h.2]
      exact sg_one b ts l lo k (i + 1) a (by omega) (by omega) hc fun j h0 h1 h2 => hn j h0 (by omega) (by omega)

theorem same_at {b : Int} {ts : List T} (hg : Good b ts) (l : Int) : atR b ts l = atU b ts l ∧ kindR b ts l = kindU b ts l := by
  have hs := same_scan hg l
  have hc := close_turns hg l
  have hlh : bh ts (l - 901) ≤ bh ts (l + 901) := bh_mono (by omega)
  have hhi := @bh_le ts (l + 901)
  have hS : scanL b ts l = fst (0, 0) (((List.range' (bh ts (l - 901)) (bh ts (l + 901) + 1 - bh ts (l - 901))).filter (fun n => decide (bh ts (l - addO b ts n) = n))).map (fun n => l - addO b ts n)) := by rw [scanL, scan_eq]
  have hm : (scanL b ts l).2 ≤ 2 := by
    rw [hS]
    simp only [fst, List.length_map]
    have := List.length_filter_le (fun n => decide (bh ts (l - addO b ts n) = n)) (List.range' (bh ts (l - 901)) (bh ts (l + 901) + 1 - bh ts (l - 901)))
    simp only [List.length_range'] at this
    omega
  refine ⟨?_, ?_⟩
  · simp only [atR, atU, hs]
    by_cases h0 : (scanL b ts l).2 = 0
    · rw [if_pos h0, h0]
      have hno : ∀ n, bh ts (l - 901) ≤ n → n ≤ bh ts (l + 901) → bh ts (l - addO b ts n) ≠ n := by
        intro n h1 h2 h3
        rw [hS] at h0
        simp only [fst, List.length_map, Nat.zero_add, List.length_eq_zero_iff, List.filter_eq_nil_iff, List.mem_range'_1] at h0
        exact h0 n ⟨h1, by omega⟩ (by simpa using h3)
      have bnd : ∀ n, bh ts (l - 901) ≤ bh ts (l - addO b ts n) ∧ bh ts (l - addO b ts n) ≤ bh ts (l + 901) := fun n => by
        have := @addO_le b ts n hg
        exact ⟨bh_mono (by omega), bh_mono (by omega)⟩
      have hne : bh ts (l + 901) = bh ts (l - 901) + 1 := by
        have := hno _ (Nat.le_refl _) hlh
        have := bnd (bh ts (l - 901))
        omega
      generalize hlo : bh ts (l - 901) = lo at *
      have b1 := bnd lo
      have b2 := bnd (lo + 1)
      have n1 := hno lo (by omega) (by omega)
      have n2 := hno (lo + 1) (by omega) (by omega)
      have hC := (jump_iff hg l (i := lo) (by omega)).2 ⟨by omega, by omega⟩
      rw [sg_one b ts l lo ts.length 0 _ (by omega) (by omega) hC]
      · rw [hne, show lo + 1 - lo = 1 by omega]
        simp only [gapR]
        split <;> rfl
      · intro j hj _ hj2 hcj
        have := (jump_iff hg l (i := j) (by omega)).1 hcj
        have c1 := bnd j
        have c2 := bnd (j + 1)
        omega
    · rw [if_neg h0]
      exact sg_none b ts l _ ts.length 0 _ fun j _ _ h => h0 h.1
  · simp only [kindR, kindU, hs]
    generalize (scanL b ts l).2 = m at *
    split <;> (try split) <;> (try split) <;> (try split) <;> omega
end Go.Proofs.Ytefpjijokdplfaa
