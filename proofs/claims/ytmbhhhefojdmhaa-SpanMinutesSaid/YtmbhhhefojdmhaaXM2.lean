/-
  XM2: what is in both of two rows of spans, the gaps of a row, rows built of edges. Own work; no program.
-/
import Derived.Test.YtmbhhhefojdmhaaXM1
set_option linter.unusedVariables false
set_option linter.unusedSimpArgs false
set_option linter.unnecessarySimpa false
namespace Go.Vi
/-- What is in both of two rows in their form. -/
def meetS : List Sp → List Sp → List Sp
  | a :: l, b :: k =>
    (if max a.1 b.1 < min a.2 b.2 then [(max a.1 b.1, min a.2 b.2)] else []) ++ if a.2 < b.2 then meetS l (b :: k) else meetS (a :: l) k
  | [], _ => []
  | _ :: _, [] => []
termination_by a b => a.length + b.length
theorem meetS_nil (l : List Sp) : meetS l [] = [] := by cases l <;> simp [meetS]
theorem meetS_spec : ∀ (n : Nat) (l k : List Sp), l.length + k.length ≤ n → Can l → Can k → Can (meetS l k) ∧ (∀ m, hasS (meetS l k) m = (hasS l m && hasS k m)) ∧ (∀ x : Int, (∀ s ∈ l, x < s.1) → ∀ s ∈ meetS l k, x < s.1) ∧ ∀ x : Int, (∀ s ∈ k, x < s.1) → ∀ s ∈ meetS l k, x < s.1
  | _, [], k, _, _, _ => by simp [meetS, Can, hasS_nil]
  | _, a :: l, [], _, _, _ => by simp [meetS, Can, hasS_nil]
  | 0, a :: l, b :: k, hn, _, _ => by simp at hn
  | n + 1, a :: l, b :: k, hn, hl, hk => by
    obtain ⟨l1, l2, l3⟩ := hl.tail
    obtain ⟨k1, k2, k3⟩ := hk.tail
    simp only [List.length_cons] at hn
    rw [meetS]
    by_cases hab : a.2 < b.2
    · obtain ⟨r1, r2, r3, r4⟩ := meetS_spec n l (b :: k) (by simp only [List.length_cons]; omega) l1 hk
      rw [if_pos hab]
      have h0 := r3 a.2 l3
      generalize meetS l (b :: k) = r at r1 r2 r3 r4 h0
      have hin : ∀ m, (hasS (a :: l) m && hasS (b :: k) m) = ((decide (max a.1 b.1 ≤ m) && decide (m < min a.2 b.2)) || hasS r m) := fun m => by
        rw [r2 m, hasS_cons (s := a)]
        by_cases hm : m < a.2
        · have e1 : hasS l m = false := can_no l3 (by omega)
          have e2 : hasS (b :: k) m = inS b m := by rw [hasS_cons, can_no k3 (by omega), Bool.or_false]
          rw [e1, e2, Bool.or_false, Bool.false_and, Bool.or_false, Bool.eq_iff_iff]
          simp only [Bool.and_eq_true, inS_iff, decide_eq_true_eq]; omega
        · have e1 : inS a m = false := by rw [Bool.eq_false_iff]; intro h; have := inS_iff.1 h; omega
          have e2 : (decide (max a.1 b.1 ≤ m) && decide (m < min a.2 b.2)) = false := by
            rw [Bool.eq_false_iff]; intro h; simp only [Bool.and_eq_true, decide_eq_true_eq] at h; omega
          rw [e1, e2, Bool.false_or, Bool.false_or]
      by_cases hs : max a.1 b.1 < min a.2 b.2
      · rw [if_pos hs]
        refine ⟨⟨?_, ?_⟩, fun m => ?_, fun x hx s hsm => ?_, fun x hx s hsm => ?_⟩
        · refine List.pairwise_cons.2 ⟨fun s hsm => ?_, r1.1⟩
          have := h0 s hsm
          show min a.2 b.2 < s.1; omega
        · intro s hsm
          rcases List.mem_cons.1 hsm with rfl | hsm
          · exact hs
          · exact r1.2 s hsm
        · rw [hin m]; rfl
        · rcases List.mem_cons.1 hsm with rfl | hsm
          · have := hx a (by simp); show x < max a.1 b.1; omega
          · exact r3 x (fun s hs => hx s (by simp [hs])) s hsm
        · rcases List.mem_cons.1 hsm with rfl | hsm
          · have := hx b (by simp); show x < max a.1 b.1; omega
          · exact r4 x hx s hsm
      · rw [if_neg hs, List.nil_append]
        refine ⟨r1, fun m => ?_, fun x hx => r3 x fun s hs => hx s (by simp [hs]), fun x hx => r4 x hx⟩
        rw [hin m]
        have : (decide (max a.1 b.1 ≤ m) && decide (m < min a.2 b.2)) = false := by
          rw [Bool.eq_false_iff]; intro h; simp only [Bool.and_eq_true, decide_eq_true_eq] at h; omega
        rw [this, Bool.false_or]
    · obtain ⟨r1, r2, r3, r4⟩ := meetS_spec n (a :: l) k (by simp only [List.length_cons]; omega) hl k1
      rw [if_neg hab]
      have h0 := r4 b.2 k3
      generalize meetS (a :: l) k = r at r1 r2 r3 r4 h0
      have hin : ∀ m, (hasS (a :: l) m && hasS (b :: k) m) = ((decide (max a.1 b.1 ≤ m) && decide (m < min a.2 b.2)) || hasS r m) := fun m => by
        rw [r2 m, hasS_cons (s := b)]
        by_cases hm : m < b.2
        · have e1 : hasS k m = false := can_no k3 (by omega)
          have e2 : hasS (a :: l) m = inS a m := by rw [hasS_cons, can_no l3 (by omega), Bool.or_false]
          rw [e1, e2, Bool.or_false, Bool.and_false, Bool.or_false, Bool.eq_iff_iff]
          simp only [Bool.and_eq_true, inS_iff, decide_eq_true_eq]; omega
        · have e1 : inS b m = false := by rw [Bool.eq_false_iff]; intro h; have := inS_iff.1 h; omega
          have e2 : (decide (max a.1 b.1 ≤ m) && decide (m < min a.2 b.2)) = false := by
            rw [Bool.eq_false_iff]; intro h; simp only [Bool.and_eq_true, decide_eq_true_eq] at h; omega
          rw [e1, e2, Bool.false_or, Bool.false_or]
      by_cases hs : max a.1 b.1 < min a.2 b.2
      · rw [if_pos hs]
        refine ⟨⟨?_, ?_⟩, fun m => ?_, fun x hx s hsm => ?_, fun x hx s hsm => ?_⟩
        · refine List.pairwise_cons.2 ⟨fun s hsm => ?_, r1.1⟩
          have := h0 s hsm
          show min a.2 b.2 < s.1; omega
        · intro s hsm
          rcases List.mem_cons.1 hsm with rfl | hsm
          · exact hs
          · exact r1.2 s hsm
        · rw [hin m]; rfl
        · rcases List.mem_cons.1 hsm with rfl | hsm
          · have := hx a (by simp); show x < max a.1 b.1; omega
          · exact r3 x hx s hsm
        · rcases List.mem_cons.1 hsm with rfl | hsm
          · have := hx b (by simp); show x < max a.1 b.1; omega
          · exact r4 x (fun s hs => hx s (by simp [hs])) s hsm
      · rw [if_neg hs, List.nil_append]
        refine ⟨r1, fun m => ?_, fun x hx => r3 x hx, fun x hx => r4 x fun s hs => hx s (by simp [hs])⟩
        rw [hin m]
        have : (decide (max a.1 b.1 ≤ m) && decide (m < min a.2 b.2)) = false := by
          rw [Bool.eq_false_iff]; intro h; simp only [Bool.and_eq_true, decide_eq_true_eq] at h; omega
        rw [this, Bool.false_or]
/-- The gaps of a row, from a number on, up to another one. -/
def gapsS (hi : Int) : Int → List Sp → List Sp
  | at_, [] => if at_ < hi then [(at_, hi)] else []
  | at_, s :: l => (if at_ < s.1 then [(at_, s.1)] else []) ++ gapsS hi s.2 l
theorem gapsS_spec (hi : Int) : ∀ (l : List Sp) (at_ : Int), Can l → (∀ s ∈ l, at_ ≤ s.1 ∧ s.2 ≤ hi) → Can (gapsS hi at_ l) ∧ (∀ m, hasS (gapsS hi at_ l) m = (decide (at_ ≤ m ∧ m < hi) && !hasS l m)) ∧ ∀ s ∈ gapsS hi at_ l, at_ ≤ s.1
  | [], at_, _, _ => by
    unfold gapsS
    by_cases h : at_ < hi
    · rw [if_pos h]
      refine ⟨⟨by simp, by simpa using h⟩, fun m => ?_, by simp⟩
      rw [Bool.eq_iff_iff]; simp [hasS_cons, hasS_nil, inS]
    · rw [if_neg h]
      refine ⟨⟨by simp, by simp⟩, fun m => ?_, by simp⟩
      rw [Bool.eq_iff_iff]; simp [hasS_nil]; omega
  | s :: l, at_, hl, hb => by
    obtain ⟨l1, l2, l3⟩ := hl.tail
    obtain ⟨b1, b2⟩ := hb s (by simp)
    obtain ⟨r1, r2, r3⟩ := gapsS_spec hi l s.2 l1 fun x hx => ⟨by have := l3 x hx; omega, (hb x (by simp [hx])).2⟩
    unfold gapsS
    generalize gapsS hi s.2 l = r at r1 r2 r3
    by_cases h : at_ < s.1
    · rw [if_pos h]
      refine ⟨⟨?_, ?_⟩, fun m => ?_, ?_⟩
      · refine List.pairwise_cons.2 ⟨fun x hx => ?_, r1.1⟩
        have := r3 x hx; show s.1 < x.1; omega
      · intro x hx
        rcases List.mem_cons.1 hx with rfl | hx
        · exact h
        · exact r1.2 x hx
      · show hasS ((at_, s.1) :: r) m = _
        rw [hasS_cons, r2 m, hasS_cons]
        by_cases hm : m < s.2
        · rw [can_no l3 (by omega)]
          rw [Bool.eq_iff_iff]; simp [inS]; omega
        · have e1 : inS s m = false := by rw [Bool.eq_false_iff]; intro h; have := inS_iff.1 h; omega
          rw [e1, Bool.eq_iff_iff]; simp [inS]
          constructor
          · rintro (h | h)
            · omega
            · exact ⟨by omega, h.2⟩
          · intro h; exact .inr ⟨by omega, h.2⟩
      · intro x hx
        rcases List.mem_cons.1 hx with rfl | hx
        · exact Int.le_refl _
        · have := r3 x hx; omega
    · rw [if_neg h, List.nil_append]
      refine ⟨r1, fun m => ?_, fun x hx => by have := r3 x hx; omega⟩
      rw [r2 m, hasS_cons]
      by_cases hm : m < s.2
      · rw [can_no l3 (by omega)]
        rw [Bool.eq_iff_iff]; simp [inS]; omega
      · have e1 : inS s m = false := by rw [Bool.eq_false_iff]; intro h; have := inS_iff.1 h; omega
        rw [e1, Bool.eq_iff_iff]; simp
        intro _
        omega
end Go.Vi
