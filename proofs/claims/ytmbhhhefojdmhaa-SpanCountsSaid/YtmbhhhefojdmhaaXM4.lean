/-
  XM4: how many minutes are in rows of spans. Own work; no program.
-/
import Derived.Test.YtmbhhhefojdmhaaXM3
set_option linter.unusedVariables false
set_option linter.unusedSimpArgs false
set_option linter.unnecessarySimpa false
namespace Go.Vi
def cntS (l : List Sp) : Int := l.foldl (fun n s => n + (s.2 - s.1)) 0
theorem cntS_acc : ∀ (l : List Sp) (n : Int), l.foldl (fun n s => n + (s.2 - s.1)) n = n + cntS l
  | [], n => by simp [cntS]
  | s :: l, n => by
    have h1 := cntS_acc l (n + (s.2 - s.1))
    have h2 := cntS_acc l (0 + (s.2 - s.1))
    unfold cntS at h1 h2 ⊢
    rw [List.foldl_cons, List.foldl_cons, h1, h2]; omega
theorem cntS_cons (s : Sp) (l : List Sp) : cntS (s :: l) = (s.2 - s.1) + cntS l := by
  have := cntS_acc l (0 + (s.2 - s.1))
  show (s :: l).foldl _ 0 = _
  rw [List.foldl_cons, this]; omega
def cntP (lo : Int) (n : Nat) (f : Int → Bool) : Nat := (List.range n).countP fun i : Nat => f (lo + (i : Int))
theorem cntP_succ (lo : Int) (n : Nat) (f : Int → Bool) : cntP lo (n + 1) f = cntP lo n f + if f (lo + n) then 1 else 0 := by
  unfold cntP
  rw [List.range_succ, List.countP_append]
  congr 1
  simp [List.countP_cons]
theorem cntP_in (lo : Int) (s : Sp) : ∀ n : Nat, lo ≤ s.1 → s.1 ≤ s.2 → (cntP lo n (inS s) : Int) = max 0 (min (lo + n) s.2 - s.1)
  | 0, h1, h2 => by simp [cntP]; omega
  | n + 1, h1, h2 => by
    have ih := cntP_in lo s n h1 h2
    rw [cntP_succ]
    by_cases h : inS s (lo + n) = true
    · rw [if_pos h]
      have := inS_iff.1 h
      push_cast
      omega
    · rw [if_neg h]
      have : ¬ (s.1 ≤ lo + n ∧ lo + n < s.2) := fun hh => h (inS_iff.2 hh)
      push_cast
      omega
theorem cntP_or (lo : Int) (f g : Int → Bool) : ∀ n : Nat, cntP lo n (fun m => f m || g m) + cntP lo n (fun m => f m && g m) = cntP lo n f + cntP lo n g
  | 0 => rfl
  | n + 1 => by
    have ih := cntP_or lo f g n
    rw [cntP_succ, cntP_succ, cntP_succ, cntP_succ]
    cases f (lo + n) <;> cases g (lo + n) <;> simp <;> omega
theorem cntP_congr (lo : Int) {f g : Int → Bool} (n : Nat) (h : ∀ m, f m = g m) : cntP lo n f = cntP lo n g := by
  have : f = g := funext h
  rw [this]
theorem cnt_can (lo : Int) (n : Nat) : ∀ l : List Sp, Can l → (∀ s ∈ l, lo ≤ s.1 ∧ s.2 ≤ lo + n) → cntS l = (cntP lo n (hasS l) : Int)
  | [], _, _ => by
    have : cntP lo n (hasS []) = 0 := by
      unfold cntP
      rw [List.countP_eq_zero]
      intro i _ h
      simp [hasS_nil] at h
    rw [this]; rfl
  | s :: l, hl, hb => by
    obtain ⟨l1, l2, l3⟩ := hl.tail
    have ih := cnt_can lo n l l1 fun x hx => hb x (by simp [hx])
    obtain ⟨b1, b2⟩ := hb s (by simp)
    have h1 := cntP_or lo (inS s) (hasS l) n
    have h2 : cntP lo n (fun m => inS s m && hasS l m) = 0 := by
      unfold cntP
      rw [List.countP_eq_zero]
      intro i _ h
      simp only [Bool.and_eq_true] at h
      have := inS_iff.1 h.1
      rw [can_no l3 (by omega)] at h
      cases h.2
    have h3 := cntP_in lo s n b1 (by omega)
    have h4 : cntP lo n (hasS (s :: l)) = cntP lo n (fun m => inS s m || hasS l m) := cntP_congr lo n fun m => hasS_cons
    rw [cntS_cons, ih, h4]
    omega
/-- What two rows and what is in one of them, and in both, have. -/
theorem cnt_pair (lo : Int) (n : Nat) {a b u m : List Sp} (ha : Can a) (hb : Can b) (hu : Can u) (hm : Can m) (ba : ∀ s ∈ a, lo ≤ s.1 ∧ s.2 ≤ lo + n) (bb : ∀ s ∈ b, lo ≤ s.1 ∧ s.2 ≤ lo + n) (bu : ∀ s ∈ u, lo ≤ s.1 ∧ s.2 ≤ lo + n) (bm : ∀ s ∈ m, lo ≤ s.1 ∧ s.2 ≤ lo + n)
    (h1 : ∀ x, hasS u x = (hasS a x || hasS b x)) (h2 : ∀ x, hasS m x = (hasS a x && hasS b x)) : cntS u + cntS m = cntS a + cntS b := by
  rw [cnt_can lo n a ha ba, cnt_can lo n b hb bb, cnt_can lo n u hu bu, cnt_can lo n m hm bm, cntP_congr lo n h1, cntP_congr lo n h2]
  have := cntP_or lo (hasS a) (hasS b) n
  omega
theorem cnt_part (lo : Int) (n : Nat) {a b m d : List Sp} (ha : Can a) (hm : Can m) (hd : Can d) (ba : ∀ s ∈ a, lo ≤ s.1 ∧ s.2 ≤ lo + n) (bm : ∀ s ∈ m, lo ≤ s.1 ∧ s.2 ≤ lo + n) (bd : ∀ s ∈ d, lo ≤ s.1 ∧ s.2 ≤ lo + n)
    (h1 : ∀ x, hasS m x = (hasS a x && hasS b x)) (h2 : ∀ x, hasS d x = (hasS a x && !hasS b x)) : cntS m + cntS d = cntS a := by
  rw [cnt_can lo n a ha ba, cnt_can lo n d hd bd, cnt_can lo n m hm bm, cntP_congr lo n h1, cntP_congr lo n h2]
  have h3 := cntP_or lo (fun x => hasS a x && hasS b x) (fun x => hasS a x && !hasS b x) n
  have h4 : cntP lo n (fun x => (hasS a x && hasS b x) && (hasS a x && !hasS b x)) = 0 := by
    unfold cntP
    rw [List.countP_eq_zero]
    intro i _ h
    cases hx : hasS b (lo + i) <;> simp [hx] at h
  have h5 : cntP lo n (fun x => (hasS a x && hasS b x) || (hasS a x && !hasS b x)) = cntP lo n (hasS a) := cntP_congr lo n fun x => by cases hasS a x <;> cases hasS b x <;> rfl
  rw [h4, h5] at h3
  omega
/-- Of a row in its form each span's ends bound what is in it: a row that holds no more lies between the same bounds. -/
theorem can_bound {l : List Sp} {lo hi : Int} (hl : Can l) (h : ∀ m, hasS l m = true → lo ≤ m ∧ m < hi) : ∀ s ∈ l, lo ≤ s.1 ∧ s.2 ≤ hi := fun s hs => by
  have hn := hl.2 s hs
  have h1 := h s.1 (hasS_iff.2 ⟨s, hs, Int.le_refl _, hn⟩)
  have h2 := h (s.2 - 1) (hasS_iff.2 ⟨s, hs, by omega, by omega⟩)
  exact ⟨h1.1, by omega⟩
end Go.Vi
