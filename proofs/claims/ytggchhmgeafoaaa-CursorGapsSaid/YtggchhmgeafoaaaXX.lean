import Derived.Test.YtggchhmgeafoaaaVi1
set_option linter.unusedVariables false
set_option linter.unusedSimpArgs false
set_option linter.unnecessarySimpa false
/-
 XM1: spans of numbers: rows in their form are told by what is in them. Own work; no program.
-/
namespace Go.Vi
abbrev Sp := Int × Int
def inS (s : Sp) (m : Int) : Bool := decide (s.1 ≤ m) && decide (m < s.2)
theorem inS_iff {s : Sp} {m : Int} : inS s m = true ↔ s.1 ≤ m ∧ m < s.2 := by simp [inS]
def hasS (l : List Sp) (m : Int) : Bool := l.any fun s => inS s m
theorem hasS_iff {l : List Sp} {m : Int} : hasS l m = true ↔ ∃ s ∈ l, s.1 ≤ m ∧ m < s.2 := by
 simp only [hasS, List.any_eq_true, inS_iff]
theorem hasS_cons {s : Sp} {l : List Sp} {m : Int} : hasS (s :: l) m = (inS s m || hasS l m) := rfl
theorem hasS_nil {m : Int} : hasS [] m = false := rfl
theorem hasS_app {a b : List Sp} {m : Int} : hasS (a ++ b) m = (hasS a m || hasS b m) := by simp [hasS]
def Can (l : List Sp) : Prop := (l.Pairwise fun a b => a.2 < b.1) ∧ ∀ s ∈ l, s.1 < s.2
theorem Can.tail {s : Sp} {l : List Sp} (h : Can (s :: l)) : Can l ∧ s.1 < s.2 ∧ ∀ x ∈ l, s.2 < x.1 := by
 obtain ⟨h1, h2⟩ := List.pairwise_cons.1 h.1
 exact ⟨⟨h2, fun x hx => h.2 x (by simp [hx])⟩, h.2 s (by simp), h1⟩
theorem can_no {s : Sp} {l : List Sp} {m : Int} (h : ∀ x ∈ l, s.2 < x.1) (hm : m ≤ s.2) : hasS l m = false := by
 rw [Bool.eq_false_iff]
 intro hh
 obtain ⟨x, hx, h1, h2⟩ := hasS_iff.1 hh
 have := h x hx
 omega
theorem can_unique : ∀ (l k : List Sp), Can l → Can k → (∀ m, hasS l m = hasS k m) → l = k
 | [], [], _, _, _ => rfl
 | [], s :: k, _, hk, h => by
  have h1 := h s.1
  have h2 : hasS (s :: k) s.1 = true := hasS_iff.2 ⟨s, by simp, Int.le_refl _, hk.2 s (by simp)⟩
  rw [h2] at h1
  cases h1
 | s :: l, [], hl, _, h => by
  have h1 := h s.1
  have h2 : hasS (s :: l) s.1 = true := hasS_iff.2 ⟨s, by simp, Int.le_refl _, hl.2 s (by simp)⟩
  rw [h2] at h1
  cases h1
 | s :: l, r :: k, hl, hk, h => by
  obtain ⟨l1, l2, l3⟩ := hl.tail
  obtain ⟨k1, k2, k3⟩ := hk.tail
  have first : ∀ {s r : Sp} {l k : List Sp}, (∀ m, hasS (s :: l) m = hasS (r :: k) m) → s.1 < s.2 → r.1 < r.2 → (∀ x ∈ k, r.2 < x.1) → r.1 ≤ s.1 := fun {s r l k} h h1 h2 h3 => by
   have e : hasS (r :: k) s.1 = true := by rw [← h]; exact hasS_iff.2 ⟨s, by simp, Int.le_refl _, h1⟩
   obtain ⟨x, hx, g1, g2⟩ := hasS_iff.1 e
   rcases List.mem_cons.1 hx with rfl | hx
   ·exact g1
   ·have := h3 x hx; omega
  have e1 : s.1 = r.1 := Int.le_antisymm (first (fun m => (h m).symm) k2 l2 l3) (first h l2 k2 k3)
  have last : ∀ {s r : Sp} {l k : List Sp}, (∀ m, hasS (s :: l) m = hasS (r :: k) m) → s.1 = r.1 → s.1 < s.2 → (∀ x ∈ l, s.2 < x.1) → r.2 ≤ s.2 := fun {s r l k} h h0 h1 h3 => by
   by_cases hh : r.2 ≤ s.2
   ·exact hh
   ·have e : hasS (s :: l) s.2 = true := by rw [h]; exact hasS_iff.2 ⟨r, by simp, by omega, by omega⟩
    obtain ⟨x, hx, g1, g2⟩ := hasS_iff.1 e
    rcases List.mem_cons.1 hx with rfl | hx
    ·omega
    ·have := h3 x hx; omega
  have e2 : s.2 = r.2 := Int.le_antisymm (last (fun m => (h m).symm) e1.symm k2 k3) (last h e1 l2 l3)
  have es : s = r := Prod.ext e1 e2
  subst es
  have et : l = k := can_unique l k l1 k1 fun m => by
   have hm := h m
   rw [hasS_cons, hasS_cons] at hm
   cases hi : inS s m with
   | true =>
    have := (inS_iff.1 hi).2
    rw [can_no l3 (by omega), can_no k3 (by omega)]
   | false => rw [hi, Bool.false_or, Bool.false_or] at hm; exact hm
  rw [et]
def stepF (out : List Sp) (s : Sp) : List Sp := match out.getLast? with
 | some c => if s.1 ≤ c.2 then out.dropLast ++ [(c.1, max c.2 s.2)] else out ++ [s]
 | none => [s]
def formS (l : List Sp) : List Sp := l.foldl stepF []
theorem formS_snoc (l : List Sp) (s : Sp) : formS (l ++ [s]) = stepF (formS l) s := by simp [formS]
theorem getLast_split {l : List Sp} {c : Sp} (h : l.getLast? = some c) : l = l.dropLast ++ [c] := by
 rw [List.getLast?_eq_some_iff] at h
 obtain ⟨ys, rfl⟩ := h
 simp
theorem formS_spec : ∀ (l : List Sp), (l.Pairwise fun a b => a.1 ≤ b.1) → (∀ s ∈ l, s.1 < s.2) → Can (formS l) ∧ (∀ m, hasS (formS l) m = hasS l m) ∧ ∀ c ∈ formS l, ∃ d ∈ l, c.1 = d.1 := by
 have key : ∀ (l : List Sp) (out done : List Sp), Can out → (∀ m, hasS out m = hasS done m) → (∀ c ∈ out, ∃ d ∈ done, c.1 = d.1) → ((done ++ l).Pairwise fun a b => a.1 ≤ b.1) → (∀ s ∈ l, s.1 < s.2) →
   Can (l.foldl stepF out) ∧ (∀ m, hasS (l.foldl stepF out) m = hasS (done ++ l) m) ∧ ∀ c ∈ l.foldl stepF out, ∃ d ∈ done ++ l, c.1 = d.1 := by
  intro l
  induction l with
  | nil => intro out done h1 h2 h3 _ _; rw [List.append_nil]; exact ⟨h1, h2, h3⟩
  | cons s l ih =>
   intro out done h1 h2 h3 hs hn
   have hsn := hn s (by simp)
   have hle : ∀ d ∈ done, d.1 ≤ s.1 := fun d hd => (List.pairwise_append.1 hs).2.2 d hd s (by simp)
   have e : done ++ s :: l = (done ++ [s]) ++ l := by simp
   rw [List.foldl_cons, e]
   have step : Can (stepF out s) ∧ (∀ m, hasS (stepF out s) m = hasS (done ++ [s]) m) ∧ ∀ c ∈ stepF out s, ∃ d ∈ done ++ [s], c.1 = d.1 := by
    unfold stepF
    cases hg : out.getLast? with
    | none =>
     have : out = [] := by simpa using hg
     subst this
     refine ⟨⟨by simp, by simpa using hsn⟩, fun m => ?_, by simp⟩
     rw [hasS_app, ← h2 m]; simp [hasS_nil]
    | some c =>
     have hc := getLast_split hg
     have hcm : c ∈ out := by rw [hc]; simp
     obtain ⟨d, hd, hcd⟩ := h3 c hcm
     have hcs : c.1 ≤ s.1 := by rw [hcd]; exact hle d hd
     have hcn := h1.2 c hcm
     have hpw := h1.1
     generalize out.dropLast = o at hc
     subst hc
     obtain ⟨p1, p2, p3⟩ := List.pairwise_append.1 hpw
     dsimp only
     split
     ·rename_i hsc
      refine ⟨⟨?_, ?_⟩, fun m => ?_, ?_⟩
      ·rw [List.pairwise_append]
       refine ⟨p1, by simp, fun a ha b hb => ?_⟩
       simp at hb; subst hb
       exact p3 a ha c (by simp)
      ·intro x hx
       rcases List.mem_append.1 hx with hx | hx
       ·exact h1.2 x (by simp [hx])
       ·simp at hx; subst hx; show c.1 < max c.2 s.2; omega
      ·rw [hasS_app, hasS_app (a := done), ← h2 m, hasS_app, Bool.or_assoc]
       congr 1
       rw [Bool.eq_iff_iff]
       simp only [Bool.or_eq_true, hasS_iff, List.mem_singleton, exists_eq_left]
       omega
      ·intro x hx
       rcases List.mem_append.1 hx with hx | hx
       ·obtain ⟨d', hd', hh⟩ := h3 x (by simp [hx])
        exact ⟨d', by simp [hd'], hh⟩
       ·simp at hx; subst hx; exact ⟨d, by simp [hd], hcd⟩
     ·rename_i hsc
      refine ⟨⟨?_, ?_⟩, fun m => ?_, ?_⟩
      ·rw [List.pairwise_append]
       refine ⟨hpw, by simp, fun a ha b hb => ?_⟩
       simp at hb; subst hb
       rcases List.mem_append.1 ha with ha | ha
       ·have := p3 a ha c (by simp); omega
       ·simp at ha; subst ha; omega
      ·intro x hx
       rcases List.mem_append.1 hx with hx | hx
       ·exact h1.2 x hx
       ·simp at hx; subst hx; exact hsn
      ·rw [hasS_app, h2 m, hasS_app (a := done)]
      ·intro x hx
       rcases List.mem_append.1 hx with hx | hx
       ·obtain ⟨d', hd', hh⟩ := h3 x hx
        exact ⟨d', by simp [hd'], hh⟩
       ·simp at hx; subst hx; exact ⟨x, by simp, rfl⟩
   exact ih _ _ step.1 step.2.1 step.2.2 (by rw [← e]; exact hs) fun x hx => hn x (by simp [hx])
 intro l hs hn
 have := key l [] [] ⟨by simp, by simp⟩ (fun _ => rfl) (by simp) (by simpa using hs) hn
 simp only [List.nil_append] at this
 exact this
end Go.Vi

/-
 XM2: what is in both of two rows of spans, the gaps of a row, rows built of edges. Own work; no program.
-/
namespace Go.Vi
def meetS : List Sp → List Sp → List Sp
 | a :: l, b :: k =>
  (if max a.1 b.1 < min a.2 b.2 then [(max a.1 b.1, min a.2 b.2)] else []) ++ if a.2 < b.2 then meetS l (b :: k) else meetS (a :: l) k
 | [], _ => []
 | _ :: _, [] => []
termination_by a b => a.length + b.length
theorem meetS_nil (l : List Sp) : meetS l [] = [] := by cases l <;> simp [meetS]
theorem meetS_spec : ∀ (n : Nat) (l k : List Sp), l.length + k.length ≤ n → Can l → Can k → Can (meetS l k) ∧ (∀ m, hasS (meetS l k) m = (hasS l m && hasS k m)) ∧ (∀ x : Int, (∀ s ∈ l, x < s.1) → ∀ s ∈ meetS l k, x < s.1) ∧ ∀ x : Int, (∀ s ∈ k, x < s.1) → ∀ s ∈ meetS l k, x < s.1
 | _, [], k, _, _, _ => by simp [meetS, Can, hasS_nil]
 | _, a :: l, [], _, _, _ => by simp [meetS, Can, hasS_nil]
 | 0, a :: l, b :: k, hn, _, _ => by simp at hn
 | n + 1, a :: l, b :: k, hn, hl, hk => by
  obtain ⟨l1, l2, l3⟩ := hl.tail
  obtain ⟨k1, k2, k3⟩ := hk.tail
  simp only [List.length_cons] at hn
  rw [meetS]
  by_cases hab : a.2 < b.2
  ·obtain ⟨r1, r2, r3, r4⟩ := meetS_spec n l (b :: k) (by simp only [List.length_cons]; omega) l1 hk
   rw [if_pos hab]
   have h0 := r3 a.2 l3
   generalize meetS l (b :: k) = r at r1 r2 r3 r4 h0
   have hin : ∀ m, (hasS (a :: l) m && hasS (b :: k) m) = ((decide (max a.1 b.1 ≤ m) && decide (m < min a.2 b.2)) || hasS r m) := fun m => by
    rw [r2 m, hasS_cons (s := a)]
    by_cases hm : m < a.2
    ·have e1 : hasS l m = false := can_no l3 (by omega)
     have e2 : hasS (b :: k) m = inS b m := by rw [hasS_cons, can_no k3 (by omega), Bool.or_false]
     rw [e1, e2, Bool.or_false, Bool.false_and, Bool.or_false, Bool.eq_iff_iff]
     simp only [Bool.and_eq_true, inS_iff, decide_eq_true_eq]; omega
    ·have e1 : inS a m = false := by rw [Bool.eq_false_iff]; intro h; have := inS_iff.1 h; omega
     have e2 : (decide (max a.1 b.1 ≤ m) && decide (m < min a.2 b.2)) = false := by
      rw [Bool.eq_false_iff]; intro h; simp only [Bool.and_eq_true, decide_eq_true_eq] at h; omega
     rw [e1, e2, Bool.false_or, Bool.false_or]
   by_cases hs : max a.1 b.1 < min a.2 b.2
   ·rw [if_pos hs]
    refine ⟨⟨?_, ?_⟩, fun m => ?_, fun x hx s hsm => ?_, fun x hx s hsm => ?_⟩
    ·refine List.pairwise_cons.2 ⟨fun s hsm => ?_, r1.1⟩
     have := h0 s hsm
     show min a.2 b.2 < s.1; omega
    ·intro s hsm
     rcases List.mem_cons.1 hsm with rfl | hsm
     ·exact hs
     ·exact r1.2 s hsm
    ·rw [hin m]; rfl
    ·rcases List.mem_cons.1 hsm with rfl | hsm
     ·have := hx a (by simp); show x < max a.1 b.1; omega
     ·exact r3 x (fun s hs => hx s (by simp [hs])) s hsm
    ·rcases List.mem_cons.1 hsm with rfl | hsm
     ·have := hx b (by simp); show x < max a.1 b.1; omega
     ·exact r4 x hx s hsm
   ·rw [if_neg hs, List.nil_append]
    refine ⟨r1, fun m => ?_, fun x hx => r3 x fun s hs => hx s (by simp [hs]), fun x hx => r4 x hx⟩
    rw [hin m]
    have : (decide (max a.1 b.1 ≤ m) && decide (m < min a.2 b.2)) = false := by
     rw [Bool.eq_false_iff]; intro h; simp only [Bool.and_eq_true, decide_eq_true_eq] at h; omega
    rw [this, Bool.false_or]
  ·obtain ⟨r1, r2, r3, r4⟩ := meetS_spec n (a :: l) k (by simp only [List.length_cons]; omega) hl k1
   rw [if_neg hab]
   have h0 := r4 b.2 k3
   generalize meetS (a :: l) k = r at r1 r2 r3 r4 h0
   have hin : ∀ m, (hasS (a :: l) m && hasS (b :: k) m) = ((decide (max a.1 b.1 ≤ m) && decide (m < min a.2 b.2)) || hasS r m) := fun m => by
    rw [r2 m, hasS_cons (s := b)]
    by_cases hm : m < b.2
    ·have e1 : hasS k m = false := can_no k3 (by omega)
     have e2 : hasS (a :: l) m = inS a m := by rw [hasS_cons, can_no l3 (by omega), Bool.or_false]
     rw [e1, e2, Bool.or_false, Bool.and_false, Bool.or_false, Bool.eq_iff_iff]
     simp only [Bool.and_eq_true, inS_iff, decide_eq_true_eq]; omega
    ·have e1 : inS b m = false := by rw [Bool.eq_false_iff]; intro h; have := inS_iff.1 h; omega
     have e2 : (decide (max a.1 b.1 ≤ m) && decide (m < min a.2 b.2)) = false := by
      rw [Bool.eq_false_iff]; intro h; simp only [Bool.and_eq_true, decide_eq_true_eq] at h; omega
     rw [e1, e2, Bool.false_or, Bool.false_or]
   by_cases hs : max a.1 b.1 < min a.2 b.2
   ·rw [if_pos hs]
    refine ⟨⟨?_, ?_⟩, fun m => ?_, fun x hx s hsm => ?_, fun x hx s hsm => ?_⟩
    ·refine List.pairwise_cons.2 ⟨fun s hsm => ?_, r1.1⟩
     have := h0 s hsm
     show min a.2 b.2 < s.1; omega
    ·intro s hsm
     rcases List.mem_cons.1 hsm with rfl | hsm
     ·exact hs
     ·exact r1.2 s hsm
    ·rw [hin m]; rfl
    ·rcases List.mem_cons.1 hsm with rfl | hsm
     ·have := hx a (by simp); show x < max a.1 b.1; omega
     ·exact r3 x hx s hsm
    ·rcases List.mem_cons.1 hsm with rfl | hsm
     ·have := hx b (by simp); show x < max a.1 b.1; omega
     ·exact r4 x (fun s hs => hx s (by simp [hs])) s hsm
   ·rw [if_neg hs, List.nil_append]
    refine ⟨r1, fun m => ?_, fun x hx => r3 x hx, fun x hx => r4 x fun s hs => hx s (by simp [hs])⟩
    rw [hin m]
    have : (decide (max a.1 b.1 ≤ m) && decide (m < min a.2 b.2)) = false := by
     rw [Bool.eq_false_iff]; intro h; simp only [Bool.and_eq_true, decide_eq_true_eq] at h; omega
    rw [this, Bool.false_or]
def gapsS (hi : Int) : Int → List Sp → List Sp
 | at_, [] => if at_ < hi then [(at_, hi)] else []
 | at_, s :: l => (if at_ < s.1 then [(at_, s.1)] else []) ++ gapsS hi s.2 l
theorem gapsS_spec (hi : Int) : ∀ (l : List Sp) (at_ : Int), Can l → (∀ s ∈ l, at_ ≤ s.1 ∧ s.2 ≤ hi) → Can (gapsS hi at_ l) ∧ (∀ m, hasS (gapsS hi at_ l) m = (decide (at_ ≤ m ∧ m < hi) && !hasS l m)) ∧ ∀ s ∈ gapsS hi at_ l, at_ ≤ s.1
 | [], at_, _, _ => by
  unfold gapsS
  by_cases h : at_ < hi
  ·rw [if_pos h]
   refine ⟨⟨by simp, by simpa using h⟩, fun m => ?_, by simp⟩
   rw [Bool.eq_iff_iff]; simp [hasS_cons, hasS_nil, inS]
  ·rw [if_neg h]
   refine ⟨⟨by simp, by simp⟩, fun m => ?_, by simp⟩
   rw [Bool.eq_iff_iff]; simp [hasS_nil]; omega
 | s :: l, at_, hl, hb => by
  obtain ⟨l1, l2, l3⟩ := hl.tail
  obtain ⟨b1, b2⟩ := hb s (by simp)
  obtain ⟨r1, r2, r3⟩ := gapsS_spec hi l s.2 l1 fun x hx => ⟨by have := l3 x hx; omega, (hb x (by simp [hx])).2⟩
  unfold gapsS
  generalize gapsS hi s.2 l = r at r1 r2 r3
  by_cases h : at_ < s.1
  ·rw [if_pos h]
   refine ⟨⟨?_, ?_⟩, fun m => ?_, ?_⟩
   ·refine List.pairwise_cons.2 ⟨fun x hx => ?_, r1.1⟩
    have := r3 x hx; show s.1 < x.1; omega
   ·intro x hx
    rcases List.mem_cons.1 hx with rfl | hx
    ·exact h
    ·exact r1.2 x hx
   ·show hasS ((at_, s.1) :: r) m = _
    rw [hasS_cons, r2 m, hasS_cons]
    by_cases hm : m < s.2
    ·rw [can_no l3 (by omega)]
     rw [Bool.eq_iff_iff]; simp [inS]; omega
    ·have e1 : inS s m = false := by rw [Bool.eq_false_iff]; intro h; have := inS_iff.1 h; omega
     rw [e1, Bool.eq_iff_iff]; simp [inS]
     constructor
     ·rintro (h | h)
      ·omega
      ·exact ⟨by omega, h.2⟩
     ·intro h; exact .inr ⟨by omega, h.2⟩
   ·intro x hx
    rcases List.mem_cons.1 hx with rfl | hx
    ·exact Int.le_refl _
    ·have := r3 x hx; omega
  ·rw [if_neg h, List.nil_append]
   refine ⟨r1, fun m => ?_, fun x hx => by have := r3 x hx; omega⟩
   rw [r2 m, hasS_cons]
   by_cases hm : m < s.2
   ·rw [can_no l3 (by omega)]
    rw [Bool.eq_iff_iff]; simp [inS]; omega
   ·have e1 : inS s m = false := by rw [Bool.eq_false_iff]; intro h; have := inS_iff.1 h; omega
    rw [e1, Bool.eq_iff_iff]; simp
    intro _
    omega
end Go.Vi

/-
 XM4: how many minutes are in rows of spans. Own work; no program.
-/
namespace Go.Vi
theorem can_bound {l : List Sp} {lo hi : Int} (hl : Can l) (h : ∀ m, hasS l m = true → lo ≤ m ∧ m < hi) : ∀ s ∈ l, lo ≤ s.1 ∧ s.2 ≤ hi := fun s hs => by
 have hn := hl.2 s hs
 have h1 := h s.1 (hasS_iff.2 ⟨s, hs, Int.le_refl _, hn⟩)
 have h2 := h (s.2 - 1) (hasS_iff.2 ⟨s, hs, by omega, by omega⟩)
 exact ⟨h1.1, by omega⟩
end Go.Vi

/-
 XG1: rows of spans that are cut at a minute; what is left of a row, of gaps, of what two rows have in common. Own work, no program.
-/
namespace Go.Vi
def cutS (k : Int) (l : List Sp) : List Sp := (l.map fun s => (max s.1 k, s.2)).filter fun s => decide (s.1 < s.2)
theorem cutS_cons (k : Int) (s : Sp) (l : List Sp) : cutS k (s :: l) = if max s.1 k < s.2 then (max s.1 k, s.2) :: cutS k l else cutS k l := by
 unfold cutS
 simp only [List.map_cons, List.filter_cons, decide_eq_true_eq]
theorem cutS_mem {k : Int} {l : List Sp} {x : Sp} (h : x ∈ cutS k l) : ∃ y ∈ l, x = (max y.1 k, y.2) ∧ max y.1 k < y.2 := by
 unfold cutS at h
 obtain ⟨h1, h2⟩ := List.mem_filter.1 h
 obtain ⟨y, hy, rfl⟩ := List.mem_map.1 h1
 exact ⟨y, hy, rfl, by simpa using h2⟩
theorem cutS_can {k : Int} : ∀ {l : List Sp}, Can l → Can (cutS k l)
 | [], _ => ⟨by simp [cutS], by simp [cutS]⟩
 | s :: l, h => by
  obtain ⟨h1, h2, h3⟩ := h.tail
  have ih := cutS_can (k := k) h1
  rw [cutS_cons]
  split
  ·rename_i hc
   refine ⟨List.pairwise_cons.2 ⟨fun x hx => ?_, ih.1⟩, fun x hx => ?_⟩
   ·obtain ⟨y, hy, rfl, _⟩ := cutS_mem hx
    have := h3 y hy
    dsimp only; omega
   ·rcases List.mem_cons.1 hx with rfl | hx
    ·exact hc
    ·exact ih.2 x hx
  ·exact ih
theorem cutS_has {k : Int} (m : Int) : ∀ (l : List Sp), hasS (cutS k l) m = (decide (k ≤ m) && hasS l m)
 | [] => by simp [cutS, hasS_nil]
 | s :: l => by
  have ih := cutS_has (k := k) m l
  rw [cutS_cons, hasS_cons]
  split
  ·rw [hasS_cons, ih]
   rw [Bool.eq_iff_iff]
   simp only [Bool.or_eq_true, Bool.and_eq_true, inS_iff, decide_eq_true_eq]
   constructor
   ·rintro (⟨h1, h2⟩ | ⟨h1, h2⟩)
    ·exact ⟨by omega, .inl ⟨by omega, h2⟩⟩
    ·exact ⟨h1, .inr h2⟩
   ·rintro ⟨h1, ⟨h2, h3⟩ | h2⟩
    ·exact .inl ⟨by omega, h3⟩
    ·exact .inr ⟨h1, h2⟩
  ·rename_i hc
   rw [ih, Bool.eq_iff_iff]
   simp only [Bool.or_eq_true, Bool.and_eq_true, inS_iff, decide_eq_true_eq]
   constructor
   ·rintro ⟨h1, h2⟩
    exact ⟨h1, .inr h2⟩
   ·rintro ⟨h1, ⟨h2, h3⟩ | h2⟩
    ·omega
    ·exact ⟨h1, h2⟩
theorem cutS_low {k : Int} {l : List Sp} : ∀ x ∈ cutS k l, k ≤ x.1 := fun x hx => by
 obtain ⟨y, _, rfl, _⟩ := cutS_mem hx
 dsimp only; omega
theorem cutS_id {k : Int} : ∀ {l : List Sp}, Can l → (∀ x ∈ l, k ≤ x.1) → cutS k l = l
 | [], _, _ => rfl
 | s :: l, h, hk => by
  obtain ⟨h1, h2, _⟩ := h.tail
  have := hk s (by simp)
  rw [cutS_cons, cutS_id h1 fun x hx => hk x (by simp [hx]), show max s.1 k = s.1 by omega, if_pos h2]
theorem cutS_cut {k m : Int} {l : List Sp} (h : Can l) : cutS m (cutS k l) = cutS (max k m) l := by
 refine can_unique _ _ (cutS_can (cutS_can h)) (cutS_can h) fun n => ?_
 rw [cutS_has, cutS_has, cutS_has, ← Bool.and_assoc]
 congr 1
 rw [Bool.eq_iff_iff]
 simp only [Bool.and_eq_true, decide_eq_true_eq]
 omega
theorem gap_low {l : List Sp} (h : Can l) (hi : Int) : Can ((l.filter fun s => decide (s.1 < hi)).map fun s => (s.1, min s.2 hi)) ∧ ∀ m, hasS ((l.filter fun s => decide (s.1 < hi)).map fun s => (s.1, min s.2 hi)) m = (decide (m < hi) && hasS l m) := by
 constructor
 ·constructor
  ·rw [List.pairwise_map]
   exact (h.1.filter _).imp fun {a b} hab => by dsimp only; omega
  ·intro s hs
   obtain ⟨y, hy, rfl⟩ := List.mem_map.1 hs
   obtain ⟨h1, h2⟩ := List.mem_filter.1 hy
   have := h.2 y h1
   simp only [decide_eq_true_eq] at h2
   dsimp only; omega
 ·intro m
  rw [Bool.eq_iff_iff]
  simp only [hasS_iff, Bool.and_eq_true, decide_eq_true_eq]
  constructor
  ·rintro ⟨s, hs, h1, h2⟩
   obtain ⟨y, hy, rfl⟩ := List.mem_map.1 hs
   obtain ⟨h3, h4⟩ := List.mem_filter.1 hy
   dsimp only at h1 h2
   exact ⟨by omega, y, h3, h1, by omega⟩
  ·rintro ⟨h1, y, hy, h2, h3⟩
   exact ⟨(y.1, min y.2 hi), List.mem_map.2 ⟨y, List.mem_filter.2 ⟨hy, by simp; omega⟩, rfl⟩, h2, by dsimp only; omega⟩
def gapR (lo hi : Int) (l : List Sp) : List Sp := gapsS hi lo ((cutS lo l).filter (fun s => decide (s.1 < hi)) |>.map fun s => (s.1, min s.2 hi))
theorem gapR_spec {lo hi : Int} {l : List Sp} (h : Can l) : Can (gapR lo hi l) ∧ ∀ m, hasS (gapR lo hi l) m = (decide (lo ≤ m ∧ m < hi) && !hasS l m) := by
 obtain ⟨h1, h2⟩ := gap_low (cutS_can (k := lo) h) hi
 obtain ⟨h3, h4, _⟩ := gapsS_spec hi _ lo h1 (fun s hs => by
  obtain ⟨y, hy, rfl⟩ := List.mem_map.1 hs
  have := cutS_low y (List.mem_filter.1 hy).1
  dsimp only; omega)
 refine ⟨h3, fun m => ?_⟩
 unfold gapR
 rw [h4, h2, cutS_has, Bool.eq_iff_iff]
 simp only [Bool.and_eq_true, decide_eq_true_eq, Bool.not_eq_true', Bool.and_eq_false_iff, decide_eq_false_iff_not]
 constructor
 ·rintro ⟨h5, h6 | h6 | h6⟩
  ·omega
  ·omega
  ·exact ⟨h5, h6⟩
 ·rintro ⟨h5, h6⟩
  exact ⟨h5, .inr (.inr h6)⟩
theorem gapR_unique {lo hi : Int} {l k : List Sp} (h : Can l) (hk : Can k) (h' : ∀ m, hasS k m = (decide (lo ≤ m ∧ m < hi) && !hasS l m)) : k = gapR lo hi l :=
 can_unique _ _ hk (gapR_spec h).1 fun m => by rw [h', (gapR_spec h).2]
theorem gapR_none {lo hi : Int} {l : List Sp} (h : Can l) (hh : hi ≤ lo) : gapR lo hi l = [] := by
 refine (gapR_unique h ⟨by simp, by simp⟩ fun m => ?_).symm
 rw [hasS_nil, show decide (lo ≤ m ∧ m < hi) = false by simp; omega, Bool.false_and]
theorem gapR_all {lo hi : Int} {l : List Sp} (h : Can l) (hh : lo < hi) (hl : ∀ x ∈ cutS lo l, hi ≤ x.1) : gapR lo hi l = [(lo, hi)] := by
 refine (gapR_unique h ⟨by simp, by simpa using hh⟩ fun m => ?_).symm
 rw [hasS_cons, hasS_nil, Bool.or_false, Bool.eq_iff_iff]
 simp only [inS_iff, Bool.and_eq_true, decide_eq_true_eq, Bool.not_eq_true']
 constructor
 ·intro hm
  refine ⟨hm, ?_⟩
  have h1 := cutS_has (k := lo) m l
  rw [show decide (lo ≤ m) = true by simp; omega, Bool.true_and] at h1
  rw [← h1, Bool.eq_false_iff]
  intro hc
  obtain ⟨s, hs, h2, _⟩ := hasS_iff.1 hc
  have := hl s hs; omega
 ·exact fun hm => hm.1
theorem gapR_first {lo hi : Int} {l l' : List Sp} {x : Sp} (h : Can l) (hc : cutS lo l = x :: l') (hx : x.1 < hi) : gapR lo hi l = (if lo < x.1 then [(lo, x.1)] else []) ++ gapR x.2 hi (x :: l') := by
 have hcan : Can (x :: l') := by rw [← hc]; exact cutS_can h
 obtain ⟨c1, c2, c3⟩ := hcan.tail
 obtain ⟨g1, g2⟩ := gapR_spec (lo := x.2) (hi := hi) hcan
 have hlow : lo ≤ x.1 := cutS_low x (by rw [hc]; simp)
 have hlo : ∀ s ∈ gapR x.2 hi (x :: l'), x.2 ≤ s.1 := fun s hs => by
  have := g2 s.1
  rw [hasS_iff.2 ⟨s, hs, Int.le_refl _, g1.2 s hs⟩] at this
  simp only [Bool.true_eq, Bool.and_eq_true, decide_eq_true_eq] at this
  exact this.1.1
 refine (gapR_unique h ?_ fun m => ?_).symm
 ·split
  ·rename_i hl
   refine ⟨List.pairwise_cons.2 ⟨fun s hs => ?_, g1.1⟩, fun s hs => ?_⟩
   ·have := hlo s hs; dsimp only; omega
   ·rcases List.mem_cons.1 hs with rfl | hs
    ·exact hl
    ·exact g1.2 s hs
  ·simpa using g1
 ·have hm0 : lo ≤ m → hasS l m = hasS (x :: l') m := fun hm => by
   rw [← hc, cutS_has, show decide (lo ≤ m) = true by simpa using hm, Bool.true_and]
  rw [hasS_app, g2, Bool.eq_iff_iff]
  simp only [Bool.or_eq_true, Bool.and_eq_true, decide_eq_true_eq, Bool.not_eq_true']
  constructor
  ·rintro (h1 | ⟨h1, h2⟩)
   ·split at h1
    ·simp only [hasS_cons, hasS_nil, Bool.or_false, inS_iff] at h1
     refine ⟨by omega, ?_⟩
     rw [hm0 h1.1]
     rw [hasS_cons, show inS x m = false by rw [Bool.eq_false_iff]; intro hi; rw [inS_iff] at hi; omega, Bool.false_or]
     exact can_no c3 (by omega)
    ·cases h1
   ·refine ⟨by omega, ?_⟩
    rw [hm0 (by omega)]; exact h2
  ·rintro ⟨h1, h2⟩
   rw [hm0 h1.1] at h2
   by_cases hmx : m < x.1
   ·left
    rw [if_pos (by omega)]
    simp only [hasS_cons, hasS_nil, Bool.or_false, inS_iff]
    exact ⟨h1.1, hmx⟩
   ·right
    refine ⟨⟨?_, h1.2⟩, h2⟩
    rw [hasS_cons, Bool.or_eq_false_iff] at h2
    have := h2.1
    rw [Bool.eq_false_iff] at this
    have h3 : ¬ (x.1 ≤ m ∧ m < x.2) := fun h => this (inS_iff.2 h)
    omega
end Go.Vi

/-
 XG2: streams of spans, as states that are looked at and skipped: of a row; of the gaps of another one. Own work, no program.
-/
namespace Go.Vi
structure Stm (α : Type) where
 pk : α → α
 sk : Int → α → α
 nx : α → α
 rem : α → List Sp
 ans : α → Option Sp
 ok : α → Prop
 can : ∀ s, ok s → Can (rem s)
 pk_ok : ∀ s, ok s → ok (pk s) ∧ rem (pk s) = rem s ∧ ans (pk s) = (rem s).head?
 sk_ok : ∀ s m, ok s → ok (sk m s) ∧ rem (sk m s) = cutS m (rem s)
 nx_ok : ∀ s, ok s → ok (nx s) ∧ rem (nx s) = (rem s).tail
structure Hd where
 h : Sp
 has : Bool
 k : Int
def Hd.l (d : Hd) : List Sp := if d.has then [d.h] else []
def Hd.ok (d : Hd) (l : List Sp) : Prop := d.has = true → d.h.1 < d.h.2 ∧ d.k ≤ d.h.1 ∧ ∀ x ∈ l, d.h.2 < x.1
def Hd.take (d : Hd) (x : Sp) : Hd := ⟨(max x.1 d.k, x.2), decide (max x.1 d.k < x.2), d.k⟩
def Hd.skip (d : Hd) (m : Int) : Hd := if m ≤ d.k then d else ⟨if d.has then (max d.h.1 m, d.h.2) else d.h, d.has && decide (max d.h.1 m < d.h.2), m⟩
def Hd.rem (d : Hd) (l : List Sp) : List Sp := d.l ++ cutS d.k l
theorem Hd.can {d : Hd} {l : List Sp} (hl : Can l) (hd : d.ok l) : Can (d.rem l) := by
 unfold Hd.rem Hd.l
 cases h : d.has
 ·simpa using cutS_can hl
 ·obtain ⟨h1, h2, h3⟩ := hd h
  have hc := cutS_can (k := d.k) hl
  simp only [if_true, List.singleton_append]
  refine ⟨List.pairwise_cons.2 ⟨fun x hx => ?_, hc.1⟩, fun x hx => ?_⟩
  ·obtain ⟨y, hy, rfl, _⟩ := cutS_mem hx
   have := h3 y hy
   dsimp only; omega
  ·rcases List.mem_cons.1 hx with rfl | hx
   ·exact h1
   ·exact hc.2 x hx
theorem Hd.low {d : Hd} {l : List Sp} (hd : d.ok l) : ∀ x ∈ d.rem l, d.k ≤ x.1 := fun x hx => by
 unfold Hd.rem Hd.l at hx
 cases h : d.has
 ·rw [h] at hx; exact cutS_low x (by simpa using hx)
 ·rw [h] at hx
  simp only [if_true, List.singleton_append, List.mem_cons] at hx
  rcases hx with rfl | hx
  ·exact (hd h).2.1
  ·exact cutS_low x hx
theorem Hd.skip_ok {d : Hd} {l : List Sp} (hl : Can l) (hd : d.ok l) (m : Int) : (d.skip m).ok l ∧ (d.skip m).rem l = cutS m (d.rem l) := by
 unfold Hd.skip
 by_cases hm : m ≤ d.k
 ·rw [if_pos hm]
  exact ⟨hd, (cutS_id (Hd.can hl hd) fun x hx => by have := Hd.low hd x hx; omega).symm⟩
 ·rw [if_neg hm]
  have hcc := cutS_cut (k := d.k) (m := m) hl
  rw [show max d.k m = m by omega] at hcc
  cases h : d.has
  ·refine ⟨fun h' => by simp at h', ?_⟩
   unfold Hd.rem Hd.l
   simp only [Bool.false_and, h]
   simpa using hcc.symm
  ·obtain ⟨h1, h2, h3⟩ := hd h
   refine ⟨fun h' => ?_, ?_⟩
   ·simp only [Bool.true_and, decide_eq_true_eq] at h'
    simp only [if_true]
    exact ⟨h', by omega, fun x hx => h3 x hx⟩
   ·unfold Hd.rem Hd.l
    simp only [Bool.true_and, h, if_true, List.singleton_append, decide_eq_true_eq]
    rw [cutS_cons, hcc]
    split <;> rfl
theorem Hd.take_ok {d : Hd} {x : Sp} {l : List Sp} (h0 : d.has = false) (hl : Can (x :: l)) : (d.take x).ok l ∧ (d.take x).rem l = d.rem (x :: l) := by
 obtain ⟨h1, h2, h3⟩ := hl.tail
 refine ⟨fun h => ?_, ?_⟩
 ·simp only [Hd.take, decide_eq_true_eq] at h
  exact ⟨h, by simp only [Hd.take]; omega, h3⟩
 ·unfold Hd.rem Hd.l
  rw [h0, cutS_cons]
  simp only [Hd.take, decide_eq_true_eq]
  split <;> simp
theorem Hd.drop_ok {d : Hd} {l : List Sp} (h0 : d.has = true) : ({ d with has := false } : Hd).ok l ∧ ({ d with has := false } : Hd).rem l = (d.rem l).tail := by
 refine ⟨fun h => by simp at h, ?_⟩
 unfold Hd.rem Hd.l
 rw [h0]; simp
structure RS where
 l : List Sp
 d : Hd
def pkL : List Sp → Hd → RS
 | [], d => ⟨[], d⟩
 | x :: l, d => if (d.take x).has = true then ⟨l, d.take x⟩ else pkL l (d.take x)
def RS.pk (s : RS) : RS := if s.d.has then s else pkL s.l s.d
def RS.ok (s : RS) : Prop := Can s.l ∧ s.d.ok s.l
theorem pkL_ok : ∀ (l : List Sp) (d : Hd), d.has = false → Can l → (pkL l d).ok ∧ (pkL l d).d.rem (pkL l d).l = d.rem l ∧ (pkL l d).d.k = d.k ∧ ((pkL l d).d.has = false → (pkL l d).l = [] ∧ d.rem l = [])
 | [], d, h, _ => ⟨⟨⟨by simp [pkL], by simp [pkL]⟩, fun h' => by simp [pkL, h] at h'⟩, rfl, rfl, fun _ => ⟨by first | rfl | trivial, by unfold Hd.rem Hd.l; rw [h]; rfl⟩⟩
 | x :: l, d, h, hl => by
  obtain ⟨t1, t2⟩ := Hd.take_ok (x := x) (l := l) h hl
  unfold pkL
  split
  ·rename_i hc
   exact ⟨⟨hl.tail.1, t1⟩, t2, rfl, fun h' => by dsimp only at h'; rw [hc] at h'; cases h'⟩
  ·rename_i hc
   obtain ⟨a, b, c, e⟩ := pkL_ok l (d.take x) (by simpa using hc) hl.tail.1
   exact ⟨a, b.trans t2, c, fun h' => by rw [← t2]; exact e h'⟩
def rowStm : Stm RS where
 pk := RS.pk
 sk m s := ⟨s.l, s.d.skip m⟩
 nx s := ⟨s.pk.l, { s.pk.d with has := false }⟩
 rem s := s.d.rem s.l
 ans s := if s.d.has then some s.d.h else none
 ok := RS.ok
 can s h := Hd.can h.1 h.2
 pk_ok s h := by
  unfold RS.pk
  cases hh : s.d.has
  ·obtain ⟨a, b, c, e⟩ := pkL_ok s.l s.d hh h.1
   simp only [Bool.false_eq_true, if_false]
   refine ⟨a, b, ?_⟩
   rw [← b]
   cases hp : (pkL s.l s.d).d.has
   ·rw [b, (e hp).2]; rfl
   ·unfold Hd.rem Hd.l; rw [hp]; rfl
  ·simp only [if_true]
   refine ⟨h, by first | rfl | trivial, ?_⟩
   rw [hh]
   unfold Hd.rem Hd.l; rw [hh]; rfl
 sk_ok s m h := by
  obtain ⟨a, b⟩ := Hd.skip_ok h.1 h.2 m
  exact ⟨⟨h.1, a⟩, b⟩
 nx_ok s h := by
  unfold RS.pk
  cases hh : s.d.has
  ·obtain ⟨a, b, c, e⟩ := pkL_ok s.l s.d hh h.1
   simp only [Bool.false_eq_true, if_false]
   rw [← b]
   cases hp : (pkL s.l s.d).d.has
   ·refine ⟨⟨a.1, fun h' => by simp at h'⟩, ?_⟩
    rw [b, (e hp).2]
    unfold Hd.rem Hd.l
    rw [(e hp).1]; rfl
   ·obtain ⟨x, y⟩ := Hd.drop_ok (l := (pkL s.l s.d).l) hp
    exact ⟨⟨a.1, x⟩, y⟩
  ·simp only [if_true]
   obtain ⟨x, y⟩ := Hd.drop_ok (l := s.l) hh
   exact ⟨⟨h.1, x⟩, y⟩
end Go.Vi

/-
 XG3: the stream of the gaps of another one, as states that are looked at and skipped. Own work, no program.
-/
namespace Go.Vi
section
variable {α : Type} (S : Stm α)
def gnx : Nat → Int → Int → α → Option Sp × Int × α
 | 0, a, _, t => (none, a, t)
 | n + 1, a, b, t => if a < b then (match S.ans (S.pk (S.sk a t)) with
   | none => (some (a, b), b, S.pk (S.sk a t))
   | some x => if b ≤ x.1 then (some (a, b), b, S.pk (S.sk a t)) else if a < x.1 then (some (a, x.1), x.2, S.pk (S.sk a t)) else gnx n x.2 b (S.pk (S.sk a t)))
  else (none, a, t)
theorem cutS_len (k : Int) (l : List Sp) : (cutS k l).length ≤ l.length := by
 unfold cutS
 refine Nat.le_trans (List.length_filter_le _ _) (by simp)
theorem gnx_ok (b : Int) : ∀ (n : Nat) (a : Int) (t : α), S.ok t → (cutS a (S.rem t)).length < n →
  S.ok (gnx S n a b t).2.2 ∧ gapR a b (S.rem t) = (gnx S n a b t).1.toList ++ gapR (gnx S n a b t).2.1 b (S.rem (gnx S n a b t).2.2) ∧ ((gnx S n a b t).1 = none → b ≤ (gnx S n a b t).2.1)
 | 0, a, t, _, h => by omega
 | n + 1, a, t, ho, hn => by
  unfold gnx
  by_cases hab : a < b
  case neg =>
   rw [if_neg hab]
   exact ⟨ho, rfl, fun _ => by dsimp only; omega⟩
  rw [if_pos hab]
  obtain ⟨s1, s2⟩ := S.sk_ok t a ho
  obtain ⟨p1, p2, p3⟩ := S.pk_ok _ s1
  have hc := S.can t ho
  rw [s2] at p2 p3
  cases hl : cutS a (S.rem t) with
  | nil =>
   rw [hl] at p2 p3
   rw [p3]
   have hg := gapR_all hc hab (fun x hx => by rw [hl] at hx; cases hx)
   refine ⟨p1, ?_, fun h => by cases h⟩
   dsimp only [List.head?_nil]
   rw [hg, gapR_none (S.can _ p1) (Int.le_refl _)]
   rfl
  | cons x l' =>
   rw [hl] at p2 p3
   rw [p3]
   dsimp only [List.head?_cons]
   have hcx := cutS_can (k := a) hc
   rw [hl] at hcx
   by_cases hbx : b ≤ x.1
   ·rw [if_pos hbx]
    have hg := gapR_all hc hab (fun y hy => by
     rw [hl] at hy
     rcases List.mem_cons.1 hy with rfl | hy
     ·exact hbx
     ·have := hcx.tail.2.2 y hy
      have := hcx.tail.2.1
      omega)
    refine ⟨p1, ?_, fun h => by cases h⟩
    rw [hg, gapR_none (S.can _ p1) (Int.le_refl _)]
    rfl
   ·rw [if_neg hbx]
    have hg := gapR_first hc hl (show x.1 < b by omega)
    by_cases hax : a < x.1
    ·rw [if_pos hax] at hg ⊢
     refine ⟨p1, ?_, fun h => by cases h⟩
     rw [hg, p2]
     rfl
    ·rw [if_neg hax] at hg ⊢
     have hlen : (cutS x.2 (S.rem (S.pk (S.sk a t)))).length < n := by
      rw [p2, cutS_cons, if_neg (show ¬ (max x.1 x.2 < x.2) by omega)]
      have := cutS_len x.2 l'
      rw [hl, List.length_cons] at hn
      omega
     obtain ⟨a1, a2, a3⟩ := gnx_ok b n x.2 (S.pk (S.sk a t)) p1 hlen
     refine ⟨a1, ?_, a3⟩
     rw [hg, ← a2, p2]
     rfl
structure GS (α : Type) where
 a : Int
 b : Int
 t : α
 d : Hd
def GS.l (g : GS α) : List Sp := gapR g.a g.b (S.rem g.t)
def GS.nx0 (g : GS α) : Option Sp × Int × α := gnx S ((S.rem g.t).length + 1) g.a g.b g.t
def gpk : Nat → GS α → GS α
 | 0, g => g
 | n + 1, g => if g.d.has then g else (match (g.nx0 S).1 with
   | none => ⟨(g.nx0 S).2.1, g.b, (g.nx0 S).2.2, g.d⟩
   | some x => gpk n ⟨(g.nx0 S).2.1, g.b, (g.nx0 S).2.2, g.d.take x⟩)
def GS.ok (g : GS α) : Prop := S.ok g.t ∧ g.d.ok (g.l S)
theorem nx0_ok {g : GS α} (h : S.ok g.t) : S.ok (g.nx0 S).2.2 ∧ g.l S = (g.nx0 S).1.toList ++ gapR (g.nx0 S).2.1 g.b (S.rem (g.nx0 S).2.2) ∧ ((g.nx0 S).1 = none → g.l S = []) := by
 obtain ⟨a1, a2, a3⟩ := gnx_ok S g.b ((S.rem g.t).length + 1) g.a g.t h (by have := cutS_len g.a (S.rem g.t); omega)
 refine ⟨a1, a2, fun h' => ?_⟩
 have h1 := a3 h'
 show gapR g.a g.b (S.rem g.t) = []
 rw [a2]
 have h2 : (gnx S ((S.rem g.t).length + 1) g.a g.b g.t).1 = none := h'
 rw [h2, gapR_none (S.can _ a1) h1]
 rfl
theorem gpk_ok : ∀ (n : Nat) (g : GS α), g.ok S → (g.d.has = false → (g.l S).length < n) → 0 < n →
  (gpk S n g).ok S ∧ (gpk S n g).d.rem ((gpk S n g).l S) = g.d.rem (g.l S) ∧ ((gpk S n g).d.has = false → g.d.rem (g.l S) = [])
 | 0, g, _, _, h => by omega
 | n + 1, g, ho, hn, _ => by
  unfold gpk
  cases hh : g.d.has
  case true =>
   simp only [if_true]
   exact ⟨ho, by first | rfl | trivial, fun h => by rw [hh] at h; cases h⟩
  simp only [Bool.false_eq_true, if_false]
  obtain ⟨o1, o2⟩ := ho
  obtain ⟨a1, a2, a3⟩ := nx0_ok S o1
  cases hx : (g.nx0 S).1 with
  | none =>
   have e := a3 hx
   rw [hx] at a2
   have e2 : gapR (g.nx0 S).2.1 g.b (S.rem (g.nx0 S).2.2) = [] := by rw [e] at a2; simpa using a2.symm
   dsimp only
   refine ⟨⟨a1, fun h => by dsimp only at h; rw [hh] at h; cases h⟩, ?_, fun _ => ?_⟩
   ·show g.d.rem (gapR (g.nx0 S).2.1 g.b (S.rem (g.nx0 S).2.2)) = _
    rw [e2, e]
   ·rw [e]; unfold Hd.rem Hd.l; rw [hh]; rfl
  | some x =>
   rw [hx] at a2
   dsimp only
   have hc : Can (x :: gapR (g.nx0 S).2.1 g.b (S.rem (g.nx0 S).2.2)) := by
    have := (gapR_spec (lo := g.a) (hi := g.b) (S.can _ o1)).1
    have e : gapR g.a g.b (S.rem g.t) = _ := a2
    rw [e] at this
    exact this
   obtain ⟨t1, t2⟩ := Hd.take_ok (x := x) hh hc
   have el : g.l S = x :: gapR (g.nx0 S).2.1 g.b (S.rem (g.nx0 S).2.2) := a2
   have hn' := hn hh
   rw [el, List.length_cons] at hn'
   obtain ⟨b1, b2, b3⟩ := gpk_ok n ⟨(g.nx0 S).2.1, g.b, (g.nx0 S).2.2, g.d.take x⟩ ⟨a1, t1⟩ (fun _ => by show (gapR (g.nx0 S).2.1 g.b (S.rem (g.nx0 S).2.2)).length < n; omega) (by omega)
   refine ⟨b1, ?_, fun h => ?_⟩
   ·rw [b2, el]; exact t2
   ·rw [el, ← t2]; exact b3 h
def GS.pk (g : GS α) : GS α := gpk S ((g.l S).length + 1) g
def gapStm : Stm (GS α) where
 pk := GS.pk S
 sk m g := ⟨g.a, g.b, g.t, g.d.skip m⟩
 nx g := ⟨(g.pk S).a, (g.pk S).b, (g.pk S).t, { (g.pk S).d with has := false }⟩
 rem g := g.d.rem (g.l S)
 ans g := if g.d.has then some g.d.h else none
 ok := GS.ok S
 can g h := Hd.can (gapR_spec (S.can _ h.1)).1 h.2
 pk_ok g h := by
  obtain ⟨a, b, c⟩ := gpk_ok S ((g.l S).length + 1) g h (fun _ => Nat.lt_succ_self _) (Nat.succ_pos _)
  refine ⟨a, b, ?_⟩
  rw [← b]
  show (if (gpk S ((g.l S).length + 1) g).d.has = true then some (gpk S ((g.l S).length + 1) g).d.h else none) = _
  cases hp : (gpk S ((g.l S).length + 1) g).d.has
  ·rw [b, c hp]; rfl
  ·unfold Hd.rem Hd.l; rw [hp]; rfl
 sk_ok g m h := by
  obtain ⟨a, b⟩ := Hd.skip_ok (gapR_spec (S.can _ h.1)).1 h.2 m
  exact ⟨⟨h.1, a⟩, b⟩
 nx_ok g h := by
  obtain ⟨a, b, c⟩ := gpk_ok S ((g.l S).length + 1) g h (fun _ => Nat.lt_succ_self _) (Nat.succ_pos _)
  have hgp : g.pk S = gpk S ((g.l S).length + 1) g := rfl
  rw [← hgp] at a b c
  rw [← b]
  cases hp : (g.pk S).d.has
  ·refine ⟨⟨a.1, fun h' => by simp at h'⟩, ?_⟩
   have e := c hp
   rw [← b] at e
   show ({ (g.pk S).d with has := false } : Hd).rem ((g.pk S).l S) = _
   have e3 : ({ (g.pk S).d with has := false } : Hd).rem ((g.pk S).l S) = (g.pk S).d.rem ((g.pk S).l S) := by unfold Hd.rem Hd.l; rw [hp]
   rw [e3, e]; rfl
  ·obtain ⟨x, y⟩ := Hd.drop_ok (l := (g.pk S).l S) hp
   exact ⟨⟨a.1, x⟩, y⟩
end
end Go.Vi
namespace Go.Vi
section
variable {α : Type} (S : Stm α) (P : α → Prop) (hs : ∀ m t, P t → P (S.sk m t)) (hp : ∀ t, P t → P (S.pk t))
include hs hp
theorem gnx_keep (b : Int) : ∀ (n : Nat) (a : Int) (t : α), P t → P (gnx S n a b t).2.2
 | 0, _, _, h => h
 | n + 1, a, t, h => by
  unfold gnx
  have h1 := hp _ (hs a t h)
  split
  ·split
   ·exact h1
   ·split
    ·exact h1
    ·split
     ·exact h1
     ·exact gnx_keep b n _ _ h1
  ·exact h
theorem gpk_keep : ∀ (n : Nat) (g : GS α), P g.t → P (gpk S n g).t
 | 0, _, h => h
 | n + 1, g, h => by
  unfold gpk
  split
  ·exact h
  ·split
   ·exact gnx_keep S P hs hp _ _ _ _ h
   ·exact gpk_keep n _ (gnx_keep S P hs hp _ _ _ _ h)
end
theorem pkL_len : ∀ (l : List Sp) (d : Hd), (pkL l d).l.length ≤ l.length
 | [], d => by simp [pkL]
 | x :: l, d => by
  unfold pkL
  split
  ·simp
  ·have := pkL_len l (d.take x)
   simp only [List.length_cons]; omega
theorem RS.pk_len (s : RS) : s.pk.l.length ≤ s.l.length := by
 unfold RS.pk
 split
 ·exact Nat.le_refl _
 ·exact pkL_len _ _
end Go.Vi

/-
 XG4: the stream of what two others have in common, as states that are looked at and skipped. Own work, no program.
-/
namespace Go.Vi
theorem meet_can {l k : List Sp} (hl : Can l) (hk : Can k) : Can (meetS l k) ∧ ∀ m, hasS (meetS l k) m = (hasS l m && hasS k m) :=
 let h := meetS_spec (l.length + k.length) l k (Nat.le_refl _) hl hk
 ⟨h.1, h.2.1⟩
theorem meet_unique {l k r : List Sp} (hl : Can l) (hk : Can k) (hr : Can r) (h : ∀ m, hasS r m = (hasS l m && hasS k m)) : meetS l k = r :=
 can_unique _ _ (meet_can hl hk).1 hr fun m => by rw [(meet_can hl hk).2, h]
theorem has_low {l : List Sp} {x : Sp} (hc : Can (x :: l)) {m : Int} (h : hasS (x :: l) m = true) : x.1 ≤ m := by
 obtain ⟨s, hs, h1, h2⟩ := hasS_iff.1 h
 rcases List.mem_cons.1 hs with rfl | hs
 ·exact h1
 ·have := hc.tail.2.2 s hs
  have := hc.tail.2.1
  omega
theorem has_first {l : List Sp} {x : Sp} (hc : Can (x :: l)) {m : Int} (hm : m ≤ x.2) : hasS (x :: l) m = inS x m := by
 rw [hasS_cons, can_no hc.tail.2.2 hm, Bool.or_false]
theorem meet_hit {l k : List Sp} {x y : Sp} (hl : Can (x :: l)) (hk : Can (y :: k)) (hz : max x.1 y.1 < min x.2 y.2) :
  meetS (x :: l) (y :: k) = (max x.1 y.1, min x.2 y.2) :: meetS (cutS (min x.2 y.2) (x :: l)) (cutS (min x.2 y.2) (y :: k)) := by
 obtain ⟨c1, c2⟩ := meet_can (cutS_can (k := min x.2 y.2) hl) (cutS_can (k := min x.2 y.2) hk)
 have hlow : ∀ s ∈ meetS (cutS (min x.2 y.2) (x :: l)) (cutS (min x.2 y.2) (y :: k)), min x.2 y.2 < s.1 := fun s hs => by
  have h1 := c2 s.1
  rw [hasS_iff.2 ⟨s, hs, Int.le_refl _, c1.2 s hs⟩, cutS_has, cutS_has] at h1
  simp only [Bool.true_eq, Bool.and_eq_true, decide_eq_true_eq] at h1
  obtain ⟨⟨h2, h3⟩, _, h4⟩ := h1
  rcases Int.lt_or_le (min x.2 y.2) s.1 with h | h
  ·exact h
  ·have e : s.1 = min x.2 y.2 := by omega
   rw [e, has_first hl (by omega), inS_iff] at h3
   rw [e, has_first hk (by omega), inS_iff] at h4
   omega
 refine meet_unique hl hk ⟨List.pairwise_cons.2 ⟨fun s hs => hlow s hs, c1.1⟩, fun s hs => ?_⟩ fun m => ?_
 ·rcases List.mem_cons.1 hs with rfl | hs
  ·exact hz
  ·exact c1.2 s hs
 ·rw [hasS_cons, c2, cutS_has, cutS_has, Bool.eq_iff_iff]
  simp only [Bool.or_eq_true, Bool.and_eq_true, decide_eq_true_eq, inS_iff]
  constructor
  ·rintro (⟨h1, h2⟩ | ⟨⟨_, h2⟩, _, h3⟩)
   ·rw [has_first hl (by omega), has_first hk (by omega), inS_iff, inS_iff]
    omega
   ·exact ⟨h2, h3⟩
  ·rintro ⟨h1, h2⟩
   by_cases hm : m < min x.2 y.2
   ·left
    have := has_low hl h1
    have := has_low hk h2
    exact ⟨by omega, hm⟩
   ·exact .inr ⟨⟨by omega, h1⟩, by omega, h2⟩
theorem meet_miss {l k : List Sp} {x y : Sp} (hl : Can (x :: l)) (hk : Can (y :: k)) : meetS (cutS (max x.1 y.1) (x :: l)) (cutS (max x.1 y.1) (y :: k)) = meetS (x :: l) (y :: k) := by
 refine meet_unique (cutS_can hl) (cutS_can hk) (meet_can hl hk).1 fun m => ?_
 rw [(meet_can hl hk).2, cutS_has, cutS_has, Bool.eq_iff_iff]
 simp only [Bool.and_eq_true, decide_eq_true_eq]
 constructor
 ·rintro ⟨h1, h2⟩
  have := has_low hl h1
  have := has_low hk h2
  exact ⟨⟨by omega, h1⟩, by omega, h2⟩
 ·rintro ⟨⟨_, h1⟩, _, h2⟩
  exact ⟨h1, h2⟩
theorem meetS_none (l : List Sp) : meetS [] l = [] := by unfold meetS; rfl
section
variable {α β : Type} (S : Stm α) (T : Stm β)
def mnx : Nat → α → β → Option Sp × α × β
 | 0, s, t => (none, s, t)
 | n + 1, s, t => match S.ans (S.pk s) with
  | none => (none, S.pk s, t)
  | some x => match T.ans (T.pk t) with
   | none => (none, S.pk s, T.pk t)
   | some y => if max x.1 y.1 < min x.2 y.2 then (some (max x.1 y.1, min x.2 y.2), S.sk (min x.2 y.2) (S.pk s), T.sk (min x.2 y.2) (T.pk t))
    else mnx n (S.sk (max x.1 y.1) (S.pk s)) (T.sk (max x.1 y.1) (T.pk t))
def meetL (s : α) (t : β) : List Sp := meetS (S.rem s) (T.rem t)
theorem mnx_ok : ∀ (n : Nat) (s : α) (t : β), S.ok s → T.ok t → (S.rem s).length + (T.rem t).length < n →
  S.ok (mnx S T n s t).2.1 ∧ T.ok (mnx S T n s t).2.2 ∧ meetL S T s t = (mnx S T n s t).1.toList ++ meetL S T (mnx S T n s t).2.1 (mnx S T n s t).2.2 ∧ ((mnx S T n s t).1 = none → meetL S T s t = [])
 | 0, s, t, _, _, h => by omega
 | n + 1, s, t, ho, ho', hn => by
  unfold mnx
  obtain ⟨p1, p2, p3⟩ := S.pk_ok s ho
  obtain ⟨q1, q2, q3⟩ := T.pk_ok t ho'
  have hc := S.can s ho
  have hk := T.can t ho'
  rw [p3]
  cases hl : S.rem s with
  | nil =>
   dsimp only [List.head?_nil]
   have e : meetL S T s t = [] := by unfold meetL; rw [hl]; exact meetS_none _
   refine ⟨p1, ho', ?_, fun _ => e⟩
   rw [e]
   unfold meetL
   rw [p2, hl, meetS_none]; rfl
  | cons x l =>
   dsimp only [List.head?_cons]
   rw [q3]
   cases hl' : T.rem t with
   | nil =>
    dsimp only [List.head?_nil]
    have e : meetL S T s t = [] := by unfold meetL; rw [hl']; exact meetS_nil _
    refine ⟨p1, q1, ?_, fun _ => e⟩
    rw [e]
    unfold meetL
    rw [q2, hl', meetS_nil]; rfl
   | cons y k =>
    dsimp only [List.head?_cons]
    rw [hl] at p2 hc
    rw [hl'] at q2 hk
    by_cases hz : max x.1 y.1 < min x.2 y.2
    ·rw [if_pos hz]
     obtain ⟨a1, a2⟩ := S.sk_ok _ (min x.2 y.2) p1
     obtain ⟨b1, b2⟩ := T.sk_ok _ (min x.2 y.2) q1
     refine ⟨a1, b1, ?_, fun h => by cases h⟩
     unfold meetL
     dsimp only
     rw [a2, b2, p2, q2, hl, hl', meet_hit hc hk hz]
     rfl
    ·rw [if_neg hz]
     obtain ⟨a1, a2⟩ := S.sk_ok _ (max x.1 y.1) p1
     obtain ⟨b1, b2⟩ := T.sk_ok _ (max x.1 y.1) q1
     rw [p2] at a2
     rw [q2] at b2
     have hx := hc.tail.2.1
     have hy := hk.tail.2.1
     have hlen : (S.rem (S.sk (max x.1 y.1) (S.pk s))).length + (T.rem (T.sk (max x.1 y.1) (T.pk t))).length < n := by
      rw [a2, b2]
      rw [hl, hl'] at hn
      have e1 := cutS_len (max x.1 y.1) (x :: l)
      have e2 := cutS_len (max x.1 y.1) (y :: k)
      have e3 := cutS_len (max x.1 y.1) l
      have e4 := cutS_len (max x.1 y.1) k
      simp only [List.length_cons] at hn e1 e2
      by_cases hxy : x.2 ≤ y.1
      ·rw [cutS_cons, if_neg (show ¬ (max x.1 (max x.1 y.1) < x.2) by omega)]
       omega
      ·rw [cutS_cons (s := y), if_neg (show ¬ (max y.1 (max x.1 y.1) < y.2) by omega)]
       omega
     obtain ⟨r1, r2, r3, r4⟩ := mnx_ok n _ _ a1 b1 hlen
     have em : meetL S T s t = meetL S T (S.sk (max x.1 y.1) (S.pk s)) (T.sk (max x.1 y.1) (T.pk t)) := by
      unfold meetL
      rw [a2, b2, hl, hl', meet_miss hc hk]
     exact ⟨r1, r2, by rw [em]; exact r3, fun h => by rw [em]; exact r4 h⟩
end
end Go.Vi

/-
 XG5: the gaps of the gaps of a row in a window are what it has in that window. Own work, no program.
-/
namespace Go.Vi
theorem gaps_gaps {a b : Int} {l : List Sp} (h : Can l) : gapR a b (gapR a b l) = meetS l (if a < b then [(a, b)] else []) := by
 obtain ⟨g1, g2⟩ := gapR_spec (lo := a) (hi := b) h
 obtain ⟨g3, g4⟩ := gapR_spec (lo := a) (hi := b) g1
 have hw : Can (if a < b then [(a, b)] else []) ∧ ∀ m, hasS (if a < b then [(a, b)] else []) m = decide (a ≤ m ∧ m < b) := by
  split
  ·rename_i hc
   refine ⟨⟨by simp, by simpa using hc⟩, fun m => ?_⟩
   rw [hasS_cons, hasS_nil, Bool.or_false, Bool.eq_iff_iff, inS_iff]
   simp
  ·refine ⟨⟨by simp, by simp⟩, fun m => ?_⟩
   rw [hasS_nil, Bool.eq_iff_iff]
   simp; omega
 refine (meet_unique h hw.1 g3 fun m => ?_).symm
 rw [g4, g2, hw.2]
 cases decide (a ≤ m ∧ m < b) <;> cases hasS l m <;> rfl
end Go.Vi

/-
 XG6: the stream of what two others have in common; all that is left of a stream. Own work, no program.
-/
namespace Go.Vi
theorem meet_less {l k : List Sp} {x y : Sp} {n : Nat} (hc : Can (x :: l)) (hk : Can (y :: k)) (hz : ¬ max x.1 y.1 < min x.2 y.2) (hn : l.length + 1 + (k.length + 1) < n + 1) :
  (cutS (max x.1 y.1) (x :: l)).length + (cutS (max x.1 y.1) (y :: k)).length < n := by
 have hx := hc.tail.2.1
 have hy := hk.tail.2.1
 have e1 := cutS_len (max x.1 y.1) (x :: l)
 have e2 := cutS_len (max x.1 y.1) (y :: k)
 have e3 := cutS_len (max x.1 y.1) l
 have e4 := cutS_len (max x.1 y.1) k
 simp only [List.length_cons] at e1 e2
 by_cases hxy : x.2 ≤ y.1
 ·rw [cutS_cons, if_neg (show ¬ (max x.1 (max x.1 y.1) < x.2) by omega)]
  omega
 ·rw [cutS_cons (s := y), if_neg (show ¬ (max y.1 (max x.1 y.1) < y.2) by omega)]
  omega
section
variable {α β : Type} (S : Stm α) (T : Stm β)
structure MS (α β : Type) where
 s : α
 t : β
 d : Hd
def MS.l (g : MS α β) : List Sp := meetL S T g.s g.t
def MS.nx0 (g : MS α β) : Option Sp × α × β := mnx S T ((S.rem g.s).length + (T.rem g.t).length + 1) g.s g.t
def mpk : Nat → MS α β → MS α β
 | 0, g => g
 | n + 1, g => if g.d.has then g else (match (g.nx0 S T).1 with
   | none => ⟨(g.nx0 S T).2.1, (g.nx0 S T).2.2, g.d⟩
   | some x => mpk n ⟨(g.nx0 S T).2.1, (g.nx0 S T).2.2, g.d.take x⟩)
def MS.ok (g : MS α β) : Prop := (S.ok g.s ∧ T.ok g.t) ∧ g.d.ok (g.l S T)
theorem mx0_ok {g : MS α β} (h : S.ok g.s) (h' : T.ok g.t) : (S.ok (g.nx0 S T).2.1 ∧ T.ok (g.nx0 S T).2.2) ∧ g.l S T = (g.nx0 S T).1.toList ++ meetL S T (g.nx0 S T).2.1 (g.nx0 S T).2.2 ∧ ((g.nx0 S T).1 = none → g.l S T = []) := by
 obtain ⟨a1, a2, a3, a4⟩ := mnx_ok S T ((S.rem g.s).length + (T.rem g.t).length + 1) g.s g.t h h' (Nat.lt_succ_self _)
 exact ⟨⟨a1, a2⟩, a3, a4⟩
theorem mpk_ok : ∀ (n : Nat) (g : MS α β), g.ok S T → (g.d.has = false → (g.l S T).length < n) → 0 < n →
  (mpk S T n g).ok S T ∧ (mpk S T n g).d.rem ((mpk S T n g).l S T) = g.d.rem (g.l S T) ∧ ((mpk S T n g).d.has = false → g.d.rem (g.l S T) = [])
 | 0, g, _, _, h => by omega
 | n + 1, g, ho, hn, _ => by
  unfold mpk
  cases hh : g.d.has
  case true =>
   simp only [if_true]
   exact ⟨ho, by first | rfl | trivial, fun h => by rw [hh] at h; cases h⟩
  simp only [Bool.false_eq_true, if_false]
  obtain ⟨⟨o1, o1'⟩, o2⟩ := ho
  obtain ⟨a1, a2, a3⟩ := mx0_ok S T o1 o1'
  cases hx : (g.nx0 S T).1 with
  | none =>
   have e := a3 hx
   rw [hx] at a2
   have e2 : meetL S T (g.nx0 S T).2.1 (g.nx0 S T).2.2 = [] := by rw [e] at a2; simpa using a2.symm
   dsimp only
   refine ⟨⟨a1, fun h => by dsimp only at h; rw [hh] at h; cases h⟩, ?_, fun _ => ?_⟩
   ·show g.d.rem (meetL S T (g.nx0 S T).2.1 (g.nx0 S T).2.2) = _
    rw [e2, e]
   ·rw [e]; unfold Hd.rem Hd.l; rw [hh]; rfl
  | some x =>
   rw [hx] at a2
   dsimp only
   have hc : Can (x :: meetL S T (g.nx0 S T).2.1 (g.nx0 S T).2.2) := by
    have := (meet_can (S.can _ o1) (T.can _ o1')).1
    have e : meetS (S.rem g.s) (T.rem g.t) = _ := a2
    rw [e] at this
    exact this
   obtain ⟨t1, t2⟩ := Hd.take_ok (x := x) hh hc
   have el : g.l S T = x :: meetL S T (g.nx0 S T).2.1 (g.nx0 S T).2.2 := a2
   have hn' := hn hh
   rw [el, List.length_cons] at hn'
   obtain ⟨b1, b2, b3⟩ := mpk_ok n ⟨(g.nx0 S T).2.1, (g.nx0 S T).2.2, g.d.take x⟩ ⟨a1, t1⟩ (fun _ => by show (meetL S T (g.nx0 S T).2.1 (g.nx0 S T).2.2).length < n; omega) (by omega)
   refine ⟨b1, ?_, fun h => ?_⟩
   ·rw [b2, el]; exact t2
   ·rw [el, ← t2]; exact b3 h
def MS.pk (g : MS α β) : MS α β := mpk S T ((g.l S T).length + 1) g
def meetStm : Stm (MS α β) where
 pk := MS.pk S T
 sk m g := ⟨g.s, g.t, g.d.skip m⟩
 nx g := ⟨(g.pk S T).s, (g.pk S T).t, { (g.pk S T).d with has := false }⟩
 rem g := g.d.rem (g.l S T)
 ans g := if g.d.has then some g.d.h else none
 ok := MS.ok S T
 can g h := Hd.can (meet_can (S.can _ h.1.1) (T.can _ h.1.2)).1 h.2
 pk_ok g h := by
  obtain ⟨a, b, c⟩ := mpk_ok S T ((g.l S T).length + 1) g h (fun _ => Nat.lt_succ_self _) (Nat.succ_pos _)
  refine ⟨a, b, ?_⟩
  rw [← b]
  show (if (mpk S T ((g.l S T).length + 1) g).d.has = true then some (mpk S T ((g.l S T).length + 1) g).d.h else none) = _
  cases hp : (mpk S T ((g.l S T).length + 1) g).d.has
  ·rw [b, c hp]; rfl
  ·unfold Hd.rem Hd.l; rw [hp]; rfl
 sk_ok g m h := by
  obtain ⟨a, b⟩ := Hd.skip_ok (meet_can (S.can _ h.1.1) (T.can _ h.1.2)).1 h.2 m
  exact ⟨⟨h.1, a⟩, b⟩
 nx_ok g h := by
  obtain ⟨a, b, c⟩ := mpk_ok S T ((g.l S T).length + 1) g h (fun _ => Nat.lt_succ_self _) (Nat.succ_pos _)
  have hgp : g.pk S T = mpk S T ((g.l S T).length + 1) g := rfl
  rw [← hgp] at a b c
  rw [← b]
  cases hp : (g.pk S T).d.has
  ·refine ⟨⟨a.1, fun h' => by simp at h'⟩, ?_⟩
   have e := c hp
   rw [← b] at e
   show ({ (g.pk S T).d with has := false } : Hd).rem ((g.pk S T).l S T) = _
   have e3 : ({ (g.pk S T).d with has := false } : Hd).rem ((g.pk S T).l S T) = (g.pk S T).d.rem ((g.pk S T).l S T) := by unfold Hd.rem Hd.l; rw [hp]
   rw [e3, e]; rfl
  ·obtain ⟨x, y⟩ := Hd.drop_ok (l := (g.pk S T).l S T) hp
   exact ⟨⟨a.1, x⟩, y⟩
end
section
variable {α : Type} (S : Stm α)
def sIt : Nat → α → α
 | 0, s => s
 | n + 1, s => S.nx (sIt n s)
theorem sIt_ok (s : α) (h : S.ok s) : ∀ (n : Nat), S.ok (sIt S n s) ∧ S.rem (sIt S n s) = (S.rem s).drop n
 | 0 => ⟨h, rfl⟩
 | n + 1 => by
  obtain ⟨h1, h2⟩ := sIt_ok s h n
  obtain ⟨h3, h4⟩ := S.nx_ok _ h1
  refine ⟨h3, ?_⟩
  show S.rem (S.nx (sIt S n s)) = _
  rw [h4, h2, List.tail_drop]
end
section
variable {α β : Type} (S : Stm α) (T : Stm β) (P : α → Prop) (Q : β → Prop) (hs : ∀ m t, P t → P (S.sk m t)) (hp : ∀ t, P t → P (S.pk t)) (qs : ∀ m t, Q t → Q (T.sk m t)) (qp : ∀ t, Q t → Q (T.pk t))
include hs hp qs qp
theorem mnx_keep : ∀ (n : Nat) (s : α) (t : β), P s → Q t → P (mnx S T n s t).2.1 ∧ Q (mnx S T n s t).2.2
 | 0, _, _, h, h' => ⟨h, h'⟩
 | n + 1, s, t, h, h' => by
  unfold mnx
  have h1 := hp _ h
  have h2 := qp _ h'
  split
  ·exact ⟨h1, h'⟩
  ·split
   ·exact ⟨h1, h2⟩
   ·split
    ·exact ⟨hs _ _ h1, qs _ _ h2⟩
    ·exact mnx_keep n _ _ (hs _ _ h1) (qs _ _ h2)
theorem mpk_keep : ∀ (n : Nat) (g : MS α β), P g.s → Q g.t → P (mpk S T n g).s ∧ Q (mpk S T n g).t
 | 0, _, h, h' => ⟨h, h'⟩
 | n + 1, g, h, h' => by
  unfold mpk
  have hk := mnx_keep S T P Q hs hp qs qp ((S.rem g.s).length + (T.rem g.t).length + 1) g.s g.t h h'
  split
  ·exact ⟨h, h'⟩
  ·split
   ·exact hk
   ·exact mpk_keep n _ hk.1 hk.2
end
theorem gapsS_len (hi : Int) : ∀ (l : List Sp) (a : Int), (gapsS hi a l).length ≤ l.length + 1
 | [], a => by unfold gapsS; split <;> simp
 | s :: l, a => by
  have := gapsS_len hi l s.2
  unfold gapsS
  split <;> (simp only [List.length_cons, List.length_append, List.length_nil]; omega)
theorem gapR_len (lo hi : Int) (l : List Sp) : (gapR lo hi l).length ≤ l.length + 1 := by
 unfold gapR
 refine Nat.le_trans (gapsS_len _ _ _) ?_
 have h1 := cutS_len lo l
 have h2 := List.length_filter_le (fun s : Sp => decide (s.1 < hi)) (cutS lo l)
 simp only [List.length_map]
 omega
end Go.Vi
