import Derived.Test.YtmbhhhefojdmhaaVi1
set_option linter.unusedVariables false
set_option linter.unusedSimpArgs false
set_option linter.unnecessarySimpa false
/-
  XM1: spans of numbers: rows in their form are told by what is in them. Own work; no program.
-/
namespace Go.Vi
abbrev Sp := Int × Int
def inS (s : Sp) (m : Int) : Bool := decide (s.1 ≤ m) && decide (m < s.2)
theorem inS_iff {s : Sp} {m : Int} : inS s m = true ↔ s.1 ≤ m ∧ m < s.2 := by simp [inS]
def hasS (l : List Sp) (m : Int) : Bool := l.any fun s => inS s m
theorem hasS_iff {l : List Sp} {m : Int} : hasS l m = true ↔ ∃ s ∈ l, s.1 ≤ m ∧ m < s.2 := by
  simp only [hasS, List.any_eq_true, inS_iff]
theorem hasS_cons {s : Sp} {l : List Sp} {m : Int} : hasS (s :: l) m = (inS s m || hasS l m) := rfl
theorem hasS_nil {m : Int} : hasS [] m = false := rfl
theorem hasS_app {a b : List Sp} {m : Int} : hasS (a ++ b) m = (hasS a m || hasS b m) := by simp [hasS]
/-- A row is in its form: spans that aren't empty, that rise, and don't touch. -/
def Can (l : List Sp) : Prop := (l.Pairwise fun a b => a.2 < b.1) ∧ ∀ s ∈ l, s.1 < s.2
theorem Can.tail {s : Sp} {l : List Sp} (h : Can (s :: l)) : Can l ∧ s.1 < s.2 ∧ ∀ x ∈ l, s.2 < x.1 := by
  obtain ⟨h1, h2⟩ := List.pairwise_cons.1 h.1
  exact ⟨⟨h2, fun x hx => h.2 x (by simp [hx])⟩, h.2 s (by simp), h1⟩
theorem can_no {s : Sp} {l : List Sp} {m : Int} (h : ∀ x ∈ l, s.2 < x.1) (hm : m ≤ s.2) : hasS l m = false := by
  rw [Bool.eq_false_iff]
  intro hh
  obtain ⟨x, hx, h1, h2⟩ := hasS_iff.1 hh
  have := h x hx
  omega
theorem can_unique : ∀ (l k : List Sp), Can l → Can k → (∀ m, hasS l m = hasS k m) → l = k
  | [], [], _, _, _ => rfl
  | [], s :: k, _, hk, h => by
    have h1 := h s.1
    have h2 : hasS (s :: k) s.1 = true := hasS_iff.2 ⟨s, by simp, Int.le_refl _, hk.2 s (by simp)⟩
    rw [h2] at h1
    cases h1
  | s :: l, [], hl, _, h => by
    have h1 := h s.1
    have h2 : hasS (s :: l) s.1 = true := hasS_iff.2 ⟨s, by simp, Int.le_refl _, hl.2 s (by simp)⟩
    rw [h2] at h1
    cases h1
  | s :: l, r :: k, hl, hk, h => by
    obtain ⟨l1, l2, l3⟩ := hl.tail
    obtain ⟨k1, k2, k3⟩ := hk.tail
    have first : ∀ {s r : Sp} {l k : List Sp}, (∀ m, hasS (s :: l) m = hasS (r :: k) m) → s.1 < s.2 → r.1 < r.2 → (∀ x ∈ k, r.2 < x.1) → r.1 ≤ s.1 := fun {s r l k} h h1 h2 h3 => by
      have e : hasS (r :: k) s.1 = true := by rw [← h]; exact hasS_iff.2 ⟨s, by simp, Int.le_refl _, h1⟩
      obtain ⟨x, hx, g1, g2⟩ := hasS_iff.1 e
      rcases List.mem_cons.1 hx with rfl | hx
      · exact g1
      · have := h3 x hx; omega
    have e1 : s.1 = r.1 := Int.le_antisymm (first (fun m => (h m).symm) k2 l2 l3) (first h l2 k2 k3)
    have last : ∀ {s r : Sp} {l k : List Sp}, (∀ m, hasS (s :: l) m = hasS (r :: k) m) → s.1 = r.1 → s.1 < s.2 → (∀ x ∈ l, s.2 < x.1) → r.2 ≤ s.2 := fun {s r l k} h h0 h1 h3 => by
      by_cases hh : r.2 ≤ s.2
      · exact hh
      · have e : hasS (s :: l) s.2 = true := by rw [h]; exact hasS_iff.2 ⟨r, by simp, by omega, by omega⟩
        obtain ⟨x, hx, g1, g2⟩ := hasS_iff.1 e
        rcases List.mem_cons.1 hx with rfl | hx
        · omega
        · have := h3 x hx; omega
    have e2 : s.2 = r.2 := Int.le_antisymm (last (fun m => (h m).symm) e1.symm k2 k3) (last h e1 l2 l3)
    have es : s = r := Prod.ext e1 e2
    subst es
    have et : l = k := can_unique l k l1 k1 fun m => by
      have hm := h m
      rw [hasS_cons, hasS_cons] at hm
      cases hi : inS s m with
      | true =>
        have := (inS_iff.1 hi).2
        rw [can_no l3 (by omega), can_no k3 (by omega)]
      | false => rw [hi, Bool.false_or, Bool.false_or] at hm; exact hm
    rw [et]
/-- One step of a form: the next span of a sorted row. -/
def stepF (out : List Sp) (s : Sp) : List Sp := match out.getLast? with
  | some c => if s.1 ≤ c.2 then out.dropLast ++ [(c.1, max c.2 s.2)] else out ++ [s]
  | none => [s]
def formS (l : List Sp) : List Sp := l.foldl stepF []
theorem formS_snoc (l : List Sp) (s : Sp) : formS (l ++ [s]) = stepF (formS l) s := by simp [formS]
theorem getLast_split {l : List Sp} {c : Sp} (h : l.getLast? = some c) : l = l.dropLast ++ [c] := by
  rw [List.getLast?_eq_some_iff] at h
  obtain ⟨ys, rfl⟩ := h
  simp
theorem formS_spec : ∀ (l : List Sp), (l.Pairwise fun a b => a.1 ≤ b.1) → (∀ s ∈ l, s.1 < s.2) → Can (formS l) ∧ (∀ m, hasS (formS l) m = hasS l m) ∧ ∀ c ∈ formS l, ∃ d ∈ l, c.1 = d.1 := by
  have key : ∀ (l : List Sp) (out done : List Sp), Can out → (∀ m, hasS out m = hasS done m) → (∀ c ∈ out, ∃ d ∈ done, c.1 = d.1) → ((done ++ l).Pairwise fun a b => a.1 ≤ b.1) → (∀ s ∈ l, s.1 < s.2) →
      Can (l.foldl stepF out) ∧ (∀ m, hasS (l.foldl stepF out) m = hasS (done ++ l) m) ∧ ∀ c ∈ l.foldl stepF out, ∃ d ∈ done ++ l, c.1 = d.1 := by
    intro l
    induction l with
    | nil => intro out done h1 h2 h3 _ _; rw [List.append_nil]; exact ⟨h1, h2, h3⟩
    | cons s l ih =>
      intro out done h1 h2 h3 hs hn
      have hsn := hn s (by simp)
      have hle : ∀ d ∈ done, d.1 ≤ s.1 := fun d hd => (List.pairwise_append.1 hs).2.2 d hd s (by simp)
      have e : done ++ s :: l = (done ++ [s]) ++ l := by simp
      rw [List.foldl_cons, e]
      have step : Can (stepF out s) ∧ (∀ m, hasS (stepF out s) m = hasS (done ++ [s]) m) ∧ ∀ c ∈ stepF out s, ∃ d ∈ done ++ [s], c.1 = d.1 := by
        unfold stepF
        cases hg : out.getLast? with
        | none =>
          have : out = [] := by simpa using hg
          subst this
          refine ⟨⟨by simp, by simpa using hsn⟩, fun m => ?_, by simp⟩
          rw [hasS_app, ← h2 m]; simp [hasS_nil]
        | some c =>
          have hc := getLast_split hg
          have hcm : c ∈ out := by rw [hc]; simp
          obtain ⟨d, hd, hcd⟩ := h3 c hcm
          have hcs : c.1 ≤ s.1 := by rw [hcd]; exact hle d hd
          have hcn := h1.2 c hcm
          have hpw := h1.1
          generalize out.dropLast = o at hc
          subst hc
          obtain ⟨p1, p2, p3⟩ := List.pairwise_append.1 hpw
          dsimp only
          split
          · rename_i hsc
            refine ⟨⟨?_, ?_⟩, fun m => ?_, ?_⟩
            · rw [List.pairwise_append]
              refine ⟨p1, by simp, fun a ha b hb => ?_⟩
              simp at hb; subst hb
              exact p3 a ha c (by simp)
            · intro x hx
              rcases List.mem_append.1 hx with hx | hx
              · exact h1.2 x (by simp [hx])
              · simp at hx; subst hx; show c.1 < max c.2 s.2; omega
            · rw [hasS_app, hasS_app (a := done), ← h2 m, hasS_app, Bool.or_assoc]
              congr 1
              rw [Bool.eq_iff_iff]
              simp only [Bool.or_eq_true, hasS_iff, List.mem_singleton, exists_eq_left]
              omega
            · intro x hx
              rcases List.mem_append.1 hx with hx | hx
              · obtain ⟨d', hd', hh⟩ := h3 x (by simp [hx])
                exact ⟨d', by simp [hd'], hh⟩
              · simp at hx; subst hx; exact ⟨d, by simp [hd], hcd⟩
          · rename_i hsc
            refine ⟨⟨?_, ?_⟩, fun m => ?_, ?_⟩
            · rw [List.pairwise_append]
              refine ⟨hpw, by simp, fun a ha b hb => ?_⟩
              simp at hb; subst hb
              rcases List.mem_append.1 ha with ha | ha
              · have := p3 a ha c (by simp); omega
              · simp at ha; subst ha; omega
            · intro x hx
              rcases List.mem_append.1 hx with hx | hx
              · exact h1.2 x hx
              · simp at hx; subst hx; exact hsn
            · rw [hasS_app, h2 m, hasS_app (a := done)]
            · intro x hx
              rcases List.mem_append.1 hx with hx | hx
              · obtain ⟨d', hd', hh⟩ := h3 x hx
                exact ⟨d', by simp [hd'], hh⟩
              · simp at hx; subst hx; exact ⟨x, by simp, rfl⟩
      exact ih _ _ step.1 step.2.1 step.2.2 (by rw [← e]; exact hs) fun x hx => hn x (by simp [hx])
  intro l hs hn
  have := key l [] [] ⟨by simp, by simp⟩ (fun _ => rfl) (by simp) (by simpa using hs) hn
  simp only [List.nil_append] at this
  exact this
end Go.Vi
