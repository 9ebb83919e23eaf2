/-
  XM3: rows of spans built of edges (the document's way). Own work; no program.
-/
import Derived.Test.YtmbhhhefojdmhaaXM2
set_option linter.unusedVariables false
set_option linter.unusedSimpArgs false
set_option linter.unnecessarySimpa false
namespace Go.Vi
/-- A number among others, rising, each once. -/
def putS (l : List Int) (n : Int) : List Int := if (l.dropWhile fun x => decide (x < n)).head? = some n then l else (l.takeWhile fun x => decide (x < n)) ++ n :: l.dropWhile fun x => decide (x < n)
theorem putS_mem {l : List Int} {n x : Int} : x ∈ putS l n ↔ x = n ∨ x ∈ l := by
  have hs : l = (l.takeWhile fun x => decide (x < n)) ++ l.dropWhile fun x => decide (x < n) := List.takeWhile_append_dropWhile.symm
  unfold putS
  split
  · rename_i h
    have hn : n ∈ l := by rw [hs]; exact List.mem_append_right _ (List.mem_of_mem_head? h)
    constructor
    · exact .inr
    · rintro (rfl | h)
      · exact hn
      · exact h
  · constructor
    · intro h
      rw [List.mem_append, List.mem_cons] at h
      rcases h with h | h | h
      · right; rw [hs]; exact List.mem_append_left _ h
      · exact .inl h
      · right; rw [hs]; exact List.mem_append_right _ h
    · rintro (rfl | h)
      · simp
      · rw [hs] at h
        rcases List.mem_append.1 h with h | h <;> simp [h]
theorem dropW {n : Int} : ∀ l : List Int, (l.Pairwise fun a b => a < b) → ∀ x ∈ l.dropWhile fun x => decide (x < n), n ≤ x
  | [], _, _, h => by simp at h
  | y :: l, hs, x, h => by
    obtain ⟨h1, h2⟩ := List.pairwise_cons.1 hs
    by_cases hy : y < n
    · rw [List.dropWhile_cons_of_pos (by simpa using hy)] at h
      exact dropW l h2 x h
    · rw [List.dropWhile_cons_of_neg (by simpa using hy)] at h
      rcases List.mem_cons.1 h with rfl | h
      · omega
      · have := h1 x h; omega
theorem takeW {n : Int} : ∀ l : List Int, ∀ x ∈ l.takeWhile fun x => decide (x < n), x < n
  | [], _, h => by simp at h
  | y :: l, x, h => by
    by_cases hy : y < n
    · rw [List.takeWhile_cons_of_pos (by simpa using hy)] at h
      rcases List.mem_cons.1 h with rfl | h
      · exact hy
      · exact takeW l x h
    · rw [List.takeWhile_cons_of_neg (by simpa using hy)] at h
      simp at h
theorem putS_sorted {l : List Int} (n : Int) (h : l.Pairwise fun a b => a < b) : (putS l n).Pairwise fun a b => a < b := by
  have hs : l = (l.takeWhile fun x => decide (x < n)) ++ l.dropWhile fun x => decide (x < n) := List.takeWhile_append_dropWhile.symm
  unfold putS
  split
  · exact h
  · rename_i hn
    have hd := dropW (n := n) l h
    have ht := takeW (n := n) l
    rw [hs] at h
    obtain ⟨p1, p2, p3⟩ := List.pairwise_append.1 h
    rw [List.pairwise_append]
    refine ⟨p1, List.pairwise_cons.2 ⟨fun x hx => ?_, p2⟩, fun x hx y hy => ?_⟩
    · have h1 := hd x hx
      have : n ≠ x := by
        rintro rfl
        cases hq : (l.dropWhile fun x => decide (x < n)) with
        | nil => rw [hq] at hx; simp at hx
        | cons y q =>
          rw [hq] at hx p2 hn
          simp at hn
          rcases List.mem_cons.1 hx with rfl | hx
          · exact hn rfl
          · have h2 := (List.pairwise_cons.1 p2).1 n hx
            have h3 := hd y (by rw [hq]; simp)
            omega
      omega
    · rcases List.mem_cons.1 hy with rfl | hy
      · exact ht x hx
      · exact p3 x hx y hy
def edgeS (l : List Sp) (e : List Int) : List Int := l.foldl (fun e s => putS (putS e s.1) s.2) e
theorem edgeS_mem : ∀ (l : List Sp) (e : List Int) (x : Int), x ∈ edgeS l e ↔ x ∈ e ∨ ∃ s ∈ l, x = s.1 ∨ x = s.2
  | [], e, x => by simp [edgeS]
  | s :: l, e, x => by
    have := edgeS_mem l (putS (putS e s.1) s.2) x
    show x ∈ edgeS l (putS (putS e s.1) s.2) ↔ _
    rw [this, putS_mem, putS_mem]
    constructor
    · rintro ((h | h | h) | ⟨r, hr, h⟩)
      · exact .inr ⟨s, by simp, .inr h⟩
      · exact .inr ⟨s, by simp, .inl h⟩
      · exact .inl h
      · exact .inr ⟨r, by simp [hr], h⟩
    · rintro (h | ⟨r, hr, h⟩)
      · exact .inl (.inr (.inr h))
      · rcases List.mem_cons.1 hr with rfl | hr
        · rcases h with h | h
          · exact .inl (.inr (.inl h))
          · exact .inl (.inl h)
        · exact .inr ⟨r, hr, h⟩
theorem edgeS_sorted : ∀ (l : List Sp) (e : List Int), (e.Pairwise fun a b => a < b) → (edgeS l e).Pairwise fun a b => a < b
  | [], _, h => h
  | s :: l, e, h => edgeS_sorted l _ (putS_sorted s.2 (putS_sorted s.1 h))
theorem edgeS_len : ∀ (l : List Sp) (e : List Int), (edgeS l e).length ≤ e.length + 2 * l.length
  | [], _ => by simp [edgeS]
  | s :: l, e => by
    have hp : ∀ (e : List Int) (n : Int), (putS e n).length ≤ e.length + 1 := fun e n => by
      have hs : ((e.takeWhile fun x => decide (x < n)) ++ e.dropWhile fun x => decide (x < n)).length = e.length := by rw [List.takeWhile_append_dropWhile]
      rw [List.length_append] at hs
      unfold putS; split <;> simp <;> omega
    have h1 := edgeS_len l (putS (putS e s.1) s.2)
    have h2 := hp (putS e s.1) s.2
    have h3 := hp e s.1
    show (edgeS l (putS (putS e s.1) s.2)).length ≤ _
    simp only [List.length_cons]; omega
/-- From each edge to the next one. -/
def pairsS (e : List Int) : List Sp := e.zip e.tail
def stepB (f : Int → Bool) (out : List Sp) (p : Sp) : List Sp := if f p.1 then (match out.getLast? with
  | some c => if c.2 = p.1 then out.dropLast ++ [(c.1, p.2)] else out ++ [p]
  | none => [p]) else out
def buildS (f : Int → Bool) (e : List Int) : List Sp := (pairsS e).foldl (stepB f) []
theorem pairs_cons (x y : Int) (e : List Int) : pairsS (x :: y :: e) = (x, y) :: pairsS (y :: e) := rfl
theorem pairs_spec : ∀ e : List Int, (e.Pairwise fun a b => a < b) → ((pairsS e).Pairwise fun a b => a.2 ≤ b.1) ∧ (∀ p ∈ pairsS e, p.1 < p.2 ∧ p.1 ∈ e ∧ p.2 ∈ e ∧ ∀ x ∈ e, x ≤ p.1 ∨ p.2 ≤ x) ∧ ∀ m : Int, (∃ p ∈ pairsS e, inS p m = true) ∨ (∀ x ∈ e, m < x) ∨ ∀ x ∈ e, x ≤ m
  | [], _ => by simp [pairsS]
  | [x], _ => by
    refine ⟨by simp [pairsS], by simp [pairsS], fun m => ?_⟩
    by_cases h : m < x
    · exact .inr (.inl (by simpa using h))
    · exact .inr (.inr (by simp; omega))
  | x :: y :: e, hs => by
    obtain ⟨h1, h2⟩ := List.pairwise_cons.1 hs
    obtain ⟨r1, r2, r3⟩ := pairs_spec (y :: e) h2
    have hxy := h1 y (by simp)
    have hy : ∀ z ∈ y :: e, y ≤ z := fun z hz => by
      rcases List.mem_cons.1 hz with rfl | hz
      · exact Int.le_refl _
      · exact Int.le_of_lt ((List.pairwise_cons.1 h2).1 z hz)
    rw [pairs_cons]
    refine ⟨List.pairwise_cons.2 ⟨fun p hp => hy p.1 (r2 p hp).2.1, r1⟩, fun p hp => ?_, fun m => ?_⟩
    · rcases List.mem_cons.1 hp with rfl | hp
      · refine ⟨hxy, by simp, by simp, fun z hz => ?_⟩
        rcases List.mem_cons.1 hz with rfl | hz
        · exact .inl (Int.le_refl _)
        · exact .inr (hy z hz)
      · obtain ⟨g1, g2, g3, g4⟩ := r2 p hp
        refine ⟨g1, by simp only [List.mem_cons] at g2 ⊢; exact .inr g2, by simp only [List.mem_cons] at g3 ⊢; exact .inr g3, fun z hz => ?_⟩
        rcases List.mem_cons.1 hz with rfl | hz
        · left; have := hy p.1 g2; omega
        · exact g4 z hz
    · rcases r3 m with ⟨p, hp, hm⟩ | h | h
      · exact .inl ⟨p, by simp [hp], hm⟩
      · by_cases hx : m < x
        · exact .inr (.inl fun z hz => by
            rcases List.mem_cons.1 hz with rfl | hz
            · exact hx
            · exact h z hz)
        · exact .inl ⟨(x, y), by simp, inS_iff.2 ⟨by show x ≤ m; omega, h y (by simp)⟩⟩
      · exact .inr (.inr fun z hz => by
          rcases List.mem_cons.1 hz with rfl | hz
          · have := h y (by simp); omega
          · exact h z hz)
theorem buildS_spec (f : Int → Bool) (e : List Int) (hs : e.Pairwise fun a b => a < b) : Can (buildS f e) ∧ ∀ m, hasS (buildS f e) m = (pairsS e).any fun p => f p.1 && inS p m := by
  have key : ∀ (l : List Sp) (out done : List Sp), Can out → (∀ m, hasS out m = done.any fun p => f p.1 && inS p m) → (∀ c ∈ out, ∃ d ∈ done, c.2 = d.2) → ((done ++ l).Pairwise fun a b => a.2 ≤ b.1) → (∀ s ∈ l, s.1 < s.2) →
      Can (l.foldl (stepB f) out) ∧ ∀ m, hasS (l.foldl (stepB f) out) m = (done ++ l).any fun p => f p.1 && inS p m := by
    intro l
    induction l with
    | nil => intro out done h1 h2 h3 _ _; rw [List.append_nil]; exact ⟨h1, h2⟩
    | cons s l ih =>
      intro out done h1 h2 h3 hp hn
      have hsn := hn s (by simp)
      have hle : ∀ d ∈ done, d.2 ≤ s.1 := fun d hd => (List.pairwise_append.1 hp).2.2 d hd s (by simp)
      have e : done ++ s :: l = (done ++ [s]) ++ l := by simp
      rw [List.foldl_cons, e]
      have step : Can (stepB f out s) ∧ (∀ m, hasS (stepB f out s) m = (done ++ [s]).any fun p => f p.1 && inS p m) ∧ ∀ c ∈ stepB f out s, ∃ d ∈ done ++ [s], c.2 = d.2 := by
        unfold stepB
        cases hf : f s.1 with
        | false =>
          simp only [Bool.false_eq_true, if_false]
          refine ⟨h1, fun m => ?_, fun c hc => ?_⟩
          · rw [h2 m, List.any_append]; simp [hf]
          · obtain ⟨d, hd, hh⟩ := h3 c hc
            exact ⟨d, by simp [hd], hh⟩
        | true =>
          simp only [if_true]
          cases hg : out.getLast? with
          | none =>
            have : out = [] := by simpa using hg
            subst this
            refine ⟨⟨by simp, by simpa using hsn⟩, fun m => ?_, by simp⟩
            rw [List.any_append, ← h2 m]; simp [hasS_cons, hasS_nil, hf]
          | some c =>
            have hc := getLast_split hg
            have hcm : c ∈ out := by rw [hc]; simp
            obtain ⟨d, hd, hcd⟩ := h3 c hcm
            have hcs : c.2 ≤ s.1 := by rw [hcd]; exact hle d hd
            have hcn := h1.2 c hcm
            have hpw := h1.1
            generalize out.dropLast = o at hc
            subst hc
            obtain ⟨p1, p2, p3⟩ := List.pairwise_append.1 hpw
            dsimp only
            split
            · rename_i hsc
              refine ⟨⟨?_, ?_⟩, fun m => ?_, ?_⟩
              · rw [List.pairwise_append]
                refine ⟨p1, by simp, fun a ha b hb => ?_⟩
                simp at hb; subst hb
                exact p3 a ha c (by simp)
              · intro x hx
                rcases List.mem_append.1 hx with hx | hx
                · exact h1.2 x (by simp [hx])
                · simp at hx; subst hx; show c.1 < s.2; omega
              · rw [hasS_app, List.any_append, ← h2 m, hasS_app, Bool.or_assoc]
                congr 1
                rw [Bool.eq_iff_iff]
                simp only [Bool.or_eq_true, hasS_cons, hasS_nil, Bool.or_false, List.any_cons, List.any_nil, hf, Bool.true_and, inS_iff]
                omega
              · intro x hx
                rcases List.mem_append.1 hx with hx | hx
                · obtain ⟨d', hd', hh⟩ := h3 x (by simp [hx])
                  exact ⟨d', by simp [hd'], hh⟩
                · simp at hx; subst hx; exact ⟨s, by simp, rfl⟩
            · rename_i hsc
              refine ⟨⟨?_, ?_⟩, fun m => ?_, ?_⟩
              · rw [List.pairwise_append]
                refine ⟨hpw, by simp, fun a ha b hb => ?_⟩
                simp at hb; subst hb
                rcases List.mem_append.1 ha with ha | ha
                · have := p3 a ha c (by simp); omega
                · simp at ha; subst ha; omega
              · intro x hx
                rcases List.mem_append.1 hx with hx | hx
                · exact h1.2 x hx
                · simp at hx; subst hx; exact hsn
              · rw [hasS_app, h2 m, List.any_append]; simp [hasS_cons, hasS_nil, hf]
              · intro x hx
                rcases List.mem_append.1 hx with hx | hx
                · obtain ⟨d', hd', hh⟩ := h3 x hx
                  exact ⟨d', by simp [hd'], hh⟩
                · simp at hx; subst hx; exact ⟨x, by simp, rfl⟩
      exact ih _ _ step.1 step.2.1 step.2.2 (by rw [← e]; exact hp) fun x hx => hn x (by simp [hx])
  obtain ⟨q1, q2, _⟩ := pairs_spec e hs
  have := key (pairsS e) [] [] ⟨by simp, by simp⟩ (fun _ => rfl) (by simp) (by simpa using q1) fun p hp => (q2 p hp).1
  simp only [List.nil_append] at this
  exact this
/-- What is said of each minute of two rows, by the document. -/
def pairS (g : Bool → Bool → Bool) (a b : List Sp) : List Sp := buildS (fun x => g (hasS a x) (hasS b x)) (edgeS b (edgeS a []))
theorem pairS_spec (g : Bool → Bool → Bool) (hg : g false false = false) (a b : List Sp) : Can (pairS g a b) ∧ ∀ m, hasS (pairS g a b) m = g (hasS a m) (hasS b m) := by
  have hs : (edgeS b (edgeS a [])).Pairwise fun a b => a < b := edgeS_sorted b _ (edgeS_sorted a [] .nil)
  have hm : ∀ x, x ∈ edgeS b (edgeS a []) ↔ (∃ s ∈ a, x = s.1 ∨ x = s.2) ∨ ∃ s ∈ b, x = s.1 ∨ x = s.2 := fun x => by
    rw [edgeS_mem, edgeS_mem]; simp
  unfold pairS
  generalize edgeS b (edgeS a []) = e at hs hm
  obtain ⟨r1, r2⟩ := buildS_spec (fun x => g (hasS a x) (hasS b x)) e hs
  refine ⟨r1, fun m => ?_⟩
  rw [r2 m]
  obtain ⟨q1, q2, q3⟩ := pairs_spec e hs
  have same : ∀ (l : List Sp), (∀ s ∈ l, s.1 ∈ e ∧ s.2 ∈ e) → ∀ p ∈ pairsS e, inS p m = true → hasS l m = hasS l p.1 := fun l hl p hp hpm => by
    obtain ⟨p1, p2⟩ := inS_iff.1 hpm
    obtain ⟨_, _, _, g4⟩ := q2 p hp
    rw [Bool.eq_iff_iff, hasS_iff, hasS_iff]
    constructor
    · rintro ⟨s, hs', h1, h2⟩
      obtain ⟨e1, e2⟩ := hl s hs'
      have := g4 _ e1
      have := g4 _ e2
      exact ⟨s, hs', by omega, by omega⟩
    · rintro ⟨s, hs', h1, h2⟩
      obtain ⟨e1, e2⟩ := hl s hs'
      have := g4 _ e1
      have := g4 _ e2
      exact ⟨s, hs', by omega, by omega⟩
  have ha : ∀ s ∈ a, s.1 ∈ e ∧ s.2 ∈ e := fun s h => ⟨(hm _).2 (.inl ⟨s, h, .inl rfl⟩), (hm _).2 (.inl ⟨s, h, .inr rfl⟩)⟩
  have hb : ∀ s ∈ b, s.1 ∈ e ∧ s.2 ∈ e := fun s h => ⟨(hm _).2 (.inr ⟨s, h, .inl rfl⟩), (hm _).2 (.inr ⟨s, h, .inr rfl⟩)⟩
  have none_ : ((∀ x ∈ e, m < x) ∨ ∀ x ∈ e, x ≤ m) → ∀ (l : List Sp), (∀ s ∈ l, s.1 ∈ e ∧ s.2 ∈ e) → hasS l m = false := fun h l hl => by
    rw [Bool.eq_false_iff]
    intro hh
    obtain ⟨s, hs', h1, h2⟩ := hasS_iff.1 hh
    obtain ⟨e1, e2⟩ := hl s hs'
    rcases h with h | h
    · have := h _ e1; omega
    · have := h _ e2; omega
  rcases q3 m with ⟨p, hp, hpm⟩ | h
  · rw [same a ha p hp hpm, same b hb p hp hpm, Bool.eq_iff_iff, List.any_eq_true]
    constructor
    · rintro ⟨p', hp', h⟩
      simp only [Bool.and_eq_true] at h
      have e1 := same a ha p' hp' h.2
      have e2 := same b hb p' hp' h.2
      rw [same a ha p hp hpm] at e1
      rw [same b hb p hp hpm] at e2
      rw [e1, e2]; exact h.1
    · intro h
      exact ⟨p, hp, by simp only [Bool.and_eq_true]; exact ⟨h, hpm⟩⟩
  · rw [none_ h a ha, none_ h b hb, hg, List.any_eq_false]
    intro p hp hh
    simp only [Bool.and_eq_true] at hh
    obtain ⟨p1, p2⟩ := inS_iff.1 hh.2
    obtain ⟨_, g2, g3, _⟩ := q2 p hp
    rcases h with h | h
    · have := h _ g2; omega
    · have := h _ g3; omega
end Go.Vi
