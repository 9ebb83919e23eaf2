import Derived.Test.YtfpohilhapaiiaaVi1
set_option linter.unusedVariables false
set_option linter.unusedSimpArgs false
set_option linter.unnecessarySimpa false
/-
  XM1: spans of numbers: rows in their form are told by what is in them. Own work; no program.
-/
namespace Go.Vi
abbrev Sp := Int × Int
def inS (s : Sp) (m : Int) : Bool := decide (s.1 ≤ m) && decide (m < s.2)
theorem inS_iff {s : Sp} {m : Int} : inS s m = true ↔ s.1 ≤ m ∧ m < s.2 := by simp [inS]
def hasS (l : List Sp) (m : Int) : Bool := l.any fun s => inS s m
theorem hasS_iff {l : List Sp} {m : Int} : hasS l m = true ↔ ∃ s ∈ l, s.1 ≤ m ∧ m < s.2 := by
  simp only [hasS, List.any_eq_true, inS_iff]
theorem hasS_cons {s : Sp} {l : List Sp} {m : Int} : hasS (s :: l) m = (inS s m || hasS l m) := rfl
theorem hasS_nil {m : Int} : hasS [] m = false := rfl
theorem hasS_app {a b : List Sp} {m : Int} : hasS (a ++ b) m = (hasS a m || hasS b m) := by simp [hasS]
/-- A row is in its form: spans that aren't empty, that rise, and don't touch. -/
def Can (l : List Sp) : Prop := (l.Pairwise fun a b => a.2 < b.1) ∧ ∀ s ∈ l, s.1 < s.2
theorem Can.tail {s : Sp} {l : List Sp} (h : Can (s :: l)) : Can l ∧ s.1 < s.2 ∧ ∀ x ∈ l, s.2 < x.1 := by
  obtain ⟨h1, h2⟩ := List.pairwise_cons.1 h.1
  exact ⟨⟨h2, fun x hx => h.2 x (by simp [hx])⟩, h.2 s (by simp), h1⟩
theorem can_no {s : Sp} {l : List Sp} {m : Int} (h : ∀ x ∈ l, s.2 < x.1) (hm : m ≤ s.2) : hasS l m = false := by
  rw [Bool.eq_false_iff]
  intro hh
  obtain ⟨x, hx, h1, h2⟩ := hasS_iff.1 hh
  have := h x hx
  omega
theorem can_unique : ∀ (l k : List Sp), Can l → Can k → (∀ m, hasS l m = hasS k m) → l = k
  | [], [], _, _, _ => rfl
  | [], s :: k, _, hk, h => by
    have h1 := h s.1
    have h2 : hasS (s :: k) s.1 = true := hasS_iff.2 ⟨s, by simp, Int.le_refl _, hk.2 s (by simp)⟩
    rw [h2] at h1
    cases h1
  | s :: l, [], hl, _, h => by
    have h1 := h s.1
    have h2 : hasS (s :: l) s.1 = true := hasS_iff.2 ⟨s, by simp, Int.le_refl _, hl.2 s (by simp)⟩
    rw [h2] at h1
    cases h1
  | s :: l, r :: k, hl, hk, h => by
    obtain ⟨l1, l2, l3⟩ := hl.tail
    obtain ⟨k1, k2, k3⟩ := hk.tail
    have first : ∀ {s r : Sp} {l k : List Sp}, (∀ m, hasS (s :: l) m = hasS (r :: k) m) → s.1 < s.2 → r.1 < r.2 → (∀ x ∈ k, r.2 < x.1) → r.1 ≤ s.1 := fun {s r l k} h h1 h2 h3 => by
      have e : hasS (r :: k) s.1 = true := by rw [← h]; exact hasS_iff.2 ⟨s, by simp, Int.le_refl _, h1⟩
      obtain ⟨x, hx, g1, g2⟩ := hasS_iff.1 e
      rcases List.mem_cons.1 hx with rfl | hx
      · exact g1
      · have := h3 x hx; omega
    have e1 : s.1 = r.1 := Int.le_antisymm (first (fun m => (h m).symm) k2 l2 l3) (first h l2 k2 k3)
    have last : ∀ {s r : Sp} {l k : List Sp}, (∀ m, hasS (s :: l) m = hasS (r :: k) m) → s.1 = r.1 → s.1 < s.2 → (∀ x ∈ l, s.2 < x.1) → r.2 ≤ s.2 := fun {s r l k} h h0 h1 h3 => by
      by_cases hh : r.2 ≤ s.2
      · exact hh
      · have e : hasS (s :: l) s.2 = true := by rw [h]; exact hasS_iff.2 ⟨r, by simp, by omega, by omega⟩
        obtain ⟨x, hx, g1, g2⟩ := hasS_iff.1 e
        rcases List.mem_cons.1 hx with rfl | hx
        · omega
        · have := h3 x hx; omega
    have e2 : s.2 = r.2 := Int.le_antisymm (last (fun m => (h m).symm) e1.symm k2 k3) (last h e1 l2 l3)
    have es : s = r := Prod.ext e1 e2
    subst es
    have et : l = k := can_unique l k l1 k1 fun m => by
      have hm := h m
      rw [hasS_cons, hasS_cons] at hm
      cases hi : inS s m with
      | true =>
        have := (inS_iff.1 hi).2
        rw [can_no l3 (by omega), can_no k3 (by omega)]
      | false => rw [hi, Bool.false_or, Bool.false_or] at hm; exact hm
    rw [et]
/-- One step of a form: the next span of a sorted row. -/
def stepF (out : List Sp) (s : Sp) : List Sp := match out.getLast? with
  | some c => if s.1 ≤ c.2 then out.dropLast ++ [(c.1, max c.2 s.2)] else out ++ [s]
  | none => [s]
def formS (l : List Sp) : List Sp := l.foldl stepF []
theorem formS_snoc (l : List Sp) (s : Sp) : formS (l ++ [s]) = stepF (formS l) s := by simp [formS]
theorem getLast_split {l : List Sp} {c : Sp} (h : l.getLast? = some c) : l = l.dropLast ++ [c] := by
  rw [List.getLast?_eq_some_iff] at h
  obtain ⟨ys, rfl⟩ := h
  simp
theorem formS_spec : ∀ (l : List Sp), (l.Pairwise fun a b => a.1 ≤ b.1) → (∀ s ∈ l, s.1 < s.2) → Can (formS l) ∧ (∀ m, hasS (formS l) m = hasS l m) ∧ ∀ c ∈ formS l, ∃ d ∈ l, c.1 = d.1 := by
  have key : ∀ (l : List Sp) (out done : List Sp), Can out → (∀ m, hasS out m = hasS done m) → (∀ c ∈ out, ∃ d ∈ done, c.1 = d.1) → ((done ++ l).Pairwise fun a b => a.1 ≤ b.1) → (∀ s ∈ l, s.1 < s.2) →
      Can (l.foldl stepF out) ∧ (∀ m, hasS (l.foldl stepF out) m = hasS (done ++ l) m) ∧ ∀ c ∈ l.foldl stepF out, ∃ d ∈ done ++ l, c.1 = d.1 := by
    intro l
    induction l with
    | nil => intro out done h1 h2 h3 _ _; rw [List.append_nil]; exact ⟨h1, h2, h3⟩
    | cons s l ih =>
      intro out done h1 h2 h3 hs hn
      have hsn := hn s (by simp)
      have hle : ∀ d ∈ done, d.1 ≤ s.1 := fun d hd => (List.pairwise_append.1 hs).2.2 d hd s (by simp)
      have e : done ++ s :: l = (done ++ [s]) ++ l := by simp
      rw [List.foldl_cons, e]
      have step : Can (stepF out s) ∧ (∀ m, hasS (stepF out s) m = hasS (done ++ [s]) m) ∧ ∀ c ∈ stepF out s, ∃ d ∈ done ++ [s], c.1 = d.1 := by
        unfold stepF
        cases hg : out.getLast? with
        | none =>
          have : out = [] := by simpa using hg
          subst this
          refine ⟨⟨by simp, by simpa using hsn⟩, fun m => ?_, by simp⟩
          rw [hasS_app, ← h2 m]; simp [hasS_nil]
        | some c =>
          have hc := getLast_split hg
          have hcm : c ∈ out := by rw [hc]; simp
          obtain ⟨d, hd, hcd⟩ := h3 c hcm
          have hcs : c.1 ≤ s.1 := by rw [hcd]; exact hle d hd
          have hcn := h1.2 c hcm
          have hpw := h1.1
          generalize out.dropLast = o at hc
          subst hc
          obtain ⟨p1, p2, p3⟩ := List.pairwise_append.1 hpw
          dsimp only
          split
          · rename_i hsc
            refine ⟨⟨?_, ?_⟩, fun m => ?_, ?_⟩
            · rw [List.pairwise_append]
              refine ⟨p1, by simp, fun a ha b hb => ?_⟩
              simp at hb; subst hb
              exact p3 a ha c (by simp)
            · intro x hx
              rcases List.mem_append.1 hx with hx | hx
              · exact h1.2 x (by simp [hx])
              · simp at hx; subst hx; show c.1 < max c.2 s.2; omega
            · rw [hasS_app, hasS_app (a := done), ← h2 m, hasS_app, Bool.or_assoc]
              congr 1
              rw [Bool.eq_iff_iff]
              simp only [Bool.or_eq_true, hasS_iff, List.mem_singleton, exists_eq_left]
              omega
            · intro x hx
              rcases List.mem_append.1 hx with hx | hx
              · obtain ⟨d', hd', hh⟩ := h3 x (by simp [hx])
                exact ⟨d', by simp [hd'], hh⟩
              · simp at hx; subst hx; exact ⟨d, by simp [hd], hcd⟩
          · rename_i hsc
            refine ⟨⟨?_, ?_⟩, fun m => ?_, ?_⟩
            · rw [List.pairwise_append]
              refine ⟨hpw, by simp, fun a ha b hb => ?_⟩
              simp at hb; subst hb
              rcases List.mem_append.1 ha with ha | ha
              · have := p3 a ha c (by simp); omega
              · simp at ha; subst ha; omega
            · intro x hx
              rcases List.mem_append.1 hx with hx | hx
              · exact h1.2 x hx
              · simp at hx; subst hx; exact hsn
            · rw [hasS_app, h2 m, hasS_app (a := done)]
            · intro x hx
              rcases List.mem_append.1 hx with hx | hx
              · obtain ⟨d', hd', hh⟩ := h3 x hx
                exact ⟨d', by simp [hd'], hh⟩
              · simp at hx; subst hx; exact ⟨x, by simp, rfl⟩
      exact ih _ _ step.1 step.2.1 step.2.2 (by rw [← e]; exact hs) fun x hx => hn x (by simp [hx])
  intro l hs hn
  have := key l [] [] ⟨by simp, by simp⟩ (fun _ => rfl) (by simp) (by simpa using hs) hn
  simp only [List.nil_append] at this
  exact this
end Go.Vi

/-
  XM2: what is in both of two rows of spans, the gaps of a row, rows built of edges. Own work; no program.
-/
namespace Go.Vi
end Go.Vi

/-
  XM3: rows of spans built of edges (the document's way). Own work; no program.
-/
namespace Go.Vi
end Go.Vi

/-
  XM4: how many minutes are in rows of spans. Own work; no program.
-/
namespace Go.Vi
/-- Of a row in its form each span's ends bound what is in it: a row that holds no more lies between the same bounds. -/
theorem can_bound {l : List Sp} {lo hi : Int} (hl : Can l) (h : ∀ m, hasS l m = true → lo ≤ m ∧ m < hi) : ∀ s ∈ l, lo ≤ s.1 ∧ s.2 ≤ hi := fun s hs => by
  have hn := hl.2 s hs
  have h1 := h s.1 (hasS_iff.2 ⟨s, hs, Int.le_refl _, hn⟩)
  have h2 := h (s.2 - 1) (hasS_iff.2 ⟨s, hs, by omega, by omega⟩)
  exact ⟨h1.1, by omega⟩
end Go.Vi

/-
  XM5: rows of spans that are grown. Own work; no program.
-/
namespace Go.Vi
end Go.Vi

/-
  XE1: the starts of spans, on a grid; a stream of them, and a picker, as data. Own work; no program.
-/
namespace Go.Vi
/-- Where so many minutes are behind, span by span. -/
def stS (n : Int) (l : List Sp) : List Sp := l.flatMap fun s => if n ≤ s.2 - s.1 then [(s.1, s.2 - n + 1)] else []
def clipS (k : Int) (l : List Sp) : List Sp := l.flatMap fun s => if max s.1 k < s.2 then [(max s.1 k, s.2)] else []
def upG (g a : Int) : Int := if a % g = 0 then a else a + (g - a % g)
theorem upG_ge {g a : Int} (hg : 0 < g) : a ≤ upG g a := by
  have := Int.emod_lt_of_pos a hg
  unfold upG; split <;> omega
theorem upG_lt {g a : Int} (hg : 0 < g) : upG g a < a + g := by
  have := Int.emod_nonneg a (show g ≠ 0 by omega)
  unfold upG; split <;> omega
theorem upG_mod {g a : Int} (hg : 0 < g) : upG g a % g = 0 := by
  unfold upG
  split
  · assumption
  · have e : a + (g - a % g) = g * (a / g + 1) := by
      have := Int.mul_ediv_add_emod a g
      rw [Int.mul_add]; omega
    rw [e, Int.mul_emod_right]
theorem upG_le {g a m : Int} (hg : 0 < g) (h : a ≤ m) (hm : m % g = 0) : upG g a ≤ m := by
  have h1 := upG_lt (a := a) hg
  have h2 := upG_mod (a := a) hg
  obtain ⟨q, hq⟩ := Int.dvd_of_emod_eq_zero hm
  obtain ⟨p, hp⟩ := Int.dvd_of_emod_eq_zero h2
  apply Classical.byContradiction
  intro hn
  have h3 : q < p := by
    apply Classical.byContradiction
    intro h4
    have := Int.mul_le_mul_of_nonneg_left (show p ≤ q by omega) (show 0 ≤ g by omega)
    omega
  have h5 := Int.mul_le_mul_of_nonneg_left (show q + 1 ≤ p by omega) (show 0 ≤ g by omega)
  rw [Int.mul_add] at h5
  omega
theorem upG_self {g a b : Int} (hg : 0 < g) (h1 : a ≤ b) (h2 : b ≤ upG g a) : upG g b = upG g a := by
  have h3 := upG_le hg h2 (upG_mod hg)
  have h4 := upG_le hg (Int.le_trans h1 (upG_ge (a := b) hg)) (upG_mod hg)
  omega
/-- The minutes of a span that are on a grid. -/
def gridS (g a b : Int) : List Int := if h : 0 < g ∧ upG g a < b then upG g a :: gridS g (upG g a + 1) b else []
termination_by (b - a).toNat
decreasing_by
  have := upG_ge (a := a) h.1
  omega
theorem gridS_nil {g a b : Int} (hg : 0 < g) (h : ¬ upG g a < b) : gridS g a b = [] := by rw [gridS, dif_neg (fun hh => h hh.2)]
theorem gridS_cons {g a b : Int} (hg : 0 < g) (h : upG g a < b) : gridS g a b = upG g a :: gridS g (upG g a + 1) b := by rw [gridS, dif_pos ⟨hg, h⟩]
theorem gridS_emp {g a b : Int} (hg : 0 < g) (h : b ≤ a) : gridS g a b = [] := gridS_nil hg (by have := upG_ge (a := a) hg; omega)
theorem gridS_if {g a b : Int} (hg : 0 < g) : (if decide (a < b) = true then gridS g a b else []) = gridS g a b := by
  split
  · rfl
  · rename_i h
    exact (gridS_emp hg (by simp at h; exact h)).symm
theorem gridS_ind {g b : Int} (hg : 0 < g) {P : Int → Prop} (h0 : ∀ a, ¬ upG g a < b → P a) (h1 : ∀ a, upG g a < b → P (upG g a + 1) → P a) : ∀ a, P a := by
  have key : ∀ (n : Nat) (a : Int), (b - a).toNat ≤ n → P a := by
    intro n
    induction n with
    | zero => intro a h; exact h0 a (by have := upG_ge (a := a) hg; omega)
    | succ n ih =>
      intro a h
      by_cases hh : upG g a < b
      · exact h1 a hh (ih _ (by have := upG_ge (a := a) hg; omega))
      · exact h0 a hh
  exact fun a => key _ a (Nat.le_refl _)
theorem mem_grid {g b : Int} (hg : 0 < g) (m : Int) : ∀ a : Int, m ∈ gridS g a b ↔ a ≤ m ∧ m < b ∧ m % g = 0 := by
  refine gridS_ind (b := b) hg (fun a h => ?_) (fun a h ih => ?_)
  · rw [gridS_nil hg h]
    simp only [List.not_mem_nil, false_iff]
    rintro ⟨h1, h2, h3⟩
    have := upG_le hg h1 h3
    omega
  · rw [gridS_cons hg h, List.mem_cons, ih]
    have hge := upG_ge (a := a) hg
    constructor
    · rintro (rfl | ⟨h1, h2, h3⟩)
      · exact ⟨hge, h, upG_mod hg⟩
      · exact ⟨by omega, h2, h3⟩
    · rintro ⟨h1, h2, h3⟩
      have := upG_le hg h1 h3
      by_cases e : m = upG g a
      · exact .inl e
      · exact .inr ⟨by omega, h2, h3⟩
theorem grid_sorted {g b : Int} (hg : 0 < g) : ∀ a : Int, (gridS g a b).Pairwise (· < ·) := by
  refine gridS_ind (b := b) hg (fun a h => by rw [gridS_nil hg h]; exact .nil) (fun a h ih => ?_)
  rw [gridS_cons hg h]
  refine List.pairwise_cons.2 ⟨fun m hm => ?_, ih⟩
  have := (mem_grid hg m _).1 hm
  omega
theorem grid_skip {g b : Int} (hg : 0 < g) (m : Int) : ∀ a : Int, (gridS g a b).filter (fun x => decide (m ≤ x)) = gridS g (max a m) b := by
  refine gridS_ind (b := b) hg (fun a h => ?_) (fun a h ih => ?_)
  · rw [gridS_nil hg h, gridS_nil hg (a := max a m)]
    · rfl
    · intro hh
      have h1 := upG_le hg (show a ≤ upG g (max a m) by have := upG_ge (a := max a m) hg; omega) (upG_mod hg)
      omega
  · have hge := upG_ge (a := a) hg
    rw [gridS_cons hg h]
    by_cases hm : m ≤ upG g a
    · rw [List.filter_cons_of_pos (by simpa using hm), ih]
      have e1 : upG g (max a m) = upG g a := upG_self hg (by omega) (by omega)
      rw [gridS_cons hg (a := max a m) (by rw [e1]; exact h), e1, show max (upG g a + 1) m = upG g a + 1 by omega]
    · rw [List.filter_cons_of_neg (by simpa using hm), ih, show max (upG g a + 1) m = m by omega, show max a m = m by omega]
def gridL (g : Int) (l : List Sp) : List Int := l.flatMap fun s => gridS g s.1 s.2
theorem gridL_cons (g : Int) (s : Sp) (l : List Sp) : gridL g (s :: l) = gridS g s.1 s.2 ++ gridL g l := rfl
theorem gridL_app (g : Int) (l k : List Sp) : gridL g (l ++ k) = gridL g l ++ gridL g k := by simp [gridL]
theorem gridL_clip {g : Int} (hg : 0 < g) (m : Int) : ∀ l : List Sp, gridL g (clipS m l) = (gridL g l).filter fun x => decide (m ≤ x)
  | [] => rfl
  | s :: l => by
    have ih := gridL_clip hg m l
    have e : clipS m (s :: l) = (if max s.1 m < s.2 then [(max s.1 m, s.2)] else []) ++ clipS m l := rfl
    rw [e, gridL_app, gridL_cons, List.filter_append, ih, grid_skip hg]
    congr 1
    split
    · simp [gridL]
    · rw [gridS_emp hg (by omega)]; rfl
/-- A stream's state: of the starts of a row. -/
structure Ts where
  has : Bool
  head : Sp
  skip : Int
  rest : List Sp
  hr : Sp
def stF (n : Int) : List Sp → Sp → Option Sp × List Sp × Sp
  | [], r => (none, [], r)
  | s :: l, r => if n ≤ s.2 - s.1 then (some (s.1, s.2 - n + 1), l, s) else stF n l s
def peekL (n k : Int) : List Sp → Sp → Sp → Bool × Sp × List Sp × Sp
  | [], h, r => (false, h, [], r)
  | s :: l, h, r => if n ≤ s.2 - s.1 then (if max s.1 k < s.2 - n + 1 then (true, (max s.1 k, s.2 - n + 1), l, s) else peekL n k l (max s.1 k, s.2 - n + 1) s) else peekL n k l h s
theorem peekL_stF (n k : Int) : ∀ (l : List Sp) (h r : Sp), peekL n k l h r = match stF n l r with
    | (none, _, r') => (false, h, [], r')
    | (some y, l', r') => if max y.1 k < y.2 then (true, (max y.1 k, y.2), l', r') else peekL n k l' (max y.1 k, y.2) r'
  | [], h, r => rfl
  | s :: l, h, r => by
    have e1 : peekL n k (s :: l) h r = if n ≤ s.2 - s.1 then (if max s.1 k < s.2 - n + 1 then (true, (max s.1 k, s.2 - n + 1), l, s) else peekL n k l (max s.1 k, s.2 - n + 1) s) else peekL n k l h s := rfl
    have e2 : stF n (s :: l) r = if n ≤ s.2 - s.1 then (some (s.1, s.2 - n + 1), l, s) else stF n l s := rfl
    rw [e1, e2]
    by_cases hn : n ≤ s.2 - s.1
    · rw [if_pos hn, if_pos hn]
    · rw [if_neg hn, if_neg hn]; exact peekL_stF n k l h s
theorem stF_len (n : Int) : ∀ (l : List Sp) (r : Sp), (stF n l r).2.1.length ≤ l.length ∧ ((stF n l r).1.isSome = true → (stF n l r).2.1.length < l.length)
  | [], r => by simp [stF]
  | s :: l, r => by
    unfold stF
    split
    · simp
    · have := stF_len n l s
      simp only [List.length_cons]
      omega
theorem stF_none (n : Int) : ∀ (l : List Sp) (r : Sp), (stF n l r).1 = none → (stF n l r).2.1 = []
  | [], r, _ => rfl
  | s :: l, r, h => by
    unfold stF at h ⊢
    split at h
    · cases h
    · rename_i hn
      rw [if_neg hn]; exact stF_none n l s h
def Ts.peek (n : Int) (t : Ts) : Ts := if t.has = true then t else ⟨(peekL n t.skip t.rest t.head t.hr).1, (peekL n t.skip t.rest t.head t.hr).2.1, t.skip, (peekL n t.skip t.rest t.head t.hr).2.2.1, (peekL n t.skip t.rest t.head t.hr).2.2.2⟩
def Ts.pop (n : Int) (t : Ts) : Ts := { t.peek n with has := false }
def Ts.skipTo (m : Int) (t : Ts) : Ts := if m ≤ t.skip then t else if t.has = true then { t with skip := m, head := (max t.head.1 m, t.head.2), has := decide (max t.head.1 m < t.head.2) } else { t with skip := m }
def Ts.left (n : Int) (t : Ts) : List Sp := (if t.has = true then [t.head] else []) ++ clipS t.skip (stS n t.rest)
def Ts.ok (t : Ts) : Prop := t.has = true → t.skip ≤ t.head.1
theorem stS_cons (n : Int) (s : Sp) (l : List Sp) : stS n (s :: l) = (if n ≤ s.2 - s.1 then [(s.1, s.2 - n + 1)] else []) ++ stS n l := rfl
theorem clipS_app (k : Int) (a b : List Sp) : clipS k (a ++ b) = clipS k a ++ clipS k b := by simp [clipS]
theorem peekL_spec (n k : Int) : ∀ (l : List Sp) (h r : Sp), (clipS k (stS n l) = (if (peekL n k l h r).1 = true then [(peekL n k l h r).2.1] else []) ++ clipS k (stS n (peekL n k l h r).2.2.1)) ∧ ((peekL n k l h r).1 = true → k ≤ (peekL n k l h r).2.1.1) ∧ ((peekL n k l h r).1 = false → clipS k (stS n l) = [] ∧ (peekL n k l h r).2.2.1 = []) ∧ (peekL n k l h r).2.2.1.length ≤ l.length
  | [], h, r => by simp [peekL, stS, clipS]
  | s :: l, h, r => by
    unfold peekL
    rw [stS_cons]
    by_cases hn : n ≤ s.2 - s.1
    · rw [if_pos hn, if_pos hn, clipS_app]
      by_cases hk : max s.1 k < s.2 - n + 1
      · rw [if_pos hk]
        refine ⟨?_, fun _ => by dsimp only; omega, fun hh => by simp at hh, by simp⟩
        simp only [if_true]
        congr 1
        simp [clipS, hk]
      · rw [if_neg hk]
        have e : clipS k [(s.1, s.2 - n + 1)] = [] := by simp only [clipS, List.flatMap_cons, List.flatMap_nil, if_neg hk, List.append_nil]
        obtain ⟨h1, h2, h3, h4⟩ := peekL_spec n k l (max s.1 k, s.2 - n + 1) s
        rw [e, List.nil_append]
        exact ⟨h1, h2, h3, by simp only [List.length_cons]; omega⟩
    · rw [if_neg hn, if_neg hn, List.nil_append]
      obtain ⟨h1, h2, h3, h4⟩ := peekL_spec n k l h s
      exact ⟨h1, h2, h3, by simp only [List.length_cons]; omega⟩
theorem Ts.peek_left (n : Int) (t : Ts) : (t.peek n).left n = t.left n := by
  unfold Ts.peek
  by_cases h : t.has = true
  · rw [if_pos h]
  · rw [if_neg h]
    unfold Ts.left
    rw [if_neg h, List.nil_append]
    exact (peekL_spec n t.skip t.rest t.head t.hr).1.symm
theorem Ts.peek_ok (n : Int) (t : Ts) (h : t.ok) : (t.peek n).ok := by
  unfold Ts.peek
  by_cases hh : t.has = true
  · rw [if_pos hh]; exact h
  · rw [if_neg hh]
    exact (peekL_spec n t.skip t.rest t.head t.hr).2.1
theorem Ts.peek_none (n : Int) (t : Ts) (h : (t.peek n).has = false) : t.left n = [] := by
  have h1 := Ts.peek_left n t
  rw [← h1]
  unfold Ts.peek at h ⊢
  by_cases hh : t.has = true
  · rw [if_pos hh] at h; rw [h] at hh; cases hh
  · rw [if_neg hh] at h ⊢
    unfold Ts.left
    dsimp only at h ⊢
    rw [h, (peekL_spec n t.skip t.rest t.head t.hr).2.2.1 h |>.2]
    simp [stS, clipS]
theorem Ts.pop_left (n : Int) (t : Ts) : t.left n = (if (t.peek n).has = true then [(t.peek n).head] else []) ++ (t.pop n).left n := by
  rw [← Ts.peek_left n t]
  unfold Ts.pop Ts.left
  simp
theorem Ts.pop_ok (n : Int) (t : Ts) : (t.pop n).ok := by
  unfold Ts.ok Ts.pop; simp
theorem Ts.peek_len (n : Int) (t : Ts) : (t.peek n).rest.length ≤ t.rest.length := by
  unfold Ts.peek
  split
  · exact Nat.le_refl _
  · exact (peekL_spec n t.skip t.rest t.head t.hr).2.2.2
theorem Ts.skip_ok (m : Int) (t : Ts) (h : t.ok) : (t.skipTo m).ok := by
  unfold Ts.skipTo Ts.ok
  split
  · exact h
  · split
    · intro _; dsimp only; omega
    · rename_i hh; intro h'; exact absurd h' hh
theorem clip_clip {k m : Int} (h : k ≤ m) : ∀ l : List Sp, clipS m (clipS k l) = clipS m l
  | [] => rfl
  | s :: l => by
    have ih := clip_clip h l
    have e : ∀ k, clipS k (s :: l) = (if max s.1 k < s.2 then [(max s.1 k, s.2)] else []) ++ clipS k l := fun _ => rfl
    rw [e k, e m, clipS_app, ih]
    congr 1
    split
    · simp only [clipS, List.flatMap_cons, List.flatMap_nil, List.append_nil]
      rw [show max (max s.1 k) m = max s.1 m by omega]
    · rw [if_neg (by omega)]; rfl
theorem Ts.skip_grid {g : Int} (hg : 0 < g) (n m : Int) (t : Ts) (h : t.ok) : gridL g ((t.skipTo m).left n) = (gridL g (t.left n)).filter fun x => decide (m ≤ x) := by
  unfold Ts.skipTo
  by_cases hm : m ≤ t.skip
  · rw [if_pos hm]
    symm
    rw [List.filter_eq_self]
    intro x hx
    simp only [decide_eq_true_eq]
    obtain ⟨s, hs, hxs⟩ := List.mem_flatMap.1 hx
    have hx1 := ((mem_grid hg x _).1 hxs).1
    rcases List.mem_append.1 hs with hs | hs
    · by_cases hh : t.has = true
      · rw [if_pos hh] at hs
        obtain rfl : s = t.head := by simpa using hs
        have := h hh
        omega
      · rw [if_neg hh] at hs; cases hs
    · obtain ⟨y, _, hy⟩ := List.mem_flatMap.1 hs
      split at hy
      · obtain rfl : s = _ := by simpa using hy
        dsimp only at hx1
        omega
      · cases hy
  · rw [if_neg hm, ← gridL_clip hg]
    congr 1
    unfold Ts.left
    rw [clipS_app, clip_clip (by omega)]
    by_cases hh : t.has = true
    · rw [if_pos hh, if_pos hh]
      dsimp only
      congr 1
      simp only [clipS, List.flatMap_cons, List.flatMap_nil, List.append_nil, decide_eq_true_eq]
    · rw [if_neg hh, if_neg hh]
      rfl
/-- A picker's state. -/
structure Pk where
  t : Ts
  now : Sp
  some_ : Bool
def Pk.outs (g n : Int) (p : Pk) : List Int := (if p.some_ = true then gridS g p.now.1 p.now.2 else []) ++ gridL g (p.t.left n)
def Pk.skipTo (m : Int) (p : Pk) : Pk := ⟨p.t.skipTo m, (max p.now.1 m, p.now.2), p.some_ && decide (max p.now.1 m < p.now.2)⟩
theorem Pk.skip_outs {g : Int} (hg : 0 < g) (n m : Int) (p : Pk) (h : p.t.ok) : (p.skipTo m).outs g n = (p.outs g n).filter fun x => decide (m ≤ x) := by
  unfold Pk.outs Pk.skipTo
  rw [List.filter_append, ← Ts.skip_grid hg n m p.t h]
  congr 1
  cases p.some_ with
  | false => simp
  | true =>
    simp only [Bool.true_and, if_true]
    rw [grid_skip hg]
    exact gridS_if hg
/-- What a picker answers next, and its state behind. -/
def nextP (g n : Int) : Nat → Pk → Option Int × Pk
  | 0, p => (none, p)
  | f + 1, p =>
    if p.some_ = false ∧ (p.t.peek n).has = false then (none, ⟨p.t.peek n, (0, 0), false⟩)
    else
      let q : Pk := if p.some_ = true then p else ⟨p.t.pop n, (p.t.peek n).head, true⟩
      if upG g q.now.1 < q.now.2 then (some (upG g q.now.1), ⟨q.t, (upG g q.now.1 + 1, q.now.2), decide (upG g q.now.1 + 1 < q.now.2)⟩)
      else nextP g n f ⟨q.t, q.now, false⟩
def Pk.need (n : Int) (p : Pk) : Nat := (p.t.left n).length + (if p.some_ = true then 1 else 0) + 1
theorem nextP_spec {g : Int} (hg : 0 < g) (n : Int) : ∀ (f : Nat) (p : Pk), p.need n ≤ f → p.t.ok → (nextP g n f p).1 = (p.outs g n).head? ∧ (nextP g n f p).2.outs g n = (p.outs g n).tail ∧ (nextP g n f p).2.t.ok ∧ (nextP g n f p).2.t.rest.length ≤ p.t.rest.length
  | 0, p, h, _ => by unfold Pk.need at h; omega
  | f + 1, p, h, ho => by
    unfold nextP
    have hpl := Ts.pop_left n p.t
    have hlen := Ts.peek_len n p.t
    by_cases h0 : p.some_ = false ∧ (p.t.peek n).has = false
    · rw [if_pos h0]
      have e := Ts.peek_none n p.t h0.2
      have e1 : p.outs g n = [] := by unfold Pk.outs; rw [h0.1, e]; rfl
      rw [e1]
      refine ⟨rfl, ?_, Ts.peek_ok n _ ho, hlen⟩
      unfold Pk.outs
      dsimp only
      rw [Ts.peek_left, e]; rfl
    · rw [if_neg h0]
      dsimp only
      obtain ⟨q, hq⟩ : ∃ q : Pk, q = if p.some_ = true then p else ⟨p.t.pop n, (p.t.peek n).head, true⟩ := ⟨_, rfl⟩
      rw [← hq]
      have hqo : q.outs g n = p.outs g n ∧ q.some_ = true ∧ q.t.ok ∧ (q.t.left n).length + 1 ≤ f ∧ q.t.rest.length ≤ p.t.rest.length := by
        unfold Pk.need at h
        by_cases hs : p.some_ = true
        · rw [if_pos hs] at hq h
          subst hq
          exact ⟨rfl, hs, ho, by omega, Nat.le_refl _⟩
        · rw [if_neg hs] at hq h
          have hh : (p.t.peek n).has = true := by
            cases hh : (p.t.peek n).has with
            | true => rfl
            | false => exact absurd ⟨by simpa using hs, hh⟩ h0
          rw [if_pos hh] at hpl
          subst hq
          refine ⟨?_, rfl, Ts.pop_ok n _, ?_, hlen⟩
          · unfold Pk.outs
            rw [if_pos rfl, if_neg hs, hpl, gridL_app]
            simp [gridL]
          · rw [hpl] at h
            simp only [List.length_append, List.length_cons, List.length_nil] at h
            dsimp only
            omega
      obtain ⟨q1, q2, q3, q4, q5⟩ := hqo
      have e1 : q.outs g n = gridS g q.now.1 q.now.2 ++ gridL g (q.t.left n) := by unfold Pk.outs; rw [if_pos q2]
      by_cases hu : upG g q.now.1 < q.now.2
      · rw [if_pos hu, ← q1, e1, gridS_cons hg hu]
        refine ⟨rfl, ?_, q3, q5⟩
        unfold Pk.outs
        dsimp only
        rw [gridS_if hg]; rfl
      · rw [if_neg hu]
        have ih := nextP_spec hg n f ⟨q.t, q.now, false⟩ (by unfold Pk.need; simp; omega) q3
        have e2 : (⟨q.t, q.now, false⟩ : Pk).outs g n = p.outs g n := by
          rw [← q1, e1, gridS_nil hg hu]
          unfold Pk.outs
          simp
        rw [e2] at ih
        exact ⟨ih.1, ih.2.1, ih.2.2.1, Nat.le_trans ih.2.2.2 q5⟩
theorem sorted_ext : ∀ (l k : List Int), l.Pairwise (· < ·) → k.Pairwise (· < ·) → (∀ x, x ∈ l ↔ x ∈ k) → l = k
  | [], [], _, _, _ => rfl
  | [], b :: k, _, _, h => by have := (h b).2 (by simp); cases this
  | a :: l, [], _, _, h => by have := (h a).1 (by simp); cases this
  | a :: l, b :: k, hl, hk, h => by
    obtain ⟨l1, l2⟩ := List.pairwise_cons.1 hl
    obtain ⟨k1, k2⟩ := List.pairwise_cons.1 hk
    have e : a = b := by
      have h1 := (h a).1 (by simp)
      have h2 := (h b).2 (by simp)
      rcases List.mem_cons.1 h1 with h1 | h1
      · exact h1
      · rcases List.mem_cons.1 h2 with h2 | h2
        · exact h2.symm
        · have := k1 a h1
          have := l1 b h2
          omega
    subst e
    rw [sorted_ext l k l2 k2 fun x => ?_]
    constructor
    · intro hx
      rcases List.mem_cons.1 ((h x).1 (by simp [hx])) with e | e
      · subst e; have := l1 x hx; omega
      · exact e
    · intro hx
      rcases List.mem_cons.1 ((h x).2 (by simp [hx])) with e | e
      · subst e; have := k1 x hx; omega
      · exact e
theorem can_end {F : List Sp} (hF : Can F) {s : Sp} (hs : s ∈ F) : hasS F s.2 = false := by
  rw [Bool.eq_false_iff]
  intro h
  obtain ⟨t, ht, h1, h2⟩ := hasS_iff.1 h
  obtain ⟨i, hi⟩ := List.getElem?_of_mem hs
  obtain ⟨j, hj⟩ := List.getElem?_of_mem ht
  obtain ⟨hi1, rfl⟩ := List.getElem?_eq_some_iff.1 hi
  obtain ⟨hj1, rfl⟩ := List.getElem?_eq_some_iff.1 hj
  have hp := List.pairwise_iff_getElem.1 hF.1
  rcases Nat.lt_trichotomy i j with h | h | h
  · have := hp i j hi1 hj1 h; omega
  · subst h; omega
  · have := hp j i hj1 hi1 h
    have := hF.2 F[i] hs
    omega
/-- A start: so many minutes behind it are in the row. -/
theorem has_stS {F : List Sp} (hF : Can F) {n : Int} (hn : 1 ≤ n) (m : Int) : hasS (stS n F) m = true ↔ ∀ x, m ≤ x → x < m + n → hasS F x = true := by
  rw [hasS_iff]
  constructor
  · rintro ⟨s, hs, h1, h2⟩ x hx1 hx2
    obtain ⟨y, hy, hys⟩ := List.mem_flatMap.1 hs
    split at hys
    · obtain rfl : s = _ := by simpa using hys
      dsimp only at h1 h2
      exact hasS_iff.2 ⟨y, hy, by omega, by omega⟩
    · cases hys
  · intro h
    obtain ⟨s, hs, h1, h2⟩ := hasS_iff.1 (h m (Int.le_refl _) (by omega))
    have hle : m + n ≤ s.2 := by
      apply Classical.byContradiction
      intro hh
      have := h s.2 (by omega) (by omega)
      rw [can_end hF hs] at this
      cases this
    refine ⟨(s.1, s.2 - n + 1), List.mem_flatMap.2 ⟨s, hs, ?_⟩, h1, by dsimp only; omega⟩
    rw [if_pos (by omega)]
    simp
theorem mem_gridL {g : Int} (hg : 0 < g) (l : List Sp) (m : Int) : m ∈ gridL g l ↔ hasS l m = true ∧ m % g = 0 := by
  unfold gridL
  rw [List.mem_flatMap, hasS_iff]
  constructor
  · rintro ⟨s, hs, h⟩
    have := (mem_grid hg m _).1 h
    exact ⟨⟨s, hs, this.1, this.2.1⟩, this.2.2⟩
  · rintro ⟨⟨s, hs, h1, h2⟩, h3⟩
    exact ⟨s, hs, (mem_grid hg m _).2 ⟨h1, h2, h3⟩⟩
theorem stS_sorted {F : List Sp} (hF : Can F) {n : Int} (hn : 1 ≤ n) : (stS n F).Pairwise fun a b => a.2 ≤ b.1 := by
  have key : ∀ F : List Sp, F.Pairwise (fun a b : Sp => a.2 < b.1) → (stS n F).Pairwise fun a b => a.2 ≤ b.1 := by
    intro F
    induction F with
    | nil => intro _; exact .nil
    | cons s F ih =>
      intro h
      obtain ⟨h1, h2⟩ := List.pairwise_cons.1 h
      rw [stS_cons]
      split
      · refine List.pairwise_cons.2 ⟨fun b hb => ?_, ih h2⟩
        obtain ⟨y, hy, hyb⟩ := List.mem_flatMap.1 hb
        split at hyb
        · obtain rfl : b = _ := by simpa using hyb
          have := h1 y hy
          dsimp only; omega
        · cases hyb
      · exact ih h2
  exact key F hF.1
theorem gridL_sorted {g : Int} (hg : 0 < g) : ∀ l : List Sp, l.Pairwise (fun a b : Sp => a.2 ≤ b.1) → (gridL g l).Pairwise (· < ·)
  | [], _ => .nil
  | s :: l, h => by
    obtain ⟨h1, h2⟩ := List.pairwise_cons.1 h
    rw [gridL_cons, List.pairwise_append]
    refine ⟨grid_sorted hg _, gridL_sorted hg l h2, fun x hx y hy => ?_⟩
    have a1 := (mem_grid hg x _).1 hx
    obtain ⟨z, hz, hyz⟩ := List.mem_flatMap.1 hy
    have a2 := (mem_grid hg y _).1 hyz
    have := h1 z hz
    omega
end Go.Vi

/-
  XE2: the document's starts are those on the grid; what is left behind a minute. Own work; no program.
-/
namespace Go.Vi
theorem clip_id {k : Int} : ∀ l : List Sp, (∀ s ∈ l, k ≤ s.1 ∧ s.1 < s.2) → clipS k l = l
  | [], _ => rfl
  | s :: l, h => by
    have h1 := h s (by simp)
    have ih := clip_id l fun x hx => h x (by simp [hx])
    have e : clipS k (s :: l) = (if max s.1 k < s.2 then [(max s.1 k, s.2)] else []) ++ clipS k l := rfl
    rw [e, ih, if_pos (by omega), show max s.1 k = s.1 by omega]; rfl
theorem stS_ok {n : Int} (hn : 1 ≤ n) {l : List Sp} {k : Int} (h : ∀ s ∈ l, k ≤ s.1) : ∀ s ∈ stS n l, k ≤ s.1 ∧ s.1 < s.2 := fun s hs => by
  obtain ⟨y, hy, hys⟩ := List.mem_flatMap.1 hs
  have := h y hy
  split at hys
  · obtain rfl : s = _ := by simpa using hys
    dsimp only; omega
  · cases hys
def inB (l : List Sp) (at_ n : Int) : Bool := (List.range n.toNat).all fun i : Nat => hasS l (at_ + (i : Int))
theorem inB_iff {l : List Sp} {at_ n : Int} : inB l at_ n = true ↔ ∀ x, at_ ≤ x → x < at_ + n → hasS l x = true := by
  unfold inB
  rw [List.all_eq_true]
  constructor
  · intro h x h1 h2
    have := h (x - at_).toNat (List.mem_range.2 (by omega))
    rwa [show at_ + (((x - at_).toNat : Nat) : Int) = x by omega] at this
  · intro h i hi
    have := List.mem_range.1 hi
    exact h _ (by omega) (by omega)
theorem gridS_eq {g a b c : Int} (hg : 0 < g) (h : upG g a = upG g b) : gridS g a c = gridS g b c := by
  by_cases hh : upG g a < c
  · have e1 := gridS_cons hg hh
    have e2 := gridS_cons hg (a := b) (b := c) (by rw [← h]; exact hh)
    rw [e1, e2, h]
  · rw [gridS_nil hg hh, gridS_nil hg (by rw [← h]; exact hh)]
theorem upG_on {g a : Int} (h : a % g = 0) : upG g a = a := by unfold upG; rw [if_pos h]
theorem gridS_step {g a b : Int} (hg : 0 < g) (h : a % g = 0) (hab : a < b) : gridS g a b = a :: gridS g (a + g) b := by
  have e1 := upG_on h
  have h2 : (a + g) % g = 0 := by rw [Int.add_emod_right]; exact h
  have e2 : upG g (a + 1) = upG g (a + g) := by
    rw [upG_on h2]
    have l1 := upG_le hg (show a + 1 ≤ a + g by omega) h2
    have l2 := upG_ge (a := a + 1) hg
    have l3 := upG_mod (a := a + 1) hg
    apply Classical.byContradiction
    intro hn
    have l4 : (upG g (a + 1) - a) % g = 0 := by
      rw [Int.sub_emod, l3, h]; simp
    rw [Int.emod_eq_of_lt (by omega) (by omega)] at l4
    omega
  rw [gridS_cons hg (by rw [e1]; exact hab), e1, gridS_eq hg e2]
/-- The document's starts of a row between 0 and 2000. -/
def refSt (l : List Sp) (n g : Int) : List Int := (gridS g 0 2000).filter fun x => inB l x n
theorem ref_starts {l F : List Sp} (hF : Can F) (hh : ∀ m, hasS F m = hasS l m) {n g : Int} (hn : 1 ≤ n) (hg : 0 < g) (hl : ∀ s ∈ l, 0 ≤ s.1 ∧ s.2 ≤ 2000) : gridL g (stS n F) = refSt l n g := by
  refine sorted_ext _ _ (gridL_sorted hg _ (stS_sorted hF hn)) ((grid_sorted hg 0).filter _) fun x => ?_
  rw [mem_gridL hg, has_stS hF hn, refSt, List.mem_filter, mem_grid hg, inB_iff]
  constructor
  · rintro ⟨h1, h2⟩
    have h3 := h1 x (Int.le_refl _) (by omega)
    rw [hh] at h3
    obtain ⟨s, hs, a, b⟩ := hasS_iff.1 h3
    have := hl s hs
    exact ⟨⟨by omega, by omega, h2⟩, fun y a b => by rw [← hh]; exact h1 y a b⟩
  · rintro ⟨⟨_, _, h2⟩, h1⟩
    exact ⟨fun y a b => by rw [hh]; exact h1 y a b, h2⟩
theorem filter_from {l : List Int} (hl : l.Pairwise (· < ·)) {x : Int} (hx : x ∈ l) : (l.filter fun y => decide (x ≤ y)) = x :: l.filter fun y => decide (x + 1 ≤ y) := by
  refine sorted_ext _ _ (hl.filter _) (List.pairwise_cons.2 ⟨fun y hy => ?_, hl.filter _⟩) fun y => ?_
  · have := (List.mem_filter.1 hy).2
    simp only [decide_eq_true_eq] at this
    omega
  · rw [List.mem_cons, List.mem_filter, List.mem_filter]
    simp only [decide_eq_true_eq]
    constructor
    · rintro ⟨h1, h2⟩
      by_cases e : y = x
      · exact .inl e
      · exact .inr ⟨h1, by omega⟩
    · rintro (rfl | ⟨h1, h2⟩)
      · exact ⟨hx, Int.le_refl _⟩
      · exact ⟨h1, by omega⟩
theorem filter_filter_le {l : List Int} {a b : Int} (h : a ≤ b) : ((l.filter fun y => decide (a ≤ y)).filter fun y => decide (b ≤ y)) = l.filter fun y => decide (b ≤ y) := by
  rw [List.filter_filter]
  apply List.filter_congr
  intro x _
  rw [Bool.eq_iff_iff]
  simp only [Bool.and_eq_true, decide_eq_true_eq]
  omega
/-- Starts on a wider grid, or for more minutes, are among the others. -/
theorem finer {F : List Sp} (hF : Can F) {n k g h : Int} (hn : 1 ≤ n) (hnk : n ≤ k) (hg : 0 < g) (hh : 0 < h) (hgh : g ∣ h) {x : Int} (hx : x ∈ gridL h (stS k F)) : x ∈ gridL g (stS n F) := by
  rw [mem_gridL hh, has_stS hF (by omega)] at hx
  rw [mem_gridL hg, has_stS hF hn]
  refine ⟨fun y a b => hx.1 y a (by omega), ?_⟩
  exact Int.emod_eq_zero_of_dvd (Int.dvd_trans hgh (Int.dvd_of_emod_eq_zero hx.2))
end Go.Vi
namespace Go.Vi
theorem gridS_len {g b : Int} (hg : 0 < g) : ∀ a : Int, (gridS g a b).length ≤ (b - a).toNat := by
  refine gridS_ind (b := b) hg (fun a h => by rw [gridS_nil hg h]; simp) (fun a h ih => ?_)
  have := upG_ge (a := a) hg
  rw [gridS_cons hg h, List.length_cons]
  omega
theorem refSt_len {g : Int} (hg : 0 < g) (l : List Sp) (n : Int) : (refSt l n g).length ≤ 2000 := by
  have h1 := gridS_len (b := 2000) hg 0
  have h2 : (refSt l n g).length ≤ (gridS g 0 2000).length := List.length_filter_le ..
  omega
theorem refSt_sorted {g : Int} (hg : 0 < g) (l : List Sp) (n : Int) : (refSt l n g).Pairwise (· < ·) := (grid_sorted hg 0).filter _
theorem drop_cons {α : Type} {l : List α} {i : Nat} {x : α} (h : l[i]? = some x) : l.drop i = x :: l.drop (i + 1) := by
  have hi := (List.getElem?_eq_some_iff.1 h).1
  rw [List.drop_eq_getElem_cons hi]
  rw [List.getElem?_eq_getElem hi] at h; cases h; rfl
theorem sorted_from {l : List Int} (hl : l.Pairwise (· < ·)) {m : Int} (h : ∀ x, l.head? = some x → m ≤ x) : (l.filter fun y => decide (m ≤ y)) = l := by
  rw [List.filter_eq_self]
  intro y hy
  cases l with
  | nil => cases hy
  | cons x l =>
    have h1 := h x rfl
    rcases List.mem_cons.1 hy with rfl | hy
    · simpa using h1
    · have := (List.pairwise_cons.1 hl).1 y hy
      simp; omega
end Go.Vi
