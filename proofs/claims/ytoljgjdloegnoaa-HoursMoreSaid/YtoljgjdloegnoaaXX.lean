import Derived.Test.YtoljgjdloegnoaaVi1
set_option linter.unusedVariables false
set_option linter.unusedSimpArgs false
set_option linter.unnecessarySimpa false
/-
 XM1: spans of numbers: rows in their form are told by what is in them. Own work; no program.
-/
namespace Go.Vi
abbrev Sp := Int × Int
def inS (s : Sp) (m : Int) : Bool := decide (s.1 ≤ m) && decide (m < s.2)
theorem inS_iff {s : Sp} {m : Int} : inS s m = true ↔ s.1 ≤ m ∧ m < s.2 := by simp [inS]
def hasS (l : List Sp) (m : Int) : Bool := l.any fun s => inS s m
theorem hasS_iff {l : List Sp} {m : Int} : hasS l m = true ↔ ∃ s ∈ l, s.1 ≤ m ∧ m < s.2 := by
 simp only [hasS, List.any_eq_true, inS_iff]
theorem hasS_cons {s : Sp} {l : List Sp} {m : Int} : hasS (s :: l) m = (inS s m || hasS l m) := rfl
theorem hasS_nil {m : Int} : hasS [] m = false := rfl
theorem hasS_app {a b : List Sp} {m : Int} : hasS (a ++ b) m = (hasS a m || hasS b m) := by simp [hasS]
def Can (l : List Sp) : Prop := (l.Pairwise fun a b => a.2 < b.1) ∧ ∀ s ∈ l, s.1 < s.2
theorem Can.tail {s : Sp} {l : List Sp} (h : Can (s :: l)) : Can l ∧ s.1 < s.2 ∧ ∀ x ∈ l, s.2 < x.1 := by
 obtain ⟨h1, h2⟩ := List.pairwise_cons.1 h.1
 exact ⟨⟨h2, fun x hx => h.2 x (by simp [hx])⟩, h.2 s (by simp), h1⟩
theorem can_no {s : Sp} {l : List Sp} {m : Int} (h : ∀ x ∈ l, s.2 < x.1) (hm : m ≤ s.2) : hasS l m = false := by
 rw [Bool.eq_false_iff]
 intro hh
 obtain ⟨x, hx, h1, h2⟩ := hasS_iff.1 hh
 have := h x hx
 omega
theorem can_unique : ∀ (l k : List Sp), Can l → Can k → (∀ m, hasS l m = hasS k m) → l = k
 | [], [], _, _, _ => rfl
 | [], s :: k, _, hk, h => by
  have h1 := h s.1
  have h2 : hasS (s :: k) s.1 = true := hasS_iff.2 ⟨s, by simp, Int.le_refl _, hk.2 s (by simp)⟩
  rw [h2] at h1
  cases h1
 | s :: l, [], hl, _, h => by
  have h1 := h s.1
  have h2 : hasS (s :: l) s.1 = true := hasS_iff.2 ⟨s, by simp, Int.le_refl _, hl.2 s (by simp)⟩
  rw [h2] at h1
  cases h1
 | s :: l, r :: k, hl, hk, h => by
  obtain ⟨l1, l2, l3⟩ := hl.tail
  obtain ⟨k1, k2, k3⟩ := hk.tail
  have first : ∀ {s r : Sp} {l k : List Sp}, (∀ m, hasS (s :: l) m = hasS (r :: k) m) → s.1 < s.2 → r.1 < r.2 → (∀ x ∈ k, r.2 < x.1) → r.1 ≤ s.1 := fun {s r l k} h h1 h2 h3 => by
   have e : hasS (r :: k) s.1 = true := by rw [← h]; exact hasS_iff.2 ⟨s, by simp, Int.le_refl _, h1⟩
   obtain ⟨x, hx, g1, g2⟩ := hasS_iff.1 e
   rcases List.mem_cons.1 hx with rfl | hx
   ·exact g1
   ·have := h3 x hx; omega
  have e1 : s.1 = r.1 := Int.le_antisymm (first (fun m => (h m).symm) k2 l2 l3) (first h l2 k2 k3)
  have last : ∀ {s r : Sp} {l k : List Sp}, (∀ m, hasS (s :: l) m = hasS (r :: k) m) → s.1 = r.1 → s.1 < s.2 → (∀ x ∈ l, s.2 < x.1) → r.2 ≤ s.2 := fun {s r l k} h h0 h1 h3 => by
   by_cases hh : r.2 ≤ s.2
   ·exact hh
   ·have e : hasS (s :: l) s.2 = true := by rw [h]; exact hasS_iff.2 ⟨r, by simp, by omega, by omega⟩
    obtain ⟨x, hx, g1, g2⟩ := hasS_iff.1 e
    rcases List.mem_cons.1 hx with rfl | hx
    ·omega
    ·have := h3 x hx; omega
  have e2 : s.2 = r.2 := Int.le_antisymm (last (fun m => (h m).symm) e1.symm k2 k3) (last h e1 l2 l3)
  have es : s = r := Prod.ext e1 e2
  subst es
  have et : l = k := can_unique l k l1 k1 fun m => by
   have hm := h m
   rw [hasS_cons, hasS_cons] at hm
   cases hi : inS s m with
   | true =>
    have := (inS_iff.1 hi).2
    rw [can_no l3 (by omega), can_no k3 (by omega)]
   | false => rw [hi, Bool.false_or, Bool.false_or] at hm; exact hm
  rw [et]
def stepF (out : List Sp) (s : Sp) : List Sp := match out.getLast? with
 | some c => if s.1 ≤ c.2 then out.dropLast ++ [(c.1, max c.2 s.2)] else out ++ [s]
 | none => [s]
def formS (l : List Sp) : List Sp := l.foldl stepF []
theorem formS_snoc (l : List Sp) (s : Sp) : formS (l ++ [s]) = stepF (formS l) s := by simp [formS]
theorem getLast_split {l : List Sp} {c : Sp} (h : l.getLast? = some c) : l = l.dropLast ++ [c] := by
 rw [List.getLast?_eq_some_iff] at h
 obtain ⟨ys, rfl⟩ := h
 simp
theorem formS_spec : ∀ (l : List Sp), (l.Pairwise fun a b => a.1 ≤ b.1) → (∀ s ∈ l, s.1 < s.2) → Can (formS l) ∧ (∀ m, hasS (formS l) m = hasS l m) ∧ ∀ c ∈ formS l, ∃ d ∈ l, c.1 = d.1 := by
 have key : ∀ (l : List Sp) (out done : List Sp), Can out → (∀ m, hasS out m = hasS done m) → (∀ c ∈ out, ∃ d ∈ done, c.1 = d.1) → ((done ++ l).Pairwise fun a b => a.1 ≤ b.1) → (∀ s ∈ l, s.1 < s.2) →
   Can (l.foldl stepF out) ∧ (∀ m, hasS (l.foldl stepF out) m = hasS (done ++ l) m) ∧ ∀ c ∈ l.foldl stepF out, ∃ d ∈ done ++ l, c.1 = d.1 := by
  intro l
  induction l with
  | nil => intro out done h1 h2 h3 _ _; rw [List.append_nil]; exact ⟨h1, h2, h3⟩
  | cons s l ih =>
   intro out done h1 h2 h3 hs hn
   have hsn := hn s (by simp)
   have hle : ∀ d ∈ done, d.1 ≤ s.1 := fun d hd => (List.pairwise_append.1 hs).2.2 d hd s (by simp)
   have e : done ++ s :: l = (done ++ [s]) ++ l := by simp
   rw [List.foldl_cons, e]
   have step : Can (stepF out s) ∧ (∀ m, hasS (stepF out s) m = hasS (done ++ [s]) m) ∧ ∀ c ∈ stepF out s, ∃ d ∈ done ++ [s], c.1 = d.1 := by
    unfold stepF
    cases hg : out.getLast? with
    | none =>
     have : out = [] := by simpa using hg
     subst this
     refine ⟨⟨by simp, by simpa using hsn⟩, fun m => ?_, by simp⟩
     rw [hasS_app, ← h2 m]; simp [hasS_nil]
    | some c =>
     have hc := getLast_split hg
     have hcm : c ∈ out := by rw [hc]; simp
     obtain ⟨d, hd, hcd⟩ := h3 c hcm
     have hcs : c.1 ≤ s.1 := by rw [hcd]; exact hle d hd
     have hcn := h1.2 c hcm
     have hpw := h1.1
     generalize out.dropLast = o at hc
     subst hc
     obtain ⟨p1, p2, p3⟩ := List.pairwise_append.1 hpw
     dsimp only
     split
     ·rename_i hsc
      refine ⟨⟨?_, ?_⟩, fun m => ?_, ?_⟩
      ·rw [List.pairwise_append]
       refine ⟨p1, by simp, fun a ha b hb => ?_⟩
       simp at hb; subst hb
       exact p3 a ha c (by simp)
      ·intro x hx
       rcases List.mem_append.1 hx with hx | hx
       ·exact h1.2 x (by simp [hx])
       ·simp at hx; subst hx; show c.1 < max c.2 s.2; omega
      ·rw [hasS_app, hasS_app (a := done), ← h2 m, hasS_app, Bool.or_assoc]
       congr 1
       rw [Bool.eq_iff_iff]
       simp only [Bool.or_eq_true, hasS_iff, List.mem_singleton, exists_eq_left]
       omega
      ·intro x hx
       rcases List.mem_append.1 hx with hx | hx
       ·obtain ⟨d', hd', hh⟩ := h3 x (by simp [hx])
        exact ⟨d', by simp [hd'], hh⟩
       ·simp at hx; subst hx; exact ⟨d, by simp [hd], hcd⟩
     ·rename_i hsc
      refine ⟨⟨?_, ?_⟩, fun m => ?_, ?_⟩
      ·rw [List.pairwise_append]
       refine ⟨hpw, by simp, fun a ha b hb => ?_⟩
       simp at hb; subst hb
       rcases List.mem_append.1 ha with ha | ha
       ·have := p3 a ha c (by simp); omega
       ·simp at ha; subst ha; omega
      ·intro x hx
       rcases List.mem_append.1 hx with hx | hx
       ·exact h1.2 x hx
       ·simp at hx; subst hx; exact hsn
      ·rw [hasS_app, h2 m, hasS_app (a := done)]
      ·intro x hx
       rcases List.mem_append.1 hx with hx | hx
       ·obtain ⟨d', hd', hh⟩ := h3 x hx
        exact ⟨d', by simp [hd'], hh⟩
       ·simp at hx; subst hx; exact ⟨x, by simp, rfl⟩
   exact ih _ _ step.1 step.2.1 step.2.2 (by rw [← e]; exact hs) fun x hx => hn x (by simp [hx])
 intro l hs hn
 have := key l [] [] ⟨by simp, by simp⟩ (fun _ => rfl) (by simp) (by simpa using hs) hn
 simp only [List.nil_append] at this
 exact this
end Go.Vi

/-
 XH1: a zone's turns: how many are behind a minute, what is added, the next one. Own work; no program.
-/
namespace Go.Vi
abbrev Tn := Int × Int
theorem cut_count (p : Tn → Bool) (ts : List Tn) (n : Nat) (hn : n ≤ ts.length) (h1 : ∀ k t, k < n → ts[k]? = some t → p t = true) (h2 : ∀ k t, n ≤ k → ts[k]? = some t → p t = false) : ts.countP p = n := by
 rw [← List.take_append_drop n ts, List.countP_append]
 have e1 : (ts.take n).countP p = n := by
  rw [List.countP_eq_length.2]
  ·simp; omega
  ·intro t ht
   obtain ⟨k, hk⟩ := List.getElem?_of_mem ht
   rw [List.getElem?_take] at hk
   split at hk
   ·exact h1 k t (by assumption) hk
   ·cases hk
 have e2 : (ts.drop n).countP p = 0 := by
  rw [List.countP_eq_zero]
  intro t ht
  obtain ⟨k, hk⟩ := List.getElem?_of_mem ht
  rw [List.getElem?_drop] at hk
  simpa using h2 (n + k) t (by omega) hk
 omega
def Asc (ts : List Tn) : Prop := ∀ (i j : Nat) (t u : Tn), i < j → ts[i]? = some t → ts[j]? = some u → t.1 < u.1
def lt (ts : List Tn) (u : Int) : Nat := ts.countP (fun t => decide (t.1 < u))
def hit (ts : List Tn) (u : Int) : Bool := ts.any (fun t => decide (t.1 = u))
def bh (ts : List Tn) (u : Int) : Nat := ts.countP (fun t => decide (t.1 ≤ u))
theorem bh_eq {ts : List Tn} (ha : Asc ts) (u : Int) : bh ts u = lt ts u + (if hit ts u = true then 1 else 0) := by
 induction ts with
 | nil => rfl
 | cons t ts ih =>
  have ha' : Asc ts := fun i j x y h hx hy => ha (i + 1) (j + 1) x y (by omega) (by simpa using hx) (by simpa using hy)
  have hgt : ∀ y ∈ ts, t.1 < y.1 := fun y hy => by
   obtain ⟨k, hk⟩ := List.getElem?_of_mem hy
   exact ha 0 (k + 1) t y (by omega) (by simp) (by simpa using hk)
  have hc1 : bh (t :: ts) u = bh ts u + if t.1 ≤ u then 1 else 0 := by simp [bh, List.countP_cons]
  have hc2 : lt (t :: ts) u = lt ts u + if t.1 < u then 1 else 0 := by simp [lt, List.countP_cons]
  rw [hc1, hc2, ih ha']
  by_cases h : t.1 = u
  ·have h1 : hit ts u = false := by
    unfold hit
    rw [List.any_eq_false]; intro y hy; have := hgt y hy; simp; omega
   have h2 : hit (t :: ts) u = true := by
    unfold hit
    rw [List.any_cons, decide_eq_true h, Bool.true_or]
   rw [h1, h2]
   simp [h]
  ·have h1 : hit (t :: ts) u = hit ts u := by
    unfold hit
    rw [List.any_cons, decide_eq_false h, Bool.false_or]
   rw [h1]
   by_cases h2 : t.1 < u
   ·have h3 : t.1 ≤ u := by omega
    rw [if_pos h2, if_pos h3]; omega
   ·have h3 : ¬ t.1 ≤ u := by omega
    rw [if_neg h2, if_neg h3]; omega
theorem lt_le {ts : List Tn} {u : Int} : lt ts u ≤ ts.length := List.countP_le_length
theorem bh_le {ts : List Tn} {u : Int} : bh ts u ≤ ts.length := List.countP_le_length
def addO (b : Int) (ts : List Tn) (n : Nat) : Int := match n with
 | 0 => b
 | n + 1 => ((ts[n]?).map Prod.snd).getD 0
def nextT (ts : List Tn) (u : Int) : Option Int := (ts[bh ts u]?).map Prod.fst
theorem bh_split {ts : List Tn} (ha : Asc ts) (u : Int) : (∀ (k : Nat) t, k < bh ts u → ts[k]? = some t → t.1 ≤ u) ∧ ∀ (k : Nat) t, bh ts u ≤ k → ts[k]? = some t → ¬ t.1 ≤ u := by
 have : ∃ n, n ≤ ts.length ∧ (∀ (k : Nat) t, k < n → ts[k]? = some t → t.1 ≤ u) ∧ ∀ (k : Nat) t, n ≤ k → ts[k]? = some t → ¬ t.1 ≤ u := by
  induction ts with
  | nil => exact ⟨0, by simp, by simp, by simp⟩
  | cons x ts ih =>
   have ha' : Asc ts := fun i j a b h hx hy => ha (i + 1) (j + 1) a b (by omega) (by simpa using hx) (by simpa using hy)
   by_cases hx : x.1 ≤ u
   ·obtain ⟨n, h1, h2, h3⟩ := ih ha'
    refine ⟨n + 1, by simp; omega, fun k t hk ht => ?_, fun k t hk ht => ?_⟩
    ·cases k with
     | zero => simp at ht; subst ht; exact hx
     | succ k => exact h2 k t (by omega) (by simpa using ht)
    ·cases k with
     | zero => omega
     | succ k => exact h3 k t (by omega) (by simpa using ht)
   ·refine ⟨0, by simp, by simp, fun k t _ ht => ?_⟩
    cases k with
    | zero => simp at ht; subst ht; exact hx
    | succ k => have := ha 0 (k + 1) x t (by omega) (by simp) ht; omega
 obtain ⟨n, h1, h2, h3⟩ := this
 have : bh ts u = n := cut_count _ ts n h1 (fun k t a b => by simpa using h2 k t a b) (fun k t a b => by simpa using h3 k t a b)
 rw [this]
 exact ⟨h2, h3⟩
theorem next_gt {ts : List Tn} (ha : Asc ts) {u n : Int} (h : nextT ts u = some n) : u < n := by
 simp only [nextT, Option.map_eq_some_iff] at h
 obtain ⟨t, ht, rfl⟩ := h
 have := (bh_split ha u).2 _ t (Nat.le_refl _) ht
 omega
theorem bh_same {ts : List Tn} (ha : Asc ts) {u v : Int} (huv : u ≤ v) (h : ∀ n, nextT ts u = some n → v < n) : bh ts v = bh ts u := by
 obtain ⟨h1, h2⟩ := bh_split ha u
 refine cut_count _ ts (bh ts u) bh_le (fun k t hk ht => ?_) (fun k t hk ht => ?_)
 ·have := h1 k t hk ht; simp; omega
 ·have hlt := (List.getElem?_eq_some_iff.1 ht).1
  have hv := List.getElem?_eq_getElem (l := ts) (i := bh ts u) (by omega)
  have h3 := h _ (by rw [nextT, hv]; rfl)
  simp only [decide_eq_false_iff_not]
  rcases Nat.eq_or_lt_of_le hk with e | e
  ·subst e
   rw [hv] at ht; cases ht; omega
  ·have := ha _ k _ t e hv ht
   omega
theorem asc_of {ts : List Tn} (h : ts.Pairwise fun a b => a.1 < b.1) : Asc ts := fun i j t u hij ht hu => by
 rw [List.pairwise_iff_getElem] at h
 have h1 := (List.getElem?_eq_some_iff.1 ht)
 have h2 := (List.getElem?_eq_some_iff.1 hu)
 obtain ⟨a1, a2⟩ := h1
 obtain ⟨b1, b2⟩ := h2
 have := h i j a1 b1 hij
 rw [a2, b2] at this
 exact this
end Go.Vi

/-
 XH2: which minutes are worked; the parts of a span in which the same is added; a row told by what is in it. Own work; no program.
-/
namespace Go.Vi
abbrev Sf := Int × Int × Int
noncomputable def canOf (f : Int → Bool) : List Sp := by
 classical exact if h : ∃ l, Can l ∧ ∀ m, hasS l m = f m then Classical.choose h else []
theorem canOf_eq {f : Int → Bool} {l : List Sp} (hc : Can l) (hf : ∀ m, hasS l m = f m) : canOf f = l := by
 have h : ∃ l, Can l ∧ ∀ m, hasS l m = f m := ⟨l, hc, hf⟩
 unfold canOf
 rw [dif_pos h]
 obtain ⟨h1, h2⟩ := Classical.choose_spec h
 exact can_unique _ _ h1 hc fun m => by rw [h2, hf]
def bitB (n k : Int) : Bool := decide (n / 2 ^ k.toNat % 2 = 1)
def onB (off : List Int) (s : Sf) (day : Int) : Bool := !off.contains day && bitB s.1 (day % 7)
def locB (sh : List Sf) (off : List Int) (l : Int) : Bool := sh.any fun s => onB off s (l / 1440) && (decide (s.2.1 ≤ l % 1440) && decide (l % 1440 < s.2.2))
def workB (b : Int) (ts : List Tn) (sh : List Sf) (off : List Int) (u : Int) : Bool := decide (0 ≤ u ∧ u < 158310720) && locB sh off (u + addO b ts (bh ts u))
def partX (off : List Int) (s : Sp) (o n : Int) (x : Sf) : List Sp :=
 if onB off x n = true then (if max (n * 1440 - o + x.2.1) s.1 < min (n * 1440 - o + x.2.2) s.2 then [(max (n * 1440 - o + x.2.1) s.1, min (n * 1440 - o + x.2.2) s.2)] else []) else []
def partN (sh : List Sf) (off : List Int) (s : Sp) (o n : Int) : List Sp := sh.flatMap (partX off s o n)
def partL (sh : List Sf) (off : List Int) (s : Sp) (o n0 : Int) (k : Nat) : List Sp := (List.range k).flatMap fun i : Nat => partN sh off s o (n0 + (i : Int))
theorem partL_succ (sh : List Sf) (off : List Int) (s : Sp) (o n0 : Int) (k : Nat) : partL sh off s o n0 (k + 1) = partL sh off s o n0 k ++ partN sh off s o (n0 + k) := by
 unfold partL
 rw [List.range_succ, List.flatMap_append]; simp
theorem partN_take {sh : List Sf} {i : Nat} {x : Sf} (off : List Int) (s : Sp) (o n : Int) (h : sh[i]? = some x) : partN (sh.take (i + 1)) off s o n = partN (sh.take i) off s o n ++ partX off s o n x := by
 have : sh.take (i + 1) = sh.take i ++ [x] := by rw [List.take_add_one, h]; rfl
 rw [this]; unfold partN; rw [List.flatMap_append]; simp
theorem hasS_flat {α : Type} (l : List α) (f : α → List Sp) (m : Int) : hasS (l.flatMap f) m = l.any fun x => hasS (f x) m := by
 induction l with
 | nil => rfl
 | cons a l ih => rw [List.flatMap_cons, hasS_app, ih, List.any_cons]
theorem partX_has (off : List Int) (s : Sp) (o n : Int) (x : Sf) (m : Int) : hasS (partX off s o n x) m = (decide (s.1 ≤ m ∧ m < s.2) && (onB off x n && (decide (n * 1440 - o + x.2.1 ≤ m) && decide (m < n * 1440 - o + x.2.2)))) := by
 unfold partX
 cases onB off x n with
 | false => simp [hasS_nil]
 | true =>
  rw [if_pos rfl, Bool.eq_iff_iff]
  split
  ·simp only [hasS_cons, hasS_nil, inS, Bool.or_false, Bool.and_eq_true, decide_eq_true_eq, Bool.true_and]; omega
  ·simp only [hasS_nil, Bool.and_eq_true, decide_eq_true_eq, Bool.true_and, Bool.false_eq_true, false_iff]; omega
theorem partX_ne (off : List Int) (s : Sp) (o n : Int) (x : Sf) : ∀ p ∈ partX off s o n x, p.1 < p.2 := by
 unfold partX
 intro p hp
 split at hp
 ·split at hp
  ·obtain rfl : p = _ := by simpa using hp
   assumption
  ·simp at hp
 ·simp at hp
theorem partX_len (off : List Int) (s : Sp) (o n : Int) (x : Sf) : (partX off s o n x).length ≤ 1 := by
 unfold partX; (repeat' split) <;> simp
theorem partN_len (sh : List Sf) (off : List Int) (s : Sp) (o n : Int) : (partN sh off s o n).length ≤ sh.length := by
 induction sh with
 | nil => simp [partN]
 | cons x sh ih =>
  have := partX_len off s o n x
  unfold partN at ih ⊢
  rw [List.flatMap_cons, List.length_append, List.length_cons]; omega
theorem partL_len (sh : List Sf) (off : List Int) (s : Sp) (o n0 : Int) : ∀ k : Nat, (partL sh off s o n0 k).length ≤ k * sh.length
 | 0 => by simp [partL]
 | k + 1 => by
  have h1 := partL_len sh off s o n0 k
  have h2 := partN_len sh off s o (n0 + k)
  rw [partL_succ, List.length_append, Nat.succ_mul]; omega
theorem partL_ne (sh : List Sf) (off : List Int) (s : Sp) (o n0 : Int) (k : Nat) : ∀ p ∈ partL sh off s o n0 k, p.1 < p.2 := fun p hp => by
 unfold partL partN at hp
 obtain ⟨i, _, hp⟩ := List.mem_flatMap.1 hp
 obtain ⟨x, _, hp⟩ := List.mem_flatMap.1 hp
 exact partX_ne _ _ _ _ _ p hp
def daysN (s : Sp) (o : Int) : Nat := ((s.2 - 1 + o) / 1440 - (s.1 + o) / 1440 + 1).toNat
theorem part_has (sh : List Sf) (off : List Int) (s : Sp) (o : Int) (hs : s.1 < s.2) (hsh : ∀ x ∈ sh, 0 ≤ x.2.1 ∧ x.2.2 ≤ 1440) (m : Int) :
  hasS (partL sh off s o ((s.1 + o) / 1440) (daysN s o)) m = (decide (s.1 ≤ m ∧ m < s.2) && locB sh off (m + o)) := by
 rw [Bool.eq_iff_iff]
 unfold partL partN
 rw [hasS_flat]
 simp only [List.any_eq_true, List.mem_range, hasS_flat, partX_has, Bool.and_eq_true, decide_eq_true_eq, locB]
 constructor
 ·rintro ⟨i, hi, x, hx, ⟨h1, h2⟩, h3, h4, h5⟩
  have := hsh x hx
  have e : (m + o) / 1440 = (s.1 + o) / 1440 + (i : Int) := by omega
  refine ⟨⟨h1, h2⟩, x, hx, by rw [e]; exact h3, by omega, by omega⟩
 ·rintro ⟨⟨h1, h2⟩, x, hx, h3, h4, h5⟩
  have := hsh x hx
  have e : (s.1 + o) / 1440 + ((((m + o) / 1440 - (s.1 + o) / 1440).toNat : Nat) : Int) = (m + o) / 1440 := by omega
  refine ⟨((m + o) / 1440 - (s.1 + o) / 1440).toNat, by unfold daysN; omega, x, hx, ⟨h1, h2⟩, by rw [e]; exact h3, by rw [e]; omega, by rw [e]; omega⟩
theorem daysN_le (s : Sp) (o : Int) (hs : s.1 < s.2) : (daysN s o : Int) ≤ s.2 - s.1 + 1 := by unfold daysN; omega
def segTo (ts : List Tn) (a hi : Int) : Int := match nextT ts a with | some n => min n hi | none => hi
theorem segTo_gt {ts : List Tn} (ha : Asc ts) {a hi : Int} (h : a < hi) : a < segTo ts a hi ∧ segTo ts a hi ≤ hi := by
 unfold segTo
 cases hn : nextT ts a with
 | none => exact ⟨h, Int.le_refl _⟩
 | some n =>
  have := next_gt ha hn
  show a < min n hi ∧ min n hi ≤ hi
  omega
theorem segTo_same {ts : List Tn} (ha : Asc ts) {a hi m : Int} (h1 : a ≤ m) (h2 : m < segTo ts a hi) : bh ts m = bh ts a := by
 refine bh_same ha h1 fun n hn => ?_
 unfold segTo at h2
 rw [hn] at h2
 have : m < min n hi := h2
 omega
def Found (b : Int) (ts : List Tn) (sh : List Sf) (off : List Int) (lo at_ : Int) (out : List Sp) : Prop :=
 (∀ m, hasS out m = (decide (lo ≤ m ∧ m < at_) && workB b ts sh off m)) ∧ (∀ p ∈ out, p.1 < p.2) ∧ (out.length : Int) ≤ 30 * (at_ - lo)
theorem Found.step {b : Int} {ts : List Tn} {sh : List Sf} {off : List Int} {lo at_ hi : Int} {out : List Sp} (ha : Asc ts) (hsh : ∀ x ∈ sh, 0 ≤ x.2.1 ∧ x.2.2 ≤ 1440) (hl : sh.length ≤ 10) (h0 : 0 ≤ at_) (hlo : lo ≤ at_) (hh : hi ≤ 158310720) (hat : at_ < hi) (h : Found b ts sh off lo at_ out) :
  Found b ts sh off lo (segTo ts at_ hi) (out ++ partL sh off (at_, segTo ts at_ hi) (addO b ts (bh ts at_)) ((at_ + addO b ts (bh ts at_)) / 1440) (daysN (at_, segTo ts at_ hi) (addO b ts (bh ts at_)))) := by
 obtain ⟨g1, g2⟩ := segTo_gt ha hat
 obtain ⟨h1, h2, h3⟩ := h
 have hp := part_has sh off (at_, segTo ts at_ hi) (addO b ts (bh ts at_)) g1 hsh
 refine ⟨fun m => ?_, fun p hp => ?_, ?_⟩
 ·rw [hasS_app, h1, hp, Bool.eq_iff_iff]
  simp only [Bool.or_eq_true, Bool.and_eq_true, decide_eq_true_eq, workB]
  constructor
  ·rintro (⟨q1, q2⟩ | ⟨⟨q1, q2⟩, q3⟩)
   ·exact ⟨by omega, q2⟩
   ·refine ⟨by omega, by omega, ?_⟩
    rw [segTo_same ha q1 q2]; exact q3
  ·rintro ⟨q1, q2, q3⟩
   by_cases hm : m < at_
   ·exact .inl ⟨by omega, q2, q3⟩
   ·have q4 : at_ ≤ m := by omega
    refine .inr ⟨⟨q4, q1.2⟩, ?_⟩
    rw [segTo_same ha q4 q1.2] at q3; exact q3
 ·rcases List.mem_append.1 hp with hp | hp
  ·exact h2 p hp
  ·exact partL_ne _ _ _ _ _ _ p hp
 ·have e1 := partL_len sh off (at_, segTo ts at_ hi) (addO b ts (bh ts at_)) ((at_ + addO b ts (bh ts at_)) / 1440) (daysN (at_, segTo ts at_ hi) (addO b ts (bh ts at_)))
  have e2 := daysN_le (at_, segTo ts at_ hi) (addO b ts (bh ts at_)) g1
  have e3 : daysN (at_, segTo ts at_ hi) (addO b ts (bh ts at_)) * sh.length ≤ daysN (at_, segTo ts at_ hi) (addO b ts (bh ts at_)) * 10 := Nat.mul_le_mul_left _ hl
  rw [List.length_append]
  simp only at e2
  omega
theorem Found.form {b : Int} {ts : List Tn} {sh : List Sf} {off : List Int} {lo hi : Int} {out k : List Sp} (h : Found b ts sh off lo hi out) (hk : k.Perm out) (hs : k.Pairwise fun a b => a.1 ≤ b.1) (w : Sp) (hw : ∀ m, workB b ts sh off m = true → (lo ≤ m ∧ m < hi ↔ w.1 ≤ m ∧ m < w.2)) :
  formS k = canOf fun m => decide (w.1 ≤ m ∧ m < w.2) && workB b ts sh off m := by
 obtain ⟨h1, h2, _⟩ := h
 obtain ⟨c1, c2, _⟩ := formS_spec k hs (fun s hs' => h2 s (hk.mem_iff.1 hs'))
 refine (canOf_eq c1 fun m => ?_).symm
 have e : hasS k m = hasS out m := by
  rw [Bool.eq_iff_iff, hasS_iff, hasS_iff]; simp [hk.mem_iff]
 rw [c2, e, h1]
 cases hwk : workB b ts sh off m with
 | false => simp
 | true =>
  have := hw m hwk
  simp only [Bool.and_true]
  rw [Bool.eq_iff_iff]; simpa using this
end Go.Vi
