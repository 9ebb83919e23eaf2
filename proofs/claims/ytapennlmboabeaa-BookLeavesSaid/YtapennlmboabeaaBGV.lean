import Derived.Test.YtapennlmboabeaaBGY
set_option linter.unusedVariables false
set_option linter.unusedSimpArgs false
set_option linter.unnecessarySimpa false
namespace Go.Proofs.Ytapennlmboabeaa
open Go Go.Vi
def rep (u x : Us) : Us := if x.id = u.id then u else x
theorem rep_id (u x : Us) : (rep u x).id = x.id := by unfold rep; split <;> simp [*]
theorem map_rep_none (u : Us) : ∀ l : List Us, (∀ x ∈ l, x.id ≠ u.id) → l.map (rep u) = l
  | [], _ => rfl
  | x :: l, h => by
    rw [List.map_cons, map_rep_none u l fun y hy => h y (by simp [hy])]
    have := h x (by simp)
    simp [rep, this]
theorem fold_true (u : Us) : ∀ (l acc : List Us), (∀ x ∈ l, x.id ≠ u.id) → l.foldl (withS u) (acc, true) = (acc ++ l, true)
  | [], acc, _ => by simp
  | x :: l, acc, h => by
    have hx := h x (by simp)
    have e : withS u (acc, true) x = (acc ++ [x], true) := by simp [withS, hx]
    rw [List.foldl_cons, e, fold_true u l _ fun y hy => h y (by simp [hy])]
    simp
theorem fold_false (u : Us) : ∀ (l acc : List Us), (l.Pairwise fun a b => a.id < b.id) → (∃ x ∈ l, x.id = u.id) → l.foldl (withS u) (acc, false) = (acc ++ l.map (rep u), true)
  | [], _, _, h => by simp at h
  | x :: l, acc, hs, h => by
    obtain ⟨h1, h2⟩ := List.pairwise_cons.1 hs
    by_cases hx : x.id = u.id
    · have e : withS u (acc, false) x = (acc ++ [u], true) := by simp [withS, hx]
      have hn : ∀ y ∈ l, y.id ≠ u.id := fun y hy => by have := h1 y hy; omega
      rw [List.foldl_cons, e, fold_true u l _ hn, List.map_cons, map_rep_none u l hn]
      simp [rep, hx]
    · obtain ⟨y, hy, hyu⟩ := h
      have hyl : y ∈ l := by
        rcases List.mem_cons.1 hy with rfl | h
        · exact absurd hyu hx
        · exact h
      have hlt := h1 y hyl
      have e : withS u (acc, false) x = (acc ++ [x], false) := by
        have : ¬ u.id ≤ x.id := by omega
        simp [withS, hx, this]
      rw [List.foldl_cons, e, fold_false u l _ h2 ⟨y, hyl, hyu⟩]
      simp [rep, hx]
theorem withR_map {us : List Us} {u : Us} (hs : us.Pairwise fun a b => a.id < b.id) (h : ∃ x ∈ us, x.id = u.id) : withR us u = us.map (rep u) := by
  have : withG u us = (us.map (rep u), true) := by
    have := fold_false u us [] hs h
    simpa [withG] using this
  simp [withR, this]
theorem findU_some {us : List Us} {id : Int} {u : Us} (h : findU us id = some u) : u ∈ us ∧ u.id = id := by
  unfold findU at h
  have h1 := List.find?_some h
  exact ⟨List.mem_of_find?_eq_some h, by simpa using h1⟩
theorem findU_rep (us : List Us) (u : Us) (id : Int) : findU (us.map (rep u)) id = (findU us id).map (rep u) := by
  unfold findU
  rw [List.find?_map]
  congr 1
  apply congrArg (fun f => List.find? f us)
  funext x
  simp [rep_id]
/-- One step of the sum. -/
def stepV (s v : Int) : Int := bitXor .u64 (IntKind.u64.wrap (s * 1099511628211)) v
def R64 (x : Int) : Prop := 0 ≤ x ∧ x < 18446744073709551616
theorem wrapM (a : Nat) : IntKind.u64.wrap ((a : Int) * 1099511628211) = ((a * 1099511628211 % 18446744073709551616 : Nat) : Int) := by
  have : IntKind.u64.wrap ((a : Int) * 1099511628211) = ((a : Int) * 1099511628211) % 18446744073709551616 := by
    simp [IntKind.wrap, IntKind.signed, IntKind.bits]
  rw [this]; omega
theorem stepN {a v : Nat} (hv : v < 18446744073709551616) : stepV a v = (((a * 1099511628211 % 18446744073709551616) ^^^ v : Nat) : Int) := by
  unfold stepV
  rw [wrapM, bitXorN (Nat.mod_lt _ (by omega)) hv]
theorem stepR {a v : Int} (ha : R64 a) (hv : R64 v) : R64 (stepV a v) := by
  obtain ⟨n, rfl⟩ := Int.eq_ofNat_of_zero_le ha.1
  obtain ⟨m, rfl⟩ := Int.eq_ofNat_of_zero_le hv.1
  have hm := hv.2
  rw [stepN (by omega)]
  have h : (n * 1099511628211 % 18446744073709551616) ^^^ m < 2 ^ 64 := Nat.xor_lt_two_pow (Nat.mod_lt _ (by omega)) (by omega)
  exact ⟨by omega, by omega⟩
theorem step_inj_v {a v w : Int} (ha : R64 a) (hv : R64 v) (hw : R64 w) (h : stepV a v = stepV a w) : v = w := by
  obtain ⟨n, rfl⟩ := Int.eq_ofNat_of_zero_le ha.1
  obtain ⟨m, rfl⟩ := Int.eq_ofNat_of_zero_le hv.1
  obtain ⟨k, rfl⟩ := Int.eq_ofNat_of_zero_le hw.1
  have hm := hv.2
  have hk := hw.2
  rw [stepN (by omega), stepN (by omega)] at h
  have := xor_inj (Int.ofNat.inj h)
  rw [this]
theorem step_inj_a {a b v : Int} (ha : R64 a) (hb : R64 b) (hv : R64 v) (h : stepV a v = stepV b v) : a = b := by
  obtain ⟨n, rfl⟩ := Int.eq_ofNat_of_zero_le ha.1
  obtain ⟨m, rfl⟩ := Int.eq_ofNat_of_zero_le hv.1
  obtain ⟨k, rfl⟩ := Int.eq_ofNat_of_zero_le hb.1
  have h1 := ha.2
  have h2 := hb.2
  have h3 := hv.2
  rw [stepN (by omega), stepN (by omega)] at h
  have h4 := Int.ofNat.inj h
  rw [Nat.xor_comm _ m, Nat.xor_comm _ m] at h4
  have := mul_inj (by omega) (by omega) (xor_inj h4)
  rw [this]
/-- The sum, with any numbers. -/
def sumV (V : Int → Int) (l : List Int) (s : Int) : Int := l.foldl (fun s id => stepV s (V id)) s
theorem sumV_R {V : Int → Int} (hV : ∀ x, R64 (V x)) : ∀ (l : List Int) (s : Int), R64 s → R64 (sumV V l s)
  | [], _, h => h
  | x :: l, s, h => sumV_R hV l _ (stepR h (hV x))
theorem sumV_same {V W : Int → Int} : ∀ (l : List Int) (s : Int), (∀ x ∈ l, V x = W x) → sumV V l s = sumV W l s
  | [], _, _ => rfl
  | x :: l, s, h => by
    show sumV V l (stepV s (V x)) = sumV W l (stepV s (W x))
    rw [h x (by simp)]
    exact sumV_same l _ fun y hy => h y (by simp [hy])
theorem sumV_inj {V W : Int → Int} (hV : ∀ x, R64 (V x)) : ∀ (l : List Int) (s r : Int), R64 s → R64 r → (∀ x ∈ l, V x = W x) → s ≠ r → sumV V l s ≠ sumV W l r
  | [], _, _, _, _, _, h => h
  | x :: l, s, r, hs, hr, he, h => by
    show sumV V l (stepV s (V x)) ≠ sumV W l (stepV r (W x))
    rw [← he x (by simp)]
    refine sumV_inj hV l _ _ (stepR hs (hV x)) (stepR hr (hV x)) (fun y hy => he y (by simp [hy])) fun hh => h (step_inj_a hs hr (hV x) hh)
theorem sumV_once {V W : Int → Int} {k : Int} (hV : ∀ x, R64 (V x)) (hW : ∀ x, R64 (W x)) (hk : V k ≠ W k) (he : ∀ x, x ≠ k → V x = W x) : ∀ (l : List Int) (s : Int), R64 s → l.count k = 1 → sumV V l s ≠ sumV W l s
  | [], _, _, h => by simp at h
  | x :: l, s, hs, h => by
    show sumV V l (stepV s (V x)) ≠ sumV W l (stepV s (W x))
    by_cases hx : x = k
    · subst hx
      have h0 : l.count x = 0 := by simpa using h
      refine sumV_inj hV l _ _ (stepR hs (hV x)) (stepR hs (hW x)) (fun y hy => he y ?_) fun hh => hk (step_inj_v hs (hV x) (hW x) hh)
      rintro rfl
      exact List.count_eq_zero.1 h0 hy
    · rw [← he x hx]
      refine sumV_once hV hW hk he l _ (stepR hs (hV x)) ?_
      rw [List.count_cons] at h
      have : (x == k) = false := by simpa using hx
      simpa [this] using h
theorem vers_sum (us : List Us) (l : List Int) (s : Int) : vers us l s = sumV (fun id => ((findU us id).getD zU).ver) l s := rfl
theorem ver_R {us : List Us} (h : ∀ u ∈ us, R64 u.ver) (id : Int) : R64 ((findU us id).getD zU).ver := by
  cases hf : findU us id with
  | none => simp [zU, R64]
  | some u => exact h u (findU_some hf).1
theorem vers_ne {us : List Us} {u : Us} {user : Int} {l : List Int} (hs : us.Pairwise fun a b => a.id < b.id) (hv : ∀ u ∈ us, R64 u.ver) (hf : findU us user = some u) (hc : l.count user = 1) :
    vers (withR us { u with ver := IntKind.u64.wrap (u.ver + 1) }) l 14695981039346656037 ≠ vers us l 14695981039346656037 := by
  obtain ⟨hm, hid⟩ := findU_some hf
  have hvu := hv u hm
  obtain ⟨w, hw⟩ : ∃ w, w = IntKind.u64.wrap (u.ver + 1) := ⟨_, rfl⟩
  have hwR : R64 w ∧ w ≠ u.ver := by
    by_cases h : u.ver = 18446744073709551615
    · have : w = 0 := by rw [hw, h]; rfl
      exact ⟨⟨by omega, by omega⟩, by omega⟩
    · have : w = u.ver + 1 := by rw [hw]; exact wu64 (by have := hvu.1; omega) (by have := hvu.2; omega)
      have h1 := hvu.1
      have h2 := hvu.2
      exact ⟨⟨by omega, by omega⟩, by omega⟩
  rw [← hw, withR_map (u := { u with ver := w }) hs ⟨u, hm, rfl⟩, vers_sum, vers_sum]
  have e : ∀ id, findU (us.map (rep { u with ver := w })) id = (findU us id).map (rep { u with ver := w }) := fun id => findU_rep us _ id
  have hR : ∀ id, R64 ((findU (us.map (rep { u with ver := w })) id).getD zU).ver := fun id => by
    rw [e]
    cases hf' : findU us id with
    | none => simp [zU, R64]
    | some y =>
      have hy := hv y (findU_some hf').1
      simp only [Option.map_some, Option.getD_some, rep]
      split
      · exact hwR.1
      · exact hy
  refine sumV_once hR (ver_R hv) ?_ ?_ l _ ⟨by omega, by omega⟩ hc
  · rw [e, hf]
    simp only [Option.map_some, Option.getD_some, rep, if_true]
    exact hwR.2
  · intro x hx
    rw [e]
    cases hf' : findU us x with
    | none => rfl
    | some y =>
      have hyx := (findU_some hf').2
      have : ¬ y.id = u.id := by rw [hyx, hid]; exact hx
      simp only [Option.map_some, Option.getD_some, rep, if_neg this]
end Go.Proofs.Ytapennlmboabeaa
