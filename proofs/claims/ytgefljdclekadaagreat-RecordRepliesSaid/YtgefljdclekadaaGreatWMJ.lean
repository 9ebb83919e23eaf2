import Derived.Test.YtgefljdclekadaaGreatWMB
import Derived.Test.YtgefljdclekadaaGreatWMH
import Derived.Test.YtgefljdclekadaaGreatWMI
set_option linter.unusedVariables false
set_option linter.unusedSimpArgs false
set_option linter.unnecessarySimpa false
namespace Go.Proofs.YtgefljdclekadaaGreat
open Go Go.Vi

abbrev sh1 (b : Nat) (k : IntKind) : Sh := .slice b [.int k]
abbrev sh2 (b : Nat) (k m : IntKind) : Sh := .slice b [.int k, .int m]
abbrev sh3 : Sh := .slice 24 [.int .i64, .int .i64, .int .i64]
def shPo : List Sh := [.int .u32, .int .u32, .int .i64, .int .i64, .int .i64, .int .i64, sh1 4 .u32, sh2 16 .u32 .i64, .int .i64, sh2 8 .u32 .u32, sh3, sh1 8 .i64, sh2 16 .u32 .i64, .int .i64, .int .i64, .int .i64]
theorem rows_map {α : Type} {f : α → List D} {shs : List Sh} {Q : α → Prop} (hd : ∀ ds, FitsAll shs ds → ∃ x, ds = f x ∧ Q x) : ∀ rows : List (List D), (∀ r ∈ rows, FitsAll shs r) → ∃ l : List α, rows = l.map f ∧ ∀ x ∈ l, Q x
 | [], _ => ⟨[], rfl, by simp⟩
 | r :: rows, h => by
  obtain ⟨l, hl, hq⟩ := rows_map hd rows fun r hr => h r (by simp [hr])
  obtain ⟨x, hx, qx⟩ := hd r (h r (by simp))
  refine ⟨x :: l, by rw [hx, hl]; rfl, fun y hy => ?_⟩
  rcases List.mem_cons.1 hy with rfl | h
  ·exact qx
  ·exact hq y h
theorem fitL {α : Type} {f : α → List D} {shs : List Sh} {Q : α → Prop} {b : Nat} {d : D} (hd : ∀ ds, FitsAll shs ds → ∃ x, ds = f x ∧ Q x) (h : Fits (.slice b shs) d) : ∃ l : List α, d = L (l.map f) ∧ l.length * b ≤ 140737488351232 ∧ ∀ x ∈ l, Q x := by
 simp only [Fits] at h
 obtain ⟨rows, rfl, hl, hr⟩ := h
 obtain ⟨l, rfl, hq⟩ := rows_map hd rows hr
 exact ⟨l, rfl, by simpa using hl, hq⟩
theorem fit1 {b : Nat} {k : IntKind} {d : D} (hb : 0 < b) (h : Fits (sh1 b k) d) : ∃ l : List Int, d = L (row1 k l) ∧ l.length ≤ 140737488351232 := by
 obtain ⟨l, h1, h2, _⟩ := fitL (f := fun x : Int => [D.int k x]) (Q := fun _ => True) (fun ds h => by
  simp only [FitsAll, Fits] at h
  obtain ⟨_, _, rfl, ⟨n, rfl, _⟩, rfl⟩ := h
  exact ⟨n, rfl, trivial⟩) h
 exact ⟨l, h1, Nat.le_trans (Nat.le_mul_of_pos_right _ hb) h2⟩
theorem fit2 {b : Nat} {k m : IntKind} {d : D} (hb : 0 < b) (h : Fits (sh2 b k m) d) : ∃ l : List (Int × Int), d = L (row2 k m l) ∧ l.length ≤ 140737488351232 := by
 obtain ⟨l, h1, h2, _⟩ := fitL (f := fun x : Int × Int => [D.int k x.1, D.int m x.2]) (Q := fun _ => True) (fun ds h => by
  simp only [FitsAll, Fits] at h
  obtain ⟨_, _, rfl, ⟨n, rfl, _⟩, _, _, rfl, ⟨n', rfl, _⟩, rfl⟩ := h
  exact ⟨(n, n'), rfl, trivial⟩) h
 exact ⟨l, h1, Nat.le_trans (Nat.le_mul_of_pos_right _ hb) h2⟩
theorem fit3 {d : D} (h : Fits sh3 d) : ∃ l : List (Int × Int × Int), d = L (row3 l) ∧ l.length ≤ 140737488351232 := by
 obtain ⟨l, h1, h2, _⟩ := fitL (f := fun x : Int × Int × Int => [D.int .i64 x.1, D.int .i64 x.2.1, D.int .i64 x.2.2]) (Q := fun _ => True) (fun ds h => by
  simp only [FitsAll, Fits] at h
  obtain ⟨_, _, rfl, ⟨n, rfl, _⟩, _, _, rfl, ⟨n', rfl, _⟩, _, _, rfl, ⟨n'', rfl, _⟩, rfl⟩ := h
  exact ⟨(n, n', n''), rfl, trivial⟩) h
 exact ⟨l, h1, by omega⟩
theorem fitI {k : IntKind} {d : D} (h : Fits (.int k) d) : ∃ n, d = .int k n := by simp only [Fits] at h; obtain ⟨n, h, _⟩ := h; exact ⟨n, h⟩
theorem fitS {d : D} (h : Fits .str d) : ∃ s : ByteArray, d = .str s ∧ s.size ≤ 140737488351232 := by simp only [Fits] at h; exact h
theorem decPo (ds : List D) (h : FitsAll shPo ds) : ∃ p : Po, ds = p.row ∧ p.fits := by
 simp only [shPo, FitsAll] at h
 obtain ⟨_, _, rfl, ha, _, _, rfl, hb, _, _, rfl, h0, _, _, rfl, h1, _, _, rfl, h2, _, _, rfl, h3, _, _, rfl, h4, _, _, rfl, h5, _, _, rfl, h6, _, _, rfl, h7, _, _, rfl, h8, _, _, rfl, h9, _, _, rfl, h10, _, _, rfl, h11, _, _, rfl, h12, _, _, rfl, h13, rfl⟩ := h
 obtain ⟨na, rfl⟩ := fitI ha
 obtain ⟨nb, rfl⟩ := fitI hb
 obtain ⟨n0, rfl⟩ := fitI h0
 obtain ⟨n1, rfl⟩ := fitI h1
 obtain ⟨n2, rfl⟩ := fitI h2
 obtain ⟨n3, rfl⟩ := fitI h3
 obtain ⟨l4, rfl, g4⟩ := fit1 (by decide) h4
 obtain ⟨l5, rfl, g5⟩ := fit2 (by decide) h5
 obtain ⟨n6, rfl⟩ := fitI h6
 obtain ⟨l7, rfl, g7⟩ := fit2 (by decide) h7
 obtain ⟨l8, rfl, g8⟩ := fit3 h8
 obtain ⟨l9, rfl, g9⟩ := fit1 (by decide) h9
 obtain ⟨l10, rfl, g10⟩ := fit2 (by decide) h10
 obtain ⟨n11, rfl⟩ := fitI h11
 obtain ⟨n12, rfl⟩ := fitI h12
 obtain ⟨n13, rfl⟩ := fitI h13
 exact ⟨⟨na, nb, ⟨n0, n1, n2, n3, l4, l5, n6, l7, l8⟩, l9, l10, n11, n12, n13⟩, rfl, ⟨g4, g5, g7, g8⟩, g9, g10⟩
end Go.Proofs.YtgefljdclekadaaGreat

namespace Go.Proofs.YtgefljdclekadaaGreat
open Go Go.Vi
def shRe : List Sh := [.int .i64, .int .u64, sh3, .str, .int .u32, .int .u32, .int .i64, .int .i64, .int .i64, .int .i64, sh1 4 .u32, sh2 16 .u32 .i64, .int .i64, sh2 8 .u32 .u32, sh3, sh1 8 .i64, sh2 16 .u32 .i64, .int .i64, .int .i64, .int .i64]
theorem decRe (ds : List D) (h : FitsAll shRe ds) : ∃ r : Re, ds = r.cells ∧ r.fits := by
 simp only [shRe, FitsAll] at h
 obtain ⟨_, _, rfl, h0, _, _, rfl, h1, _, _, rfl, h2, d, r, rfl, h3, h⟩ := h
 obtain ⟨n0, rfl⟩ := fitI h0
 obtain ⟨n1, rfl⟩ := fitI h1
 obtain ⟨l2, rfl, g2⟩ := fit3 h2
 obtain ⟨n3, rfl, _⟩ := fitS h3
 obtain ⟨p, rfl, hp⟩ := decPo r (by simp only [shPo, FitsAll]; exact h)
 exact ⟨⟨n0, n1, l2, n3, p⟩, rfl, g2, hp⟩
end Go.Proofs.YtgefljdclekadaaGreat

namespace Go.Proofs.YtgefljdclekadaaGreat
open Go Go.Vi

theorem ft_cons {s : Sh} {ss : List Sh} {d : D} {r : List D} : FitsAll (s :: ss) (d :: r) ↔ Fits s d ∧ FitsAll ss r := by
 simp only [FitsAll]
 constructor
 ·rintro ⟨_, _, h, h1, h2⟩
  cases h
  exact ⟨h1, h2⟩
 ·rintro ⟨h1, h2⟩
  exact ⟨_, _, rfl, h1, h2⟩
theorem ft_int {k : IntKind} {n : Int} : Fits (.int k) (.int k n) ↔ k.min ≤ n ∧ n ≤ k.max := by
 simp only [Fits]
 constructor
 ·rintro ⟨_, h, h1⟩
  cases h
  exact h1
 ·intro h
  exact ⟨_, rfl, h⟩
theorem ft_L {α : Type} {f : α → List D} {b : Nat} {shs : List Sh} {l : List α} (hb : 0 < b) (h : Fits (.slice b shs) (L (l.map f))) : l.length ≤ 140737488351232 ∧ ∀ x ∈ l, FitsAll shs (f x) := by
 simp only [Fits] at h
 obtain ⟨rows, e, hl, hr⟩ := h
 injection e with _ _ e
 subst e
 refine ⟨Nat.le_trans (Nat.le_mul_of_pos_right _ hb) (by simpa using hl), fun x hx => hr _ (List.mem_map_of_mem hx)⟩
theorem ft_1 {k : IntKind} {b : Nat} {l : List Int} (hb : 0 < b) (h : Fits (sh1 b k) (L (row1 k l))) : l.length ≤ 140737488351232 ∧ ∀ x ∈ l, k.min ≤ x ∧ x ≤ k.max := by
 obtain ⟨h1, h2⟩ := ft_L hb h
 refine ⟨h1, fun x hx => ?_⟩
 have := h2 x hx
 rw [ft_cons, ft_int] at this
 exact this.1
theorem ft_2 {k m : IntKind} {b : Nat} {l : List (Int × Int)} (hb : 0 < b) (h : Fits (sh2 b k m) (L (row2 k m l))) : l.length ≤ 140737488351232 ∧ ∀ x ∈ l, (k.min ≤ x.1 ∧ x.1 ≤ k.max) ∧ (m.min ≤ x.2 ∧ x.2 ≤ m.max) := by
 obtain ⟨h1, h2⟩ := ft_L hb h
 refine ⟨h1, fun x hx => ?_⟩
 have := h2 x hx
 rw [ft_cons, ft_cons, ft_int, ft_int] at this
 exact ⟨this.1, this.2.1⟩
theorem ft_3 {l : List (Int × Int × Int)} (h : Fits sh3 (L (row3 l))) : l.length ≤ 140737488351232 ∧ ∀ x ∈ l, Fit x.1 ∧ Fit x.2.1 ∧ Fit x.2.2 := by
 obtain ⟨h1, h2⟩ := ft_L (by decide) h
 refine ⟨h1, fun x hx => ?_⟩
 have := h2 x hx
 rw [ft_cons, ft_cons, ft_cons, ft_int, ft_int, ft_int] at this
 exact ⟨this.1, this.2.1, this.2.2.1⟩
end Go.Proofs.YtgefljdclekadaaGreat

namespace Go.Proofs.YtgefljdclekadaaGreat
open Go Go.Vi

theorem n10 (x : Int) : (num (uI x)).length ≤ 10 := num_10 (uI_lt x)
theorem z10 {x : Int} (h : Fit x) : (num (zz x)).length ≤ 10 := num_10 (zz_lt h.1 h.2)
theorem fm30 {α : Type} {e : α → List UInt8} : ∀ (l : List α), (∀ y ∈ l, (e y).length ≤ 30) → (l.flatMap e).length ≤ 30 * l.length
 | [], _ => by simp
 | y :: l, h => by
  have h1 := fm30 l fun z hz => h z (List.mem_cons_of_mem _ hz)
  have h2 := h y List.mem_cons_self
  rw [List.flatMap_cons, List.length_append, List.length_cons]
  omega
theorem row30 {α : Type} {e : α → List UInt8} {f : α → Prop} (he : ∀ y, f y → (e y).length ≤ 30) (l : List α) (n : Nat) (hn : l.length ≤ n) (h8 : n ≤ 1000) (h : ∀ y ∈ l, f y) : (eRow e l).length ≤ 10 + 30 * n := by
 unfold eRow
 have h1 := fm30 (e := e) l fun y hy => he y (h y hy)
 have h2 := num_10 (n := l.length) (by omega)
 rw [List.length_append]
 omega
theorem lenSh (x : Int × Int × Int) (h : fSh x) : (eSh x).length ≤ 30 := by
 have h1 := n10 x.1; have h2 := n10 x.2.1; have h3 := n10 x.2.2
 simp only [eSh, List.length_append]; omega
theorem lenMu (x : Int) (h : fMu x) : (eMu x).length ≤ 30 := by
 have h1 := n10 x
 simp only [eMu]; omega
theorem lenWa (x : Int × Int) (h : fWa x) : (eWa x).length ≤ 30 := by
 have h1 := n10 x.1; have h2 := n10 x.2
 simp only [eWa, List.length_append]; omega
theorem lenPa (x : Int × Int) (h : fPa x) : (ePa x).length ≤ 30 := by
 have h1 := n10 x.1; have h2 := n10 x.2
 simp only [ePa, List.length_append]; omega
theorem lenQu {s : Qu} (h : fQu s) (g : s.great = false) : (eQu s).length ≤ 100000 := by
 simp only [Qu.great, Bool.or_eq_false_iff, decide_eq_false_iff_not] at g
 obtain ⟨h1, h2, h3, h4, ⟨h5, h6⟩, ⟨h7, h8⟩, h9, ⟨h10, h11⟩, h12, h13⟩ := h
 have a1 := z10 h1
 have a2 := z10 h2
 have a3 := n10 s.long
 have a4 := n10 s.grid
 have a5 := row30 lenMu s.must 80 (by omega) (by omega) h6
 have a6 := row30 lenWa s.may 40 (by omega) (by omega) h8
 have a7 := n10 s.seats
 have a8 := row30 lenPa s.apart 60 (by omega) (by omega) h11
 have a9 := row30 lenSh s.prefer 30 (by omega) (by omega) h13
 simp only [eQu, eHs, List.length_append]
 omega
end Go.Proofs.YtgefljdclekadaaGreat
