import Derived.Test.YtapennlmboabeaaBG6
set_option linter.unusedVariables false
set_option linter.unusedSimpArgs false
set_option linter.unnecessarySimpa false
namespace Go.Proofs.Ytapennlmboabeaa
open Go Go.Vi

abbrev sh1 (b : Nat) (k : IntKind) : Sh := .slice b [.int k]
abbrev sh2 (b : Nat) (k m : IntKind) : Sh := .slice b [.int k, .int m]
abbrev sh3 : Sh := .slice 24 [.int .i64, .int .i64, .int .i64]
def shSe : List Sh := [.int .i64, sh2 16 .i64 .i64, sh3, sh1 8 .i64, .int .i64, .int .i64]
def shEv : List Sh := [.int .i64, .int .i64, .bool, .bool, .int .i64, .int .i64, .int .i64, .int .i64, sh1 8 .i64, sh1 8 .i64, sh2 16 .i64 .i64, sh1 8 .i64, .int .i64, sh1 8 .i64, sh1 8 .i64, sh3]
def shEn : List Sh := [.int .u32, .int .i64, .int .i64, .bool, .bool, .int .i64, .int .i64, .int .i64, .int .i64, sh1 8 .i64, sh1 8 .i64, sh2 16 .i64 .i64, sh1 8 .i64, .int .i64, sh1 8 .i64, sh1 8 .i64, sh3]
def shUs : List Sh := [.int .u32, .int .i64, sh2 16 .i64 .i64, sh3, sh1 8 .i64, .int .i64, .int .i64, .int .u64, .slice 240 shEn]
def shQu : List Sh := [.int .i64, .int .i64, .int .i64, .int .i64, sh1 4 .u32, sh2 16 .u32 .i64, .int .i64, sh2 8 .u32 .u32, sh3]
def shPo : List Sh := [.int .u32, .int .u32, .int .i64, .int .i64, .int .i64, .int .i64, sh1 4 .u32, sh2 16 .u32 .i64, .int .i64, sh2 8 .u32 .u32, sh3, sh1 8 .i64, sh2 16 .u32 .i64, .int .i64, .int .i64, .int .i64]
def shDn : List Sh := [.int .u32, .int .u64, .int .u64]
def shSt : List Sh := [.int .i64, .slice 136 shUs, .slice 216 shPo, .slice 24 shDn]
theorem rows_map {α : Type} {f : α → List D} {shs : List Sh} {Q : α → Prop} (hd : ∀ ds, FitsAll shs ds → ∃ x, ds = f x ∧ Q x) : ∀ rows : List (List D), (∀ r ∈ rows, FitsAll shs r) → ∃ l : List α, rows = l.map f ∧ ∀ x ∈ l, Q x
  | [], _ => ⟨[], rfl, by simp⟩
  | r :: rows, h => by
    obtain ⟨l, hl, hq⟩ := rows_map hd rows fun r hr => h r (by simp [hr])
    obtain ⟨x, hx, qx⟩ := hd r (h r (by simp))
    refine ⟨x :: l, by rw [hx, hl]; rfl, fun y hy => ?_⟩
    rcases List.mem_cons.1 hy with rfl | h
    · exact qx
    · exact hq y h
theorem fitL {α : Type} {f : α → List D} {shs : List Sh} {Q : α → Prop} {b : Nat} {d : D} (hd : ∀ ds, FitsAll shs ds → ∃ x, ds = f x ∧ Q x) (h : Fits (.slice b shs) d) : ∃ l : List α, d = L (l.map f) ∧ l.length * b ≤ 140737488351232 ∧ ∀ x ∈ l, Q x := by
  simp only [Fits] at h
  obtain ⟨rows, rfl, hl, hr⟩ := h
  obtain ⟨l, rfl, hq⟩ := rows_map hd rows hr
  exact ⟨l, rfl, by simpa using hl, hq⟩
theorem fit1 {b : Nat} {k : IntKind} {d : D} (hb : 0 < b) (h : Fits (sh1 b k) d) : ∃ l : List Int, d = L (row1 k l) ∧ l.length ≤ 140737488351232 := by
  obtain ⟨l, h1, h2, _⟩ := fitL (f := fun x : Int => [D.int k x]) (Q := fun _ => True) (fun ds h => by
    simp only [FitsAll, Fits] at h
    obtain ⟨_, _, rfl, ⟨n, rfl, _⟩, rfl⟩ := h
    exact ⟨n, rfl, trivial⟩) h
  exact ⟨l, h1, Nat.le_trans (Nat.le_mul_of_pos_right _ hb) h2⟩
theorem fit2 {b : Nat} {k m : IntKind} {d : D} (hb : 0 < b) (h : Fits (sh2 b k m) d) : ∃ l : List (Int × Int), d = L (row2 k m l) ∧ l.length ≤ 140737488351232 := by
  obtain ⟨l, h1, h2, _⟩ := fitL (f := fun x : Int × Int => [D.int k x.1, D.int m x.2]) (Q := fun _ => True) (fun ds h => by
    simp only [FitsAll, Fits] at h
    obtain ⟨_, _, rfl, ⟨n, rfl, _⟩, _, _, rfl, ⟨n', rfl, _⟩, rfl⟩ := h
    exact ⟨(n, n'), rfl, trivial⟩) h
  exact ⟨l, h1, Nat.le_trans (Nat.le_mul_of_pos_right _ hb) h2⟩
theorem fit3 {d : D} (h : Fits sh3 d) : ∃ l : List (Int × Int × Int), d = L (row3 l) ∧ l.length ≤ 140737488351232 := by
  obtain ⟨l, h1, h2, _⟩ := fitL (f := fun x : Int × Int × Int => [D.int .i64 x.1, D.int .i64 x.2.1, D.int .i64 x.2.2]) (Q := fun _ => True) (fun ds h => by
    simp only [FitsAll, Fits] at h
    obtain ⟨_, _, rfl, ⟨n, rfl, _⟩, _, _, rfl, ⟨n', rfl, _⟩, _, _, rfl, ⟨n'', rfl, _⟩, rfl⟩ := h
    exact ⟨(n, n', n''), rfl, trivial⟩) h
  exact ⟨l, h1, by omega⟩
theorem fitI {k : IntKind} {d : D} (h : Fits (.int k) d) : ∃ n, d = .int k n := by simp only [Fits] at h; obtain ⟨n, h, _⟩ := h; exact ⟨n, h⟩
theorem fitB {d : D} (h : Fits .bool d) : ∃ n, d = .bool n := by simp only [Fits] at h; exact h
theorem fitS {d : D} (h : Fits .str d) : ∃ s : ByteArray, d = .str s ∧ s.size ≤ 140737488351232 := by simp only [Fits] at h; exact h
theorem decSe (ds : List D) (h : FitsAll shSe ds) : ∃ s : Se, ds = s.cells ∧ s.fits := by
  simp only [shSe, FitsAll] at h
  obtain ⟨_, _, rfl, h1, _, _, rfl, h2, _, _, rfl, h3, _, _, rfl, h4, _, _, rfl, h5, _, _, rfl, h6, rfl⟩ := h
  obtain ⟨n1, rfl⟩ := fitI h1
  obtain ⟨l2, rfl, g2⟩ := fit2 (by decide) h2
  obtain ⟨l3, rfl, g3⟩ := fit3 h3
  obtain ⟨l4, rfl, g4⟩ := fit1 (by decide) h4
  obtain ⟨n5, rfl⟩ := fitI h5
  obtain ⟨n6, rfl⟩ := fitI h6
  exact ⟨⟨n1, l2, l3, l4, n5, n6⟩, rfl, g2, g3, g4⟩
theorem decEv (ds : List D) (h : FitsAll shEv ds) : ∃ s : Ev, ds = s.cells ∧ s.fits := by
  simp only [shEv, FitsAll] at h
  obtain ⟨_, _, rfl, h1, _, _, rfl, h2, _, _, rfl, h3, _, _, rfl, h4, _, _, rfl, h5, _, _, rfl, h6, _, _, rfl, h7, _, _, rfl, h8, _, _, rfl, h9, _, _, rfl, h10, _, _, rfl, h11, _, _, rfl, h12, _, _, rfl, h13, _, _, rfl, h14, _, _, rfl, h15, _, _, rfl, h16, rfl⟩ := h
  obtain ⟨n1, rfl⟩ := fitI h1
  obtain ⟨n2, rfl⟩ := fitI h2
  obtain ⟨n3, rfl⟩ := fitB h3
  obtain ⟨n4, rfl⟩ := fitB h4
  obtain ⟨n5, rfl⟩ := fitI h5
  obtain ⟨n6, rfl⟩ := fitI h6
  obtain ⟨n7, rfl⟩ := fitI h7
  obtain ⟨n8, rfl⟩ := fitI h8
  obtain ⟨l9, rfl, g9⟩ := fit1 (by decide) h9
  obtain ⟨l10, rfl, g10⟩ := fit1 (by decide) h10
  obtain ⟨l11, rfl, g11⟩ := fit2 (by decide) h11
  obtain ⟨l12, rfl, g12⟩ := fit1 (by decide) h12
  obtain ⟨n13, rfl⟩ := fitI h13
  obtain ⟨l14, rfl, g14⟩ := fit1 (by decide) h14
  obtain ⟨l15, rfl, g15⟩ := fit1 (by decide) h15
  obtain ⟨l16, rfl, g16⟩ := fit3 h16
  exact ⟨⟨n1, n2, n3, n4, ⟨n5, n6, n7, n8, l9, l10, l11, l12, n13⟩, l14, l15, l16⟩, rfl, ⟨g9, g10, g11, g12⟩, g14, g15, g16⟩
theorem decEn (ds : List D) (h : FitsAll shEn ds) : ∃ e : En, ds = e.row ∧ e.ev.fits := by
  simp only [shEn, FitsAll] at h
  obtain ⟨d0, r0, rfl, h0, h⟩ := h
  obtain ⟨n0, rfl⟩ := fitI h0
  obtain ⟨e, rfl, he⟩ := decEv r0 (by simp only [shEv, FitsAll]; exact h)
  exact ⟨⟨n0, e⟩, rfl, he⟩
theorem decUs (ds : List D) (h : FitsAll shUs ds) : ∃ u : Us, ds = u.row ∧ u.fit := by
  simp only [shUs, FitsAll] at h
  obtain ⟨_, _, rfl, h0, _, _, rfl, h1, _, _, rfl, h2, _, _, rfl, h3, _, _, rfl, h4, _, _, rfl, h5, _, _, rfl, h6, _, _, rfl, h7, _, _, rfl, h8, rfl⟩ := h
  obtain ⟨n0, rfl⟩ := fitI h0
  obtain ⟨n1, rfl⟩ := fitI h1
  obtain ⟨l2, rfl, g2⟩ := fit2 (by decide) h2
  obtain ⟨l3, rfl, g3⟩ := fit3 h3
  obtain ⟨l4, rfl, g4⟩ := fit1 (by decide) h4
  obtain ⟨n5, rfl⟩ := fitI h5
  obtain ⟨n6, rfl⟩ := fitI h6
  obtain ⟨n7, rfl⟩ := fitI h7
  obtain ⟨l8, rfl, g8, q8⟩ := fitL decEn h8
  exact ⟨⟨n0, ⟨n1, l2, l3, l4, n5, n6⟩, n7, l8⟩, rfl, ⟨g2, g3, g4⟩, by show l8.length ≤ _; omega, q8⟩
theorem decQu (ds : List D) (h : FitsAll shQu ds) : ∃ q : Qu, ds = q.cells ∧ q.fits := by
  simp only [shQu, FitsAll] at h
  obtain ⟨_, _, rfl, h0, _, _, rfl, h1, _, _, rfl, h2, _, _, rfl, h3, _, _, rfl, h4, _, _, rfl, h5, _, _, rfl, h6, _, _, rfl, h7, _, _, rfl, h8, rfl⟩ := h
  obtain ⟨n0, rfl⟩ := fitI h0
  obtain ⟨n1, rfl⟩ := fitI h1
  obtain ⟨n2, rfl⟩ := fitI h2
  obtain ⟨n3, rfl⟩ := fitI h3
  obtain ⟨l4, rfl, g4⟩ := fit1 (by decide) h4
  obtain ⟨l5, rfl, g5⟩ := fit2 (by decide) h5
  obtain ⟨n6, rfl⟩ := fitI h6
  obtain ⟨l7, rfl, g7⟩ := fit2 (by decide) h7
  obtain ⟨l8, rfl, g8⟩ := fit3 h8
  exact ⟨⟨n0, n1, n2, n3, l4, l5, n6, l7, l8⟩, rfl, g4, g5, g7, g8⟩
theorem decPo (ds : List D) (h : FitsAll shPo ds) : ∃ p : Po, ds = p.row ∧ p.fits := by
  simp only [shPo, FitsAll] at h
  obtain ⟨_, _, rfl, ha, _, _, rfl, hb, _, _, rfl, h0, _, _, rfl, h1, _, _, rfl, h2, _, _, rfl, h3, _, _, rfl, h4, _, _, rfl, h5, _, _, rfl, h6, _, _, rfl, h7, _, _, rfl, h8, _, _, rfl, h9, _, _, rfl, h10, _, _, rfl, h11, _, _, rfl, h12, _, _, rfl, h13, rfl⟩ := h
  obtain ⟨na, rfl⟩ := fitI ha
  obtain ⟨nb, rfl⟩ := fitI hb
  obtain ⟨n0, rfl⟩ := fitI h0
  obtain ⟨n1, rfl⟩ := fitI h1
  obtain ⟨n2, rfl⟩ := fitI h2
  obtain ⟨n3, rfl⟩ := fitI h3
  obtain ⟨l4, rfl, g4⟩ := fit1 (by decide) h4
  obtain ⟨l5, rfl, g5⟩ := fit2 (by decide) h5
  obtain ⟨n6, rfl⟩ := fitI h6
  obtain ⟨l7, rfl, g7⟩ := fit2 (by decide) h7
  obtain ⟨l8, rfl, g8⟩ := fit3 h8
  obtain ⟨l9, rfl, g9⟩ := fit1 (by decide) h9
  obtain ⟨l10, rfl, g10⟩ := fit2 (by decide) h10
  obtain ⟨n11, rfl⟩ := fitI h11
  obtain ⟨n12, rfl⟩ := fitI h12
  obtain ⟨n13, rfl⟩ := fitI h13
  exact ⟨⟨na, nb, ⟨n0, n1, n2, n3, l4, l5, n6, l7, l8⟩, l9, l10, n11, n12, n13⟩, rfl, ⟨g4, g5, g7, g8⟩, g9, g10⟩
theorem decDn (ds : List D) (h : FitsAll shDn ds) : ∃ d : Dn, ds = d.row ∧ True := by
  simp only [shDn, FitsAll] at h
  obtain ⟨_, _, rfl, h0, _, _, rfl, h1, _, _, rfl, h2, rfl⟩ := h
  obtain ⟨n0, rfl⟩ := fitI h0
  obtain ⟨n1, rfl⟩ := fitI h1
  obtain ⟨n2, rfl⟩ := fitI h2
  exact ⟨⟨n0, n1, n2⟩, rfl, trivial⟩
theorem decSt (ds : List D) (h : FitsAll shSt ds) : ∃ s : Sta, ds = s.cells ∧ s.fits := by
  simp only [shSt, FitsAll] at h
  obtain ⟨_, _, rfl, h0, _, _, rfl, h1, _, _, rfl, h2, _, _, rfl, h3, rfl⟩ := h
  obtain ⟨n0, rfl⟩ := fitI h0
  obtain ⟨us, rfl, g1, q1⟩ := fitL decUs h1
  obtain ⟨ps, rfl, g2, q2⟩ := fitL decPo h2
  obtain ⟨dn, rfl, g3, _⟩ := fitL decDn h3
  exact ⟨⟨n0, us, ps, dn⟩, rfl, by show us.length ≤ _; omega, by show ps.length ≤ _; omega, by show dn.length ≤ _; omega, q1, q2⟩
end Go.Proofs.Ytapennlmboabeaa
