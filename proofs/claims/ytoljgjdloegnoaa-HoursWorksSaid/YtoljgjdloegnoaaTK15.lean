import Derived.Test.YtoljgjdloegnoaaTK14
set_option linter.unusedVariables false
set_option linter.unusedSimpArgs false
set_option linter.unnecessarySimpa false
namespace Go.Proofs.Ytoljgjdloegnoaa
open Go Go.Vi
abbrev sh1 (b : Nat) (k : IntKind) : Sh := .slice b [.int k]
abbrev sh2 (b : Nat) (k m : IntKind) : Sh := .slice b [.int k, .int m]
abbrev sh3 : Sh := .slice 24 [.int .i64, .int .i64, .int .i64]
theorem rows_map {α : Type} {f : α → List D} {shs : List Sh} {Q : α → Prop} (hd : ∀ ds, FitsAll shs ds → ∃ x, ds = f x ∧ Q x) : ∀ rows : List (List D), (∀ r ∈ rows, FitsAll shs r) → ∃ l : List α, rows = l.map f ∧ ∀ x ∈ l, Q x
  | [], _ => ⟨[], rfl, by simp⟩
  | r :: rows, h => by
    obtain ⟨l, hl, hq⟩ := rows_map hd rows fun r hr => h r (by simp [hr])
    obtain ⟨x, hx, qx⟩ := hd r (h r (by simp))
    refine ⟨x :: l, by rw [hx, hl]; rfl, fun y hy => ?_⟩
    rcases List.mem_cons.1 hy with rfl | h
    · exact qx
    · exact hq y h
theorem fitL {α : Type} {f : α → List D} {shs : List Sh} {Q : α → Prop} {b : Nat} {d : D} (hd : ∀ ds, FitsAll shs ds → ∃ x, ds = f x ∧ Q x) (h : Fits (.slice b shs) d) : ∃ l : List α, d = L (l.map f) ∧ l.length * b ≤ 140737488351232 ∧ ∀ x ∈ l, Q x := by
  simp only [Fits] at h
  obtain ⟨rows, rfl, hl, hr⟩ := h
  obtain ⟨l, rfl, hq⟩ := rows_map hd rows hr
  exact ⟨l, rfl, by simpa using hl, hq⟩
theorem fit1 {b : Nat} {k : IntKind} {d : D} (hb : 0 < b) (h : Fits (sh1 b k) d) : ∃ l : List Int, d = L (row1 k l) ∧ l.length ≤ 140737488351232 := by
  obtain ⟨l, h1, h2, _⟩ := fitL (f := fun x : Int => [D.int k x]) (Q := fun _ => True) (fun ds h => by
    simp only [FitsAll, Fits] at h
    obtain ⟨_, _, rfl, ⟨n, rfl, _⟩, rfl⟩ := h
    exact ⟨n, rfl, trivial⟩) h
  exact ⟨l, h1, Nat.le_trans (Nat.le_mul_of_pos_right _ hb) h2⟩
theorem fit2 {b : Nat} {k m : IntKind} {d : D} (hb : 0 < b) (h : Fits (sh2 b k m) d) : ∃ l : List (Int × Int), d = L (row2 k m l) ∧ l.length ≤ 140737488351232 := by
  obtain ⟨l, h1, h2, _⟩ := fitL (f := fun x : Int × Int => [D.int k x.1, D.int m x.2]) (Q := fun _ => True) (fun ds h => by
    simp only [FitsAll, Fits] at h
    obtain ⟨_, _, rfl, ⟨n, rfl, _⟩, _, _, rfl, ⟨n', rfl, _⟩, rfl⟩ := h
    exact ⟨(n, n'), rfl, trivial⟩) h
  exact ⟨l, h1, Nat.le_trans (Nat.le_mul_of_pos_right _ hb) h2⟩
theorem fit3 {d : D} (h : Fits sh3 d) : ∃ l : List (Int × Int × Int), d = L (row3 l) ∧ l.length ≤ 140737488351232 := by
  obtain ⟨l, h1, h2, _⟩ := fitL (f := fun x : Int × Int × Int => [D.int .i64 x.1, D.int .i64 x.2.1, D.int .i64 x.2.2]) (Q := fun _ => True) (fun ds h => by
    simp only [FitsAll, Fits] at h
    obtain ⟨_, _, rfl, ⟨n, rfl, _⟩, _, _, rfl, ⟨n', rfl, _⟩, _, _, rfl, ⟨n'', rfl, _⟩, rfl⟩ := h
    exact ⟨(n, n', n''), rfl, trivial⟩) h
  exact ⟨l, h1, by omega⟩
theorem fitM {d : D} (h : Fits (.int .i64) d) : ∃ n, d = .int .i64 n ∧ Fit n := by
  simp only [Fits] at h
  obtain ⟨n, h, h1, h2⟩ := h
  simp only [IntKind.min, IntKind.max, IntKind.bits, IntKind.signed] at h1 h2
  exact ⟨n, h, by unfold Fit; simp at h1 h2; omega⟩
theorem fitU {d : D} (h : Fits (.int .u16) d) : ∃ n, d = .int .u16 n ∧ 0 ≤ n ∧ n ≤ 65535 := by
  simp only [Fits] at h
  obtain ⟨n, h, h1, h2⟩ := h
  simp only [IntKind.min, IntKind.max, IntKind.bits, IntKind.signed] at h1 h2
  exact ⟨n, h, by simp at h1 h2; omega⟩
def shZ : List Sh := [.int .i64, .slice 16 [.int .i64, .int .i64]]
def shH : List Sh := [.slice 24 [.int .i64, .int .i64, .int .i64], .slice 8 [.int .i64]]
theorem decZ {ds : List D} (h : FitsAll shZ ds) : ∃ b ts, ds = [.int .i64 b, L (row2 .i64 .i64 ts)] ∧ ts.length ≤ 140737488351232 := by
  simp only [shZ, FitsAll] at h
  obtain ⟨_, _, rfl, h1, _, _, rfl, h2, rfl⟩ := h
  obtain ⟨b, rfl, _⟩ := fitM h1
  obtain ⟨ts, rfl, g⟩ := fit2 (by decide) h2
  exact ⟨b, ts, rfl, g⟩
theorem decH {ds : List D} (h : FitsAll shH ds) : ∃ sh off, ds = Hr sh off ∧ sh.length ≤ 140737488351232 ∧ off.length ≤ 140737488351232 := by
  simp only [shH, FitsAll] at h
  obtain ⟨_, _, rfl, h1, _, _, rfl, h2, rfl⟩ := h
  obtain ⟨sh, rfl, g1⟩ := fit3 h1
  obtain ⟨off, rfl, g2⟩ := fit1 (by decide) h2
  exact ⟨sh, off, rfl, g1, g2⟩
theorem decW {ds : List D} (h : FitsAll [.int .i64, .int .i64] ds) : ∃ w : Sp, ds = [.int .i64 w.1, .int .i64 w.2] ∧ Fit w.1 ∧ Fit w.2 := by
  simp only [FitsAll] at h
  obtain ⟨_, _, rfl, h1, _, _, rfl, h2, rfl⟩ := h
  obtain ⟨x, rfl, g1⟩ := fitM h1
  obtain ⟨y, rfl, g2⟩ := fitM h2
  exact ⟨(x, y), rfl, g1, g2⟩
theorem decS {ds : List D} (h : FitsAll [.int .i64, .int .i64, .int .i64] ds) : ∃ s : Sf, ds = [.int .i64 s.1, .int .i64 s.2.1, .int .i64 s.2.2] ∧ Fit s.1 ∧ Fit s.2.1 ∧ Fit s.2.2 := by
  simp only [FitsAll] at h
  obtain ⟨_, _, rfl, h1, _, _, rfl, h2, _, _, rfl, h3, rfl⟩ := h
  obtain ⟨x, rfl, g1⟩ := fitM h1
  obtain ⟨y, rfl, g2⟩ := fitM h2
  obtain ⟨z, rfl, g3⟩ := fitM h3
  exact ⟨(x, y, z), rfl, g1, g2, g3⟩
end Go.Proofs.Ytoljgjdloegnoaa
