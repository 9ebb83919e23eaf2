import Derived.Test.YtgefljdclekadaaRMB
import Derived.Test.YtgefljdclekadaaRSA
set_option linter.unusedVariables false
set_option linter.unusedSimpArgs false
set_option linter.unnecessarySimpa false
namespace Go.Proofs.Ytgefljdclekadaa
open Go Go.Vi

abbrev sh1 (b : Nat) (k : IntKind) : Sh := .slice b [.int k]
abbrev sh2 (b : Nat) (k m : IntKind) : Sh := .slice b [.int k, .int m]
abbrev sh3 : Sh := .slice 24 [.int .i64, .int .i64, .int .i64]
def shPo : List Sh := [.int .u32, .int .u32, .int .i64, .int .i64, .int .i64, .int .i64, sh1 4 .u32, sh2 16 .u32 .i64, .int .i64, sh2 8 .u32 .u32, sh3, sh1 8 .i64, sh2 16 .u32 .i64, .int .i64, .int .i64, .int .i64]
theorem rows_map {α : Type} {f : α → List D} {shs : List Sh} {Q : α → Prop} (hd : ∀ ds, FitsAll shs ds → ∃ x, ds = f x ∧ Q x) : ∀ rows : List (List D), (∀ r ∈ rows, FitsAll shs r) → ∃ l : List α, rows = l.map f ∧ ∀ x ∈ l, Q x
 | [], _ => ⟨[], rfl, by simp⟩
 | r :: rows, h => by
  obtain ⟨l, hl, hq⟩ := rows_map hd rows fun r hr => h r (by simp [hr])
  obtain ⟨x, hx, qx⟩ := hd r (h r (by simp))
  refine ⟨x :: l, by rw [hx, hl]; rfl, fun y hy => ?_⟩
  rcases List.mem_cons.1 hy with rfl | h
  ·exact qx
  ·exact hq y h
theorem fitL {α : Type} {f : α → List D} {shs : List Sh} {Q : α → Prop} {b : Nat} {d : D} (hd : ∀ ds, FitsAll shs ds → ∃ x, ds = f x ∧ Q x) (h : Fits (.slice b shs) d) : ∃ l : List α, d = L (l.map f) ∧ l.length * b ≤ 140737488351232 ∧ ∀ x ∈ l, Q x := by
 simp only [Fits] at h
 obtain ⟨rows, rfl, hl, hr⟩ := h
 obtain ⟨l, rfl, hq⟩ := rows_map hd rows hr
 exact ⟨l, rfl, by simpa using hl, hq⟩
theorem fit1 {b : Nat} {k : IntKind} {d : D} (hb : 0 < b) (h : Fits (sh1 b k) d) : ∃ l : List Int, d = L (row1 k l) ∧ l.length ≤ 140737488351232 := by
 obtain ⟨l, h1, h2, _⟩ := fitL (f := fun x : Int => [D.int k x]) (Q := fun _ => True) (fun ds h => by
  simp only [FitsAll, Fits] at h
  obtain ⟨_, _, rfl, ⟨n, rfl, _⟩, rfl⟩ := h
  exact ⟨n, rfl, trivial⟩) h
 exact ⟨l, h1, Nat.le_trans (Nat.le_mul_of_pos_right _ hb) h2⟩
theorem fit2 {b : Nat} {k m : IntKind} {d : D} (hb : 0 < b) (h : Fits (sh2 b k m) d) : ∃ l : List (Int × Int), d = L (row2 k m l) ∧ l.length ≤ 140737488351232 := by
 obtain ⟨l, h1, h2, _⟩ := fitL (f := fun x : Int × Int => [D.int k x.1, D.int m x.2]) (Q := fun _ => True) (fun ds h => by
  simp only [FitsAll, Fits] at h
  obtain ⟨_, _, rfl, ⟨n, rfl, _⟩, _, _, rfl, ⟨n', rfl, _⟩, rfl⟩ := h
  exact ⟨(n, n'), rfl, trivial⟩) h
 exact ⟨l, h1, Nat.le_trans (Nat.le_mul_of_pos_right _ hb) h2⟩
theorem fit3 {d : D} (h : Fits sh3 d) : ∃ l : List (Int × Int × Int), d = L (row3 l) ∧ l.length ≤ 140737488351232 := by
 obtain ⟨l, h1, h2, _⟩ := fitL (f := fun x : Int × Int × Int => [D.int .i64 x.1, D.int .i64 x.2.1, D.int .i64 x.2.2]) (Q := fun _ => True) (fun ds h => by
  simp only [FitsAll, Fits] at h
  obtain ⟨_, _, rfl, ⟨n, rfl, _⟩, _, _, rfl, ⟨n', rfl, _⟩, _, _, rfl, ⟨n'', rfl, _⟩, rfl⟩ := h
  exact ⟨(n, n', n''), rfl, trivial⟩) h
 exact ⟨l, h1, by omega⟩
theorem fitI {k : IntKind} {d : D} (h : Fits (.int k) d) : ∃ n, d = .int k n := by simp only [Fits] at h; obtain ⟨n, h, _⟩ := h; exact ⟨n, h⟩
theorem fitB {d : D} (h : Fits .bool d) : ∃ n, d = .bool n := by simp only [Fits] at h; exact h
theorem fitS {d : D} (h : Fits .str d) : ∃ s : ByteArray, d = .str s ∧ s.size ≤ 140737488351232 := by simp only [Fits] at h; exact h
theorem decPo (ds : List D) (h : FitsAll shPo ds) : ∃ p : Po, ds = p.row ∧ p.fits := by
 simp only [shPo, FitsAll] at h
 obtain ⟨_, _, rfl, ha, _, _, rfl, hb, _, _, rfl, h0, _, _, rfl, h1, _, _, rfl, h2, _, _, rfl, h3, _, _, rfl, h4, _, _, rfl, h5, _, _, rfl, h6, _, _, rfl, h7, _, _, rfl, h8, _, _, rfl, h9, _, _, rfl, h10, _, _, rfl, h11, _, _, rfl, h12, _, _, rfl, h13, rfl⟩ := h
 obtain ⟨na, rfl⟩ := fitI ha
 obtain ⟨nb, rfl⟩ := fitI hb
 obtain ⟨n0, rfl⟩ := fitI h0
 obtain ⟨n1, rfl⟩ := fitI h1
 obtain ⟨n2, rfl⟩ := fitI h2
 obtain ⟨n3, rfl⟩ := fitI h3
 obtain ⟨l4, rfl, g4⟩ := fit1 (by decide) h4
 obtain ⟨l5, rfl, g5⟩ := fit2 (by decide) h5
 obtain ⟨n6, rfl⟩ := fitI h6
 obtain ⟨l7, rfl, g7⟩ := fit2 (by decide) h7
 obtain ⟨l8, rfl, g8⟩ := fit3 h8
 obtain ⟨l9, rfl, g9⟩ := fit1 (by decide) h9
 obtain ⟨l10, rfl, g10⟩ := fit2 (by decide) h10
 obtain ⟨n11, rfl⟩ := fitI h11
 obtain ⟨n12, rfl⟩ := fitI h12
 obtain ⟨n13, rfl⟩ := fitI h13
 exact ⟨⟨na, nb, ⟨n0, n1, n2, n3, l4, l5, n6, l7, l8⟩, l9, l10, n11, n12, n13⟩, rfl, ⟨g4, g5, g7, g8⟩, g9, g10⟩
end Go.Proofs.Ytgefljdclekadaa

namespace Go.Proofs.Ytgefljdclekadaa
open Go Go.Vi
def shAs : List Sh := [.int .i64, .int .u32, .int .u64, .int .u32, .int .u32, .int .i64, sh2 16 .i64 .i64, sh3, sh1 8 .i64, .int .i64, .int .i64, .int .i64, .int .i64, .bool, .bool, .int .i64, .int .i64, .int .i64, .int .i64, sh1 8 .i64, sh1 8 .i64, sh2 16 .i64 .i64, sh1 8 .i64, .int .i64, sh1 8 .i64, sh1 8 .i64, sh3, .int .i64, .int .i64, .int .i64, .int .i64, sh1 4 .u32, sh2 16 .u32 .i64, .int .i64, sh2 8 .u32 .u32, sh3, .str, .int .i64, .int .u32, .int .i64, .bool, .int .i64]
def shRe : List Sh := [.int .i64, .int .u64, sh3, .str, .int .u32, .int .u32, .int .i64, .int .i64, .int .i64, .int .i64, sh1 4 .u32, sh2 16 .u32 .i64, .int .i64, sh2 8 .u32 .u32, sh3, sh1 8 .i64, sh2 16 .u32 .i64, .int .i64, .int .i64, .int .i64]
set_option maxRecDepth 100000 in
theorem decAs (ds : List D) (h : FitsAll shAs ds) : ∃ a : As, ds = a.cells ∧ a.fits := by
 simp only [shAs, FitsAll] at h
 obtain ⟨_, _, rfl, h0, _, _, rfl, h1, _, _, rfl, h2, _, _, rfl, h3, _, _, rfl, h4, _, _, rfl, s1, _, _, rfl, s2, _, _, rfl, s3, _, _, rfl, s4, _, _, rfl, s5, _, _, rfl, s6, _, _, rfl, e1, _, _, rfl, e2, _, _, rfl, e3, _, _, rfl, e4, _, _, rfl, e5, _, _, rfl, e6, _, _, rfl, e7, _, _, rfl, e8, _, _, rfl, e9, _, _, rfl, e10, _, _, rfl, e11, _, _, rfl, e12, _, _, rfl, e13, _, _, rfl, e14, _, _, rfl, e15, _, _, rfl, e16, _, _, rfl, q0, _, _, rfl, q1, _, _, rfl, q2, _, _, rfl, q3, _, _, rfl, q4, _, _, rfl, q5, _, _, rfl, q6, _, _, rfl, q7, _, _, rfl, q8, _, _, rfl, t0, _, _, rfl, t1, _, _, rfl, t2, _, _, rfl, t3, _, _, rfl, t4, _, _, rfl, t5, rfl⟩ := h
 obtain ⟨n0, rfl⟩ := fitI h0
 obtain ⟨n1, rfl⟩ := fitI h1
 obtain ⟨n2, rfl⟩ := fitI h2
 obtain ⟨n3, rfl⟩ := fitI h3
 obtain ⟨n4, rfl⟩ := fitI h4
 obtain ⟨m1, rfl⟩ := fitI s1
 obtain ⟨m2, rfl, g_m2⟩ := fit2 (by decide) s2
 obtain ⟨m3, rfl, g_m3⟩ := fit3 s3
 obtain ⟨m4, rfl, g_m4⟩ := fit1 (by decide) s4
 obtain ⟨m5, rfl⟩ := fitI s5
 obtain ⟨m6, rfl⟩ := fitI s6
 obtain ⟨k1, rfl⟩ := fitI e1
 obtain ⟨k2, rfl⟩ := fitI e2
 obtain ⟨k3, rfl⟩ := fitB e3
 obtain ⟨k4, rfl⟩ := fitB e4
 obtain ⟨k5, rfl⟩ := fitI e5
 obtain ⟨k6, rfl⟩ := fitI e6
 obtain ⟨k7, rfl⟩ := fitI e7
 obtain ⟨k8, rfl⟩ := fitI e8
 obtain ⟨k9, rfl, g_k9⟩ := fit1 (by decide) e9
 obtain ⟨k10, rfl, g_k10⟩ := fit1 (by decide) e10
 obtain ⟨k11, rfl, g_k11⟩ := fit2 (by decide) e11
 obtain ⟨k12, rfl, g_k12⟩ := fit1 (by decide) e12
 obtain ⟨k13, rfl⟩ := fitI e13
 obtain ⟨k14, rfl, g_k14⟩ := fit1 (by decide) e14
 obtain ⟨k15, rfl, g_k15⟩ := fit1 (by decide) e15
 obtain ⟨k16, rfl, g_k16⟩ := fit3 e16
 obtain ⟨p0, rfl⟩ := fitI q0
 obtain ⟨p1, rfl⟩ := fitI q1
 obtain ⟨p2, rfl⟩ := fitI q2
 obtain ⟨p3, rfl⟩ := fitI q3
 obtain ⟨p4, rfl, g_p4⟩ := fit1 (by decide) q4
 obtain ⟨p5, rfl, g_p5⟩ := fit2 (by decide) q5
 obtain ⟨p6, rfl⟩ := fitI q6
 obtain ⟨p7, rfl, g_p7⟩ := fit2 (by decide) q7
 obtain ⟨p8, rfl, g_p8⟩ := fit3 q8
 obtain ⟨u0, rfl, _⟩ := fitS t0
 obtain ⟨u1, rfl⟩ := fitI t1
 obtain ⟨u2, rfl⟩ := fitI t2
 obtain ⟨u3, rfl⟩ := fitI t3
 obtain ⟨u4, rfl⟩ := fitB t4
 obtain ⟨u5, rfl⟩ := fitI t5
 exact ⟨⟨n0, n1, n2, n3, n4, ⟨m1, m2, m3, m4, m5, m6⟩, ⟨k1, k2, k3, k4, ⟨k5, k6, k7, k8, k9, k10, k11, k12, k13⟩, k14, k15, k16⟩, ⟨p0, p1, p2, p3, p4, p5, p6, p7, p8⟩, u0, u1, u2, u3, u4, u5⟩, rfl, ⟨g_m2, g_m3, g_m4⟩, ⟨⟨g_k9, g_k10, g_k11, g_k12⟩, g_k14, g_k15, g_k16⟩, g_p4, g_p5, g_p7, g_p8⟩
theorem decRe (ds : List D) (h : FitsAll shRe ds) : ∃ r : Re, ds = r.cells ∧ r.fits := by
 simp only [shRe, FitsAll] at h
 obtain ⟨_, _, rfl, h0, _, _, rfl, h1, _, _, rfl, h2, d, r, rfl, h3, h⟩ := h
 obtain ⟨n0, rfl⟩ := fitI h0
 obtain ⟨n1, rfl⟩ := fitI h1
 obtain ⟨l2, rfl, g2⟩ := fit3 h2
 obtain ⟨n3, rfl, _⟩ := fitS h3
 obtain ⟨p, rfl, hp⟩ := decPo r (by simp only [shPo, FitsAll]; exact h)
 exact ⟨⟨n0, n1, l2, n3, p⟩, rfl, g2, hp⟩
end Go.Proofs.Ytgefljdclekadaa
