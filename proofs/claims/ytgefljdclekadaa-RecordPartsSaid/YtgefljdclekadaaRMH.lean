import Derived.Test.YtgefljdclekadaaRMB
import Derived.Test.YtgefljdclekadaaRMF
import Derived.Test.YtgefljdclekadaaRMG
set_option linter.unusedVariables false
set_option linter.unusedSimpArgs false
namespace Go.Proofs.Ytgefljdclekadaa
open Go Go.Vi
abbrev uJ (b : Nat) (k : IntKind) : Sh := .slice b [.int k]
abbrev yv (b : Nat) (k m : IntKind) : Sh := .slice b [.int k, .int m]
abbrev sh3 : Sh := .slice 24 [.int .i64, .int .i64, .int .i64]
theorem nk {α : Type} {f : α → List D} {shs : List Sh} {Q : α → Prop} (hd : ∀ ds, be shs ds → ∃ x, ds = f x ∧ Q x) : ∀ rows : List (List D), (∀ r ∈ rows, be shs r) → ∃ l : List α, rows = l.map f ∧ ∀ x ∈ l, Q x
 | [], _ => ⟨[], rfl, by simp⟩
 | r :: rows, h => by
  obtain ⟨l, hl, hq⟩ := nk hd rows fun r hr => h r (by simp [hr])
  obtain ⟨x, hx, qx⟩ := hd r (h r (by simp))
  refine ⟨x :: l, by rw [hx, hl]; rfl, fun y hy => ?_⟩
  rcases List.mem_cons.1 hy with rfl | h
  ·exact qx
  ·exact hq y h
theorem xN {α : Type} {f : α → List D} {shs : List Sh} {Q : α → Prop} {b : Nat} {d : D} (hd : ∀ ds, be shs ds → ∃ x, ds = f x ∧ Q x) (h : dZ (.slice b shs) d) : ∃ l : List α, d = L (l.map f) ∧ l.length * b ≤ 140737488351232 ∧ ∀ x ∈ l, Q x := by
 simp only [dZ] at h
 obtain ⟨rows, rfl, hl, hr⟩ := h
 obtain ⟨l, rfl, hq⟩ := nk hd rows hr
 exact ⟨l, rfl, by simpa using hl, hq⟩
theorem o0 {b : Nat} {k : IntKind} {d : D} (hb : 0 < b) (h : dZ (uJ b k) d) : ∃ l : List Int, d = L (aI k l) ∧ l.length ≤ 140737488351232 := by
 obtain ⟨l, h1, h2, _⟩ := xN (f := fun x : Int => [D.int k x]) (Q := fun _ => True) (fun ds h => by
  simp only [be, dZ] at h
  obtain ⟨_, _, rfl, ⟨n, rfl, _⟩, rfl⟩ := h
  exact ⟨n, rfl, trivial⟩) h
 exact ⟨l, h1, Nat.le_trans (Nat.le_mul_of_pos_right _ hb) h2⟩
theorem uq {b : Nat} {k m : IntKind} {d : D} (hb : 0 < b) (h : dZ (yv b k m) d) : ∃ l : List (Int × Int), d = L (aS k m l) ∧ l.length ≤ 140737488351232 := by
 obtain ⟨l, h1, h2, _⟩ := xN (f := fun x : Int × Int => [D.int k x.1, D.int m x.2]) (Q := fun _ => True) (fun ds h => by
  simp only [be, dZ] at h
  obtain ⟨_, _, rfl, ⟨n, rfl, _⟩, _, _, rfl, ⟨n', rfl, _⟩, rfl⟩ := h
  exact ⟨(n, n'), rfl, trivial⟩) h
 exact ⟨l, h1, Nat.le_trans (Nat.le_mul_of_pos_right _ hb) h2⟩
theorem xY {d : D} (h : dZ sh3 d) : ∃ l : List (Int × Int × Int), d = L (bh l) ∧ l.length ≤ 140737488351232 := by
 obtain ⟨l, h1, h2, _⟩ := xN (f := fun x : Int × Int × Int => [D.int .i64 x.1, D.int .i64 x.2.1, D.int .i64 x.2.2]) (Q := fun _ => True) (fun ds h => by
  simp only [be, dZ] at h
  obtain ⟨_, _, rfl, ⟨n, rfl, _⟩, _, _, rfl, ⟨n', rfl, _⟩, _, _, rfl, ⟨n'', rfl, _⟩, rfl⟩ := h
  exact ⟨(n, n', n''), rfl, trivial⟩) h
 exact ⟨l, h1, by omega⟩
theorem eB {k : IntKind} {d : D} (h : dZ (.int k) d) : ∃ n, d = .int k n := by simp only [dZ] at h; obtain ⟨n, h, _⟩ := h; exact ⟨n, h⟩
theorem xU {d : D} (h : dZ .bool d) : ∃ n, d = .bool n := by simp only [dZ] at h; exact h
theorem fitS {d : D} (h : dZ .str d) : ∃ s : ByteArray, d = .str s ∧ s.size ≤ 140737488351232 := by simp only [dZ] at h; exact h
end Go.Proofs.Ytgefljdclekadaa

namespace Go.Proofs.Ytgefljdclekadaa
open Go Go.Vi
def oH : List Sh := [.int .i64, .int .u32, .int .u64, .int .u32, .int .u32, .int .i64, yv 16 .i64 .i64, sh3, uJ 8 .i64, .int .i64, .int .i64, .int .i64, .int .i64, .bool, .bool, .int .i64, .int .i64, .int .i64, .int .i64, uJ 8 .i64, uJ 8 .i64, yv 16 .i64 .i64, uJ 8 .i64, .int .i64, uJ 8 .i64, uJ 8 .i64, sh3, .int .i64, .int .i64, .int .i64, .int .i64, uJ 4 .u32, yv 16 .u32 .i64, .int .i64, yv 8 .u32 .u32, sh3, .str, .int .i64, .int .u32, .int .i64, .bool, .int .i64]
set_option maxRecDepth 100000 in
theorem wd (ds : List D) (h : be oH ds) : ∃ a : As, ds = a.cells ∧ a.fits := by
 simp only [oH, be] at h
 obtain ⟨_, _, rfl, h0, _, _, rfl, h1, _, _, rfl, h2, _, _, rfl, h3, _, _, rfl, h4, _, _, rfl, s1, _, _, rfl, s2, _, _, rfl, s3, _, _, rfl, s4, _, _, rfl, s5, _, _, rfl, s6, _, _, rfl, e1, _, _, rfl, e2, _, _, rfl, e3, _, _, rfl, e4, _, _, rfl, e5, _, _, rfl, e6, _, _, rfl, e7, _, _, rfl, e8, _, _, rfl, e9, _, _, rfl, e10, _, _, rfl, e11, _, _, rfl, e12, _, _, rfl, e13, _, _, rfl, e14, _, _, rfl, e15, _, _, rfl, e16, _, _, rfl, q0, _, _, rfl, q1, _, _, rfl, q2, _, _, rfl, q3, _, _, rfl, q4, _, _, rfl, q5, _, _, rfl, q6, _, _, rfl, q7, _, _, rfl, q8, _, _, rfl, t0, _, _, rfl, t1, _, _, rfl, t2, _, _, rfl, t3, _, _, rfl, t4, _, _, rfl, t5, rfl⟩ := h
 obtain ⟨n0, rfl⟩ := eB h0
 obtain ⟨n1, rfl⟩ := eB h1
 obtain ⟨n2, rfl⟩ := eB h2
 obtain ⟨n3, rfl⟩ := eB h3
 obtain ⟨n4, rfl⟩ := eB h4
 obtain ⟨m1, rfl⟩ := eB s1
 obtain ⟨m2, rfl, g_m2⟩ := uq (by decide) s2
 obtain ⟨m3, rfl, g_m3⟩ := xY s3
 obtain ⟨m4, rfl, g_m4⟩ := o0 (by decide) s4
 obtain ⟨m5, rfl⟩ := eB s5
 obtain ⟨m6, rfl⟩ := eB s6
 obtain ⟨k1, rfl⟩ := eB e1
 obtain ⟨k2, rfl⟩ := eB e2
 obtain ⟨k3, rfl⟩ := xU e3
 obtain ⟨k4, rfl⟩ := xU e4
 obtain ⟨k5, rfl⟩ := eB e5
 obtain ⟨k6, rfl⟩ := eB e6
 obtain ⟨k7, rfl⟩ := eB e7
 obtain ⟨k8, rfl⟩ := eB e8
 obtain ⟨k9, rfl, g_k9⟩ := o0 (by decide) e9
 obtain ⟨k10, rfl, g_k10⟩ := o0 (by decide) e10
 obtain ⟨k11, rfl, g_k11⟩ := uq (by decide) e11
 obtain ⟨k12, rfl, g_k12⟩ := o0 (by decide) e12
 obtain ⟨k13, rfl⟩ := eB e13
 obtain ⟨k14, rfl, g_k14⟩ := o0 (by decide) e14
 obtain ⟨k15, rfl, g_k15⟩ := o0 (by decide) e15
 obtain ⟨k16, rfl, g_k16⟩ := xY e16
 obtain ⟨p0, rfl⟩ := eB q0
 obtain ⟨p1, rfl⟩ := eB q1
 obtain ⟨p2, rfl⟩ := eB q2
 obtain ⟨p3, rfl⟩ := eB q3
 obtain ⟨p4, rfl, g_p4⟩ := o0 (by decide) q4
 obtain ⟨p5, rfl, g_p5⟩ := uq (by decide) q5
 obtain ⟨p6, rfl⟩ := eB q6
 obtain ⟨p7, rfl, g_p7⟩ := uq (by decide) q7
 obtain ⟨p8, rfl, g_p8⟩ := xY q8
 obtain ⟨u0, rfl, _⟩ := fitS t0
 obtain ⟨u1, rfl⟩ := eB t1
 obtain ⟨u2, rfl⟩ := eB t2
 obtain ⟨u3, rfl⟩ := eB t3
 obtain ⟨u4, rfl⟩ := xU t4
 obtain ⟨u5, rfl⟩ := eB t5
 exact ⟨⟨n0, n1, n2, n3, n4, ⟨m1, m2, m3, m4, m5, m6⟩, ⟨k1, k2, k3, k4, ⟨k5, k6, k7, k8, k9, k10, k11, k12, k13⟩, k14, k15, k16⟩, ⟨p0, p1, p2, p3, p4, p5, p6, p7, p8⟩, u0, u1, u2, u3, u4, u5⟩, rfl, ⟨g_m2, g_m3, g_m4⟩, ⟨⟨g_k9, g_k10, g_k11, g_k12⟩, g_k14, g_k15, g_k16⟩, g_p4, g_p5, g_p7, g_p8⟩
end Go.Proofs.Ytgefljdclekadaa

namespace Go.Proofs.Ytgefljdclekadaa
open Go Go.Vi
theorem fy {s : Sh} {ss : List Sh} {d : D} {r : List D} : be (s :: ss) (d :: r) ↔ dZ s d ∧ be ss r := by
 simp only [be]
 constructor
 ·rintro ⟨_, _, h, h1, h2⟩
  cases h
  exact ⟨h1, h2⟩
 ·rintro ⟨h1, h2⟩
  exact ⟨_, _, rfl, h1, h2⟩
theorem bM {k : IntKind} {n : Int} : dZ (.int k) (.int k n) ↔ k.min ≤ n ∧ n ≤ k.max := by
 simp only [dZ]
 constructor
 ·rintro ⟨_, h, h1⟩
  cases h
  exact h1
 ·intro h
  exact ⟨_, rfl, h⟩
theorem wk {α : Type} {f : α → List D} {b : Nat} {shs : List Sh} {l : List α} (hb : 0 < b) (h : dZ (.slice b shs) (L (l.map f))) : l.length ≤ 140737488351232 ∧ ∀ x ∈ l, be shs (f x) := by
 simp only [dZ] at h
 obtain ⟨rows, e, hl, hr⟩ := h
 injection e with _ _ e
 subst e
 refine ⟨Nat.le_trans (Nat.le_mul_of_pos_right _ hb) (by simpa using hl), fun x hx => hr _ (List.mem_map_of_mem hx)⟩
theorem ow {k : IntKind} {b : Nat} {l : List Int} (hb : 0 < b) (h : dZ (uJ b k) (L (aI k l))) : l.length ≤ 140737488351232 ∧ ∀ x ∈ l, k.min ≤ x ∧ x ≤ k.max := by
 obtain ⟨h1, h2⟩ := wk hb h
 refine ⟨h1, fun x hx => ?_⟩
 have := h2 x hx
 rw [fy, bM] at this
 exact this.1
theorem ua {k m : IntKind} {b : Nat} {l : List (Int × Int)} (hb : 0 < b) (h : dZ (yv b k m) (L (aS k m l))) : l.length ≤ 140737488351232 ∧ ∀ x ∈ l, (k.min ≤ x.1 ∧ x.1 ≤ k.max) ∧ (m.min ≤ x.2 ∧ x.2 ≤ m.max) := by
 obtain ⟨h1, h2⟩ := wk hb h
 refine ⟨h1, fun x hx => ?_⟩
 have := h2 x hx
 rw [fy, fy, bM, bM] at this
 exact ⟨this.1, this.2.1⟩
theorem wz {l : List (Int × Int × Int)} (h : dZ sh3 (L (bh l))) : l.length ≤ 140737488351232 ∧ ∀ x ∈ l, cR x.1 ∧ cR x.2.1 ∧ cR x.2.2 := by
 obtain ⟨h1, h2⟩ := wk (by decide) h
 refine ⟨h1, fun x hx => ?_⟩
 have := h2 x hx
 rw [fy, fy, fy, bM, bM, bM] at this
 exact ⟨this.1, this.2.1, this.2.2.1⟩
set_option maxRecDepth 100000 in
theorem rngAs (a : As) (h : be oH a.cells) (hc : a.cursor.size ≤ 1099511627776) : jI a := by
 simp only [oH, As.cells, fy] at h
 obtain ⟨h0, h1, h2, h3, h4, s1, s2, s3, s4, s5, s6, e1, e2, e3, e4, e5, e6, e7, e8, e9, e10, e11, e12, e13, e14, e15, e16, q0, q1, q2, q3, q4, q5, q6, q7, q8, t0, t1, t2, t3, t4, t5, _⟩ := h
 have d8 : 0 < 8 := by decide
 have d16 : 0 < 16 := by decide
 have d4 : 0 < 4 := by decide
 have hse : vN a.se := ⟨⟨bM.1 s1, ua d16 s2⟩, wz s3, ow d8 s4, bM.1 s5, bM.1 s6⟩
 have hru : xG a.ev.rule := ⟨bM.1 e5, bM.1 e6, bM.1 e7, bM.1 e8, ow d8 e9, ow d8 e10, ua d16 e11, ow d8 e12, bM.1 e13⟩
 have hev : yn a.ev := ⟨⟨bM.1 e1, bM.1 e2, trivial, trivial⟩, bM.1 e1, bM.1 e2, trivial, hru, ow d8 e14, ow d8 e15, wz e16⟩
 have hqu : uA a.qu := ⟨bM.1 q0, bM.1 q1, bM.1 q2, bM.1 q3, ow d4 q4, ua d16 q5, bM.1 q6, ua d8 q7, wz q8⟩
 exact ⟨bM.1 h0, bM.1 h1, bM.1 h2, bM.1 h4, hse, hev, hqu, hc, bM.1 t1, bM.1 t2, bM.1 t3, bM.1 t5⟩
end Go.Proofs.Ytgefljdclekadaa

namespace Go.Proofs.Ytgefljdclekadaa
open Go Go.Vi
def okS (s : Rs) : Prop := s.rb = false ∧ s.cb = false
def app (s : Rs) (t : List UInt8) : Rs := ⟨s.l ++ t, s.rb, s.cb⟩
def fc {α : Type} (r : Rs → α × Rs) : Prop := ∀ s t, okS (r s).2 → okS s ∧ r (app s t) = ((r s).1, app (r s).2 t)
theorem ne (m : Nat) (t : List UInt8) : ∀ (l : List UInt8) (n k : Nat), (dq m l n k).2.2 = false → dq m (l ++ t) n k = ((dq m l n k).1, (dq m l n k).2.1 ++ t, false)
 | [], n, k, h => by simp [dq] at h
 | c :: cs, n, k, h => by
  rw [List.cons_append]
  unfold dq at h ⊢
  split
  ·rename_i h1; rw [if_pos h1] at h; simp at h
  ·rename_i h1
   rw [if_neg h1] at h
   split
   ·rename_i h2
    rw [if_pos h2] at h
    split
    ·rename_i h3; rw [if_pos h3] at h; simp at h
    ·rfl
   ·rename_i h2
    rw [if_neg h2] at h
    exact ne m t cs _ _ h
theorem hZ (m : Nat) (l t : List UInt8) (b : Bool) (h : (co m l b).2.2 = false) : b = false ∧ co m (l ++ t) b = ((co m l b).1, (co m l b).2.1 ++ t, false) := by
 unfold co at h ⊢
 cases b
 ·simp only [Bool.false_eq_true, reduceIte] at h ⊢
  exact ⟨trivial, ne m t l 0 0 h⟩
 ·simp at h
theorem cU (m : Nat) : fc (aA m) := by
 intro s t h
 obtain ⟨h1, h2⟩ := h
 obtain ⟨h3, e⟩ := hZ m s.l t s.rb h1
 refine ⟨⟨h3, h2⟩, ?_⟩
 unfold aA app
 dsimp only
 rw [e]
 dsimp only [aA] at h1 h2
 rw [h1]
theorem ky : fc cw := by
 intro s t h
 obtain ⟨h1, h2⟩ := h
 obtain ⟨h3, e⟩ := hZ 18446744073709551615 s.l t s.rb h1
 refine ⟨⟨h3, h2⟩, ?_⟩
 unfold cw app
 dsimp only
 rw [e]
 dsimp only [cw] at h1 h2
 rw [h1]
theorem vt (lo hi : Int) : fc (fL lo hi) := by
 intro s t h
 obtain ⟨h1, h2⟩ := h
 obtain ⟨h3, e⟩ := hZ 18446744073709551615 s.l t s.rb h1
 dsimp only [fL] at h1 h2
 refine ⟨⟨h3, by simp only [Bool.or_eq_false_iff] at h2; exact h2.1⟩, ?_⟩
 unfold fL app
 dsimp only
 rw [e]
 dsimp only
 rw [h1]
theorem xl : fc gS := by
 intro s t h
 obtain ⟨h1, h2⟩ := h
 obtain ⟨h3, e⟩ := hZ 1 s.l t s.rb h1
 refine ⟨⟨h3, h2⟩, ?_⟩
 unfold gS app
 dsimp only
 rw [e]
 dsimp only [gS] at h1 h2
 rw [h1]
theorem locT (m : Nat) : fc (qc m) := by
 intro s t h
 obtain ⟨h1, h2⟩ := h
 dsimp only [qc, o9] at h1 h2
 by_cases hc : (co m s.l s.rb).2.2 = true ∨ (co m s.l s.rb).2.1.length < (co m s.l s.rb).1
 ·rw [if_pos hc] at h1; simp at h1
 ·have hb : (co m s.l s.rb).2.2 = false := by simp only [not_or, Bool.not_eq_true] at hc; exact hc.1
  obtain ⟨h3, e⟩ := hZ m s.l t s.rb hb
  have hl : (co m s.l s.rb).1 ≤ (co m s.l s.rb).2.1.length := by omega
  refine ⟨⟨h3, h2⟩, ?_⟩
  unfold qc o9 app
  dsimp only
  rw [e]
  dsimp only
  rw [if_neg hc, if_neg (by simp only [Bool.false_eq_true, false_or, List.length_append]; omega)]
  dsimp only
  rw [List.take_append_of_le_length hl, List.drop_append_of_le_length hl]
theorem vH {α : Type} {re : Rs → α × Rs} (hr : fc re) : ∀ (k : Nat) (s : Rs) (a : List α) (t : List UInt8), okS (bz re k s a).2 → okS s ∧ bz re k (app s t) a = ((bz re k s a).1, app (bz re k s a).2 t)
 | 0, s, a, t, h => ⟨h, rfl⟩
 | k + 1, s, a, t, h => by
  rw [bz] at h
  by_cases hc : (re s).2.rb = true ∨ (re s).2.cb = true
  ·rw [if_pos hc] at h
   obtain ⟨h1, h2⟩ := h
   dsimp only at h1 h2
   rcases hc with hc | hc
   ·rw [hc] at h1; cases h1
   ·rw [hc] at h2; cases h2
  ·rw [if_neg hc] at h
   obtain ⟨h1, e⟩ := vH hr k _ _ t h
   obtain ⟨h2, e2⟩ := hr s t h1
   refine ⟨h2, ?_⟩
   rw [bz, bz, e2, if_neg hc]
   dsimp only
   rw [if_neg (by unfold app; exact hc), e]
theorem eN {α : Type} {re : Rs → α × Rs} (hr : fc re) (most : Nat) : fc (aM re most) := by
 intro s t h
 unfold aM at h ⊢
 obtain ⟨h1, e⟩ := vH hr _ _ _ t h
 obtain ⟨h2, e2⟩ := cU most s t h1
 refine ⟨h2, ?_⟩
 rw [e2]
 dsimp only
 rw [e]
theorem locTu : fc jy := by
 intro s t h
 unfold jy at h ⊢
 dsimp only at h
 obtain ⟨k0, e0⟩ := vt (-900) 900 _ t h
 obtain ⟨k1, e1⟩ := ky _ t k0
 refine ⟨k1, ?_⟩
 simp only [e1, e0]
theorem locSh : fc jw := by
 intro s t h
 unfold jw at h ⊢
 dsimp only at h
 obtain ⟨k0, e0⟩ := cU 1440 _ t h
 obtain ⟨k1, e1⟩ := cU 1440 _ t k0
 obtain ⟨k2, e2⟩ := cU 127 _ t k1
 refine ⟨k2, ?_⟩
 simp only [e2, e1, e0]
theorem locOf : fc jm := by
 intro s t h
 unfold jm at h ⊢
 dsimp only at h
 obtain ⟨k0, e0⟩ := cU 109937 _ t h
 refine ⟨k0, ?_⟩
 simp only [e0]
theorem locSm : fc jg := by
 intro s t h
 unfold jg at h ⊢
 dsimp only at h
 obtain ⟨k0, e0⟩ := vt (-400) 400 _ t h
 refine ⟨k0, ?_⟩
 simp only [e0]
theorem locDa : fc jn := by
 intro s t h
 unfold jn at h ⊢
 dsimp only at h
 obtain ⟨k0, e0⟩ := cU 6 _ t h
 obtain ⟨k1, e1⟩ := vt (-5) 5 _ t k0
 refine ⟨k1, ?_⟩
 simp only [e1, e0]
theorem locEx : fc iX := by
 intro s t h
 unfold iX at h ⊢
 dsimp only at h
 obtain ⟨k0, e0⟩ := ky _ t h
 refine ⟨k0, ?_⟩
 simp only [e0]
theorem locPl : fc i5 := by
 intro s t h
 unfold i5 at h ⊢
 dsimp only at h
 obtain ⟨k0, e0⟩ := ky _ t h
 refine ⟨k0, ?_⟩
 simp only [e0]
theorem locCh : fc jd := by
 intro s t h
 unfold jd at h ⊢
 dsimp only at h
 obtain ⟨k0, e0⟩ := cU 10080 _ t h
 obtain ⟨k1, e1⟩ := ky _ t k0
 obtain ⟨k2, e2⟩ := ky _ t k1
 refine ⟨k2, ?_⟩
 simp only [e2, e1, e0]
theorem locMu : fc jx := by
 intro s t h
 unfold jx at h ⊢
 dsimp only at h
 obtain ⟨k0, e0⟩ := cU 4294967295 _ t h
 refine ⟨k0, ?_⟩
 simp only [e0]
theorem locWa : fc jr := by
 intro s t h
 unfold jr at h ⊢
 dsimp only at h
 obtain ⟨k0, e0⟩ := cU 1000 _ t h
 obtain ⟨k1, e1⟩ := cU 4294967295 _ t k0
 refine ⟨k1, ?_⟩
 simp only [e1, e0]
theorem locPa : fc jl := by
 intro s t h
 unfold jl at h ⊢
 dsimp only at h
 obtain ⟨k0, e0⟩ := cU 4294967295 _ t h
 obtain ⟨k1, e1⟩ := cU 4294967295 _ t k0
 refine ⟨k1, ?_⟩
 simp only [e1, e0]
theorem locZo : fc kU := by
 intro s t h
 unfold kU at h ⊢
 have L0 := vt (-900) 900 s t
 generalize fL (-900) 900 s = q0 at h L0 ⊢
 obtain ⟨v1, s1⟩ := q0
 dsimp only at h L0 ⊢
 have L1 := eN locTu 700 s1 t
 generalize aM jy 700 s1 = q1 at h L1 ⊢
 obtain ⟨v2, s2⟩ := q1
 dsimp only at h L1 ⊢
 obtain ⟨k1, e1⟩ := L1 h
 obtain ⟨k0, e0⟩ := L0 k1
 refine ⟨k0, ?_⟩
 rw [e0]
 try dsimp only
 rw [e1]
 try dsimp only
theorem vX (most : Nat) : fc (iA most) := by
 intro s t h
 unfold iA at h ⊢
 have L0 := eN locSh most s t
 generalize aM jw most s = q0 at h L0 ⊢
 obtain ⟨v1, s1⟩ := q0
 dsimp only at h L0 ⊢
 obtain ⟨k0, e0⟩ := L0 h
 refine ⟨k0, ?_⟩
 rw [e0]
 try dsimp only
theorem locSe : fc ip := by
 intro s t h
 unfold ip at h ⊢
 have L0 := locZo s t
 generalize kU s = q0 at h L0 ⊢
 obtain ⟨v1, s1⟩ := q0
 dsimp only at h L0 ⊢
 have L1 := vX 10 s1 t
 generalize iA 10 s1 = q1 at h L1 ⊢
 obtain ⟨v2, s2⟩ := q1
 dsimp only at h L1 ⊢
 have L2 := eN locOf 60 s2 t
 generalize aM jm 60 s2 = q2 at h L2 ⊢
 obtain ⟨v3, s3⟩ := q2
 dsimp only at h L2 ⊢
 have L3 := cU 240 s3 t
 generalize aA 240 s3 = q3 at h L3 ⊢
 obtain ⟨v4, s4⟩ := q3
 dsimp only at h L3 ⊢
 have L4 := cU 240 s4 t
 generalize aA 240 s4 = q4 at h L4 ⊢
 obtain ⟨v5, s5⟩ := q4
 dsimp only at h L4 ⊢
 obtain ⟨k4, e4⟩ := L4 h
 obtain ⟨k3, e3⟩ := L3 k4
 obtain ⟨k2, e2⟩ := L2 k3
 obtain ⟨k1, e1⟩ := L1 k2
 obtain ⟨k0, e0⟩ := L0 k1
 refine ⟨k0, ?_⟩
 rw [e0]
 try dsimp only
 rw [e1]
 try dsimp only
 rw [e2]
 try dsimp only
 rw [e3]
 try dsimp only
 rw [e4]
 try dsimp only
theorem tc : fc fP := by
 intro s t h
 unfold fP at h ⊢
 have L0 := eN locSm 400 s t
 generalize aM jg 400 s = q0 at h L0 ⊢
 obtain ⟨v1, s1⟩ := q0
 dsimp only at h L0 ⊢
 obtain ⟨k0, e0⟩ := L0 h
 refine ⟨k0, ?_⟩
 rw [e0]
 try dsimp only
theorem locRu : fc fM := by
 intro s t h
 unfold fM at h ⊢
 have L0 := cU 4 s t
 generalize aA 4 s = q0 at h L0 ⊢
 obtain ⟨v1, s1⟩ := q0
 dsimp only at h L0 ⊢
 have L1 := cU 999 s1 t
 generalize aA 999 s1 = q1 at h L1 ⊢
 obtain ⟨v2, s2⟩ := q1
 dsimp only at h L1 ⊢
 have L2 := cU 5000 s2 t
 generalize aA 5000 s2 = q2 at h L2 ⊢
 obtain ⟨v3, s3⟩ := q2
 dsimp only at h L2 ⊢
 have L3 := ky s3 t
 generalize cw s3 = q3 at h L3 ⊢
 obtain ⟨v4, s4⟩ := q3
 dsimp only at h L3 ⊢
 have L4 := tc s4 t
 generalize fP s4 = q4 at h L4 ⊢
 obtain ⟨v5, s5⟩ := q4
 dsimp only at h L4 ⊢
 have L5 := tc s5 t
 generalize fP s5 = q5 at h L5 ⊢
 obtain ⟨v6, s6⟩ := q5
 dsimp only at h L5 ⊢
 have L6 := eN locDa 400 s6 t
 generalize aM jn 400 s6 = q6 at h L6 ⊢
 obtain ⟨v7, s7⟩ := q6
 dsimp only at h L6 ⊢
 have L7 := tc s7 t
 generalize fP s7 = q7 at h L7 ⊢
 obtain ⟨v8, s8⟩ := q7
 dsimp only at h L7 ⊢
 have L8 := cU 6 s8 t
 generalize aA 6 s8 = q8 at h L8 ⊢
 obtain ⟨v9, s9⟩ := q8
 dsimp only at h L8 ⊢
 obtain ⟨k8, e8⟩ := L8 h
 obtain ⟨k7, e7⟩ := L7 k8
 obtain ⟨k6, e6⟩ := L6 k7
 obtain ⟨k5, e5⟩ := L5 k6
 obtain ⟨k4, e4⟩ := L4 k5
 obtain ⟨k3, e3⟩ := L3 k4
 obtain ⟨k2, e2⟩ := L2 k3
 obtain ⟨k1, e1⟩ := L1 k2
 obtain ⟨k0, e0⟩ := L0 k1
 refine ⟨k0, ?_⟩
 rw [e0]
 try dsimp only
 rw [e1]
 try dsimp only
 rw [e2]
 try dsimp only
 rw [e3]
 try dsimp only
 rw [e4]
 try dsimp only
 rw [e5]
 try dsimp only
 rw [e6]
 try dsimp only
 rw [e7]
 try dsimp only
 rw [e8]
 try dsimp only
theorem vU : fc ew := by
 intro s t h
 unfold ew at h ⊢
 have L0 := ky s t
 generalize cw s = q0 at h L0 ⊢
 obtain ⟨v1, s1⟩ := q0
 dsimp only at h L0 ⊢
 have L1 := ky s1 t
 generalize cw s1 = q1 at h L1 ⊢
 obtain ⟨v2, s2⟩ := q1
 dsimp only at h L1 ⊢
 have L2 := cU 10080 s2 t
 generalize aA 10080 s2 = q2 at h L2 ⊢
 obtain ⟨v3, s3⟩ := q2
 dsimp only at h L2 ⊢
 have L3 := cU 1440 s3 t
 generalize aA 1440 s3 = q3 at h L3 ⊢
 obtain ⟨v4, s4⟩ := q3
 dsimp only at h L3 ⊢
 have L4 := eN locMu 64 s4 t
 generalize aM jx 64 s4 = q4 at h L4 ⊢
 obtain ⟨v5, s5⟩ := q4
 dsimp only at h L4 ⊢
 have L5 := eN locWa 16 s5 t
 generalize aM jr 16 s5 = q5 at h L5 ⊢
 obtain ⟨v6, s6⟩ := q5
 dsimp only at h L5 ⊢
 have L6 := cU 100 s6 t
 generalize aA 100 s6 = q6 at h L6 ⊢
 obtain ⟨v7, s7⟩ := q6
 dsimp only at h L6 ⊢
 have L7 := eN locPa 32 s7 t
 generalize aM jl 32 s7 = q7 at h L7 ⊢
 obtain ⟨v8, s8⟩ := q7
 dsimp only at h L7 ⊢
 have L8 := vX 8 s8 t
 generalize iA 8 s8 = q8 at h L8 ⊢
 obtain ⟨v9, s9⟩ := q8
 dsimp only at h L8 ⊢
 obtain ⟨k8, e8⟩ := L8 h
 obtain ⟨k7, e7⟩ := L7 k8
 obtain ⟨k6, e6⟩ := L6 k7
 obtain ⟨k5, e5⟩ := L5 k6
 obtain ⟨k4, e4⟩ := L4 k5
 obtain ⟨k3, e3⟩ := L3 k4
 obtain ⟨k2, e2⟩ := L2 k3
 obtain ⟨k1, e1⟩ := L1 k2
 obtain ⟨k0, e0⟩ := L0 k1
 refine ⟨k0, ?_⟩
 rw [e0]
 try dsimp only
 rw [e1]
 try dsimp only
 rw [e2]
 try dsimp only
 rw [e3]
 try dsimp only
 rw [e4]
 try dsimp only
 rw [e5]
 try dsimp only
 rw [e6]
 try dsimp only
 rw [e7]
 try dsimp only
 rw [e8]
 try dsimp only
theorem wi (v1 : Int) (v2 : Nat) : fc (kT v1 v2) := by
 intro s3 t h
 unfold kT at h ⊢
 have L0 := locRu s3 t
 generalize fM s3 = q0 at h L0 ⊢
 obtain ⟨v4, s4⟩ := q0
 dsimp only at h L0 ⊢
 have L1 := eN locEx 50 s4 t
 generalize aM iX 50 s4 = q1 at h L1 ⊢
 obtain ⟨v5, s5⟩ := q1
 dsimp only at h L1 ⊢
 have L2 := eN locPl 50 s5 t
 generalize aM i5 50 s5 = q2 at h L2 ⊢
 obtain ⟨v6, s6⟩ := q2
 dsimp only at h L2 ⊢
 have L3 := eN locCh 50 s6 t
 generalize aM jd 50 s6 = q3 at h L3 ⊢
 obtain ⟨v7, s7⟩ := q3
 dsimp only at h L3 ⊢
 obtain ⟨k3, e3⟩ := L3 h
 obtain ⟨k2, e2⟩ := L2 k3
 obtain ⟨k1, e1⟩ := L1 k2
 obtain ⟨k0, e0⟩ := L0 k1
 refine ⟨k0, ?_⟩
 rw [e0]
 try dsimp only
 rw [e1]
 try dsimp only
 rw [e2]
 try dsimp only
 rw [e3]
 try dsimp only
theorem xt (v1 : Int) (v2 : Nat) : fc (kS v1 v2) := by
 intro s3 t h
 unfold kS at h ⊢
 have L0 := xl s3 t
 generalize gS s3 = q0 at h L0 ⊢
 obtain ⟨v4, s4⟩ := q0
 dsimp only at h L0 ⊢
 obtain ⟨k0, e0⟩ := L0 h
 refine ⟨k0, ?_⟩
 rw [e0]
 try dsimp only
theorem locEv : fc ir := by
 intro s t h
 unfold ir at h ⊢
 have L0 := ky s t
 generalize cw s = q0 at h L0 ⊢
 obtain ⟨v1, s1⟩ := q0
 dsimp only at h L0 ⊢
 have L1 := cU 10080 s1 t
 generalize aA 10080 s1 = q1 at h L1 ⊢
 obtain ⟨v2, s2⟩ := q1
 dsimp only at h L1 ⊢
 have L2 := xl s2 t
 generalize gS s2 = q2 at h L2 ⊢
 obtain ⟨v3, s3⟩ := q2
 dsimp only at h L2 ⊢
 have L3 : okS s3 ∧ (if v3 = true then kT v1 v2 (app s3 t) else kS v1 v2 (app s3 t)) = ((if v3 = true then kT v1 v2 s3 else kS v1 v2 s3).1, app (if v3 = true then kT v1 v2 s3 else kS v1 v2 s3).2 t) := by
  cases v3
  ·simp only [Bool.false_eq_true, reduceIte] at h ⊢
   exact xt v1 v2 s3 t h
  ·simp only [reduceIte] at h ⊢
   exact wi v1 v2 s3 t h
 obtain ⟨k2, e2⟩ := L2 L3.1
 obtain ⟨k1, e1⟩ := L1 k2
 obtain ⟨k0, e0⟩ := L0 k1
 refine ⟨k0, ?_⟩
 rw [e0]
 dsimp only
 rw [e1]
 dsimp only
 rw [e2]
 dsimp only
 exact L3.2
theorem locA1 (k : Nat) (c : Nat) (m : Nat) : fc (rL k c m) := by
 intro s3 t h
 unfold rL at h ⊢
 have L0 := locSe s3 t
 generalize ip s3 = q0 at h L0 ⊢
 obtain ⟨v4, s4⟩ := q0
 dsimp only at h L0 ⊢
 obtain ⟨k0, e0⟩ := L0 h
 refine ⟨k0, ?_⟩
 rw [e0]
 try dsimp only
theorem locA3 (k : Nat) (c : Nat) (m : Nat) : fc (rD k c m) := by
 intro s3 t h
 unfold rD at h ⊢
 have L0 := cU 4294967295 s3 t
 generalize aA 4294967295 s3 = q0 at h L0 ⊢
 obtain ⟨v4, s4⟩ := q0
 dsimp only at h L0 ⊢
 have L1 := locEv s4 t
 generalize ir s4 = q1 at h L1 ⊢
 obtain ⟨v5, s5⟩ := q1
 dsimp only at h L1 ⊢
 obtain ⟨k1, e1⟩ := L1 h
 obtain ⟨k0, e0⟩ := L0 k1
 refine ⟨k0, ?_⟩
 rw [e0]
 try dsimp only
 rw [e1]
 try dsimp only
theorem locA4 (k : Nat) (c : Nat) (m : Nat) : fc (sK k c m) := by
 intro s3 t h
 unfold sK at h ⊢
 have L0 := cU 4294967295 s3 t
 generalize aA 4294967295 s3 = q0 at h L0 ⊢
 obtain ⟨v4, s4⟩ := q0
 dsimp only at h L0 ⊢
 obtain ⟨k0, e0⟩ := L0 h
 refine ⟨k0, ?_⟩
 rw [e0]
 try dsimp only
theorem locA5 (k : Nat) (c : Nat) (m : Nat) : fc (sG k c m) := by
 intro s3 t h
 unfold sG at h ⊢
 have L0 := vU s3 t
 generalize ew s3 = q0 at h L0 ⊢
 obtain ⟨v4, s4⟩ := q0
 dsimp only at h L0 ⊢
 have L1 := locT 64 s4 t
 generalize qc 64 s4 = q1 at h L1 ⊢
 obtain ⟨v5, s5⟩ := q1
 dsimp only at h L1 ⊢
 have L2 := cU 100 s5 t
 generalize aA 100 s5 = q2 at h L2 ⊢
 obtain ⟨v6, s6⟩ := q2
 dsimp only at h L2 ⊢
 obtain ⟨k2, e2⟩ := L2 h
 obtain ⟨k1, e1⟩ := L1 k2
 obtain ⟨k0, e0⟩ := L0 k1
 refine ⟨k0, ?_⟩
 rw [e0]
 try dsimp only
 rw [e1]
 try dsimp only
 rw [e2]
 try dsimp only
theorem locA6 (k : Nat) (c : Nat) (m : Nat) : fc (sJ k c m) := by
 intro s3 t h
 unfold sJ at h ⊢
 have L0 := cU 4294967295 s3 t
 generalize aA 4294967295 s3 = q0 at h L0 ⊢
 obtain ⟨v4, s4⟩ := q0
 dsimp only at h L0 ⊢
 have L1 := vU s4 t
 generalize ew s4 = q1 at h L1 ⊢
 obtain ⟨v5, s5⟩ := q1
 dsimp only at h L1 ⊢
 have L2 := cU 100 s5 t
 generalize aA 100 s5 = q2 at h L2 ⊢
 obtain ⟨v6, s6⟩ := q2
 dsimp only at h L2 ⊢
 have L3 := ky s6 t
 generalize cw s6 = q3 at h L3 ⊢
 obtain ⟨v7, s7⟩ := q3
 dsimp only at h L3 ⊢
 obtain ⟨k3, e3⟩ := L3 h
 obtain ⟨k2, e2⟩ := L2 k3
 obtain ⟨k1, e1⟩ := L1 k2
 obtain ⟨k0, e0⟩ := L0 k1
 refine ⟨k0, ?_⟩
 rw [e0]
 try dsimp only
 rw [e1]
 try dsimp only
 rw [e2]
 try dsimp only
 rw [e3]
 try dsimp only
theorem locA7 (k : Nat) (c : Nat) (m : Nat) : fc (rQ k c m) := by
 intro s3 t h
 unfold rQ at h ⊢
 have L0 := cU 4294967295 s3 t
 generalize aA 4294967295 s3 = q0 at h L0 ⊢
 obtain ⟨v4, s4⟩ := q0
 dsimp only at h L0 ⊢
 have L1 := cU 40 s4 t
 generalize aA 40 s4 = q1 at h L1 ⊢
 obtain ⟨v5, s5⟩ := q1
 dsimp only at h L1 ⊢
 have L2 := xl s5 t
 generalize gS s5 = q2 at h L2 ⊢
 obtain ⟨v6, s6⟩ := q2
 dsimp only at h L2 ⊢
 obtain ⟨k2, e2⟩ := L2 h
 obtain ⟨k1, e1⟩ := L1 k2
 obtain ⟨k0, e0⟩ := L0 k1
 refine ⟨k0, ?_⟩
 rw [e0]
 try dsimp only
 rw [e1]
 try dsimp only
 rw [e2]
 try dsimp only
theorem locA8 (k : Nat) (c : Nat) (m : Nat) : fc (sY k c m) := by
 intro s3 t h
 unfold sY at h ⊢
 have L0 := cU 4294967295 s3 t
 generalize aA 4294967295 s3 = q0 at h L0 ⊢
 obtain ⟨v4, s4⟩ := q0
 dsimp only at h L0 ⊢
 obtain ⟨k0, e0⟩ := L0 h
 refine ⟨k0, ?_⟩
 rw [e0]
 try dsimp only
theorem locA9 (k : Nat) (c : Nat) (m : Nat) : fc (sg k c m) := by
 intro s3 t h
 unfold sg at h ⊢
 have L0 := cU 4294967295 s3 t
 generalize aA 4294967295 s3 = q0 at h L0 ⊢
 obtain ⟨v4, s4⟩ := q0
 dsimp only at h L0 ⊢
 have L1 := cU 4294967295 s4 t
 generalize aA 4294967295 s4 = q1 at h L1 ⊢
 obtain ⟨v5, s5⟩ := q1
 dsimp only at h L1 ⊢
 obtain ⟨k1, e1⟩ := L1 h
 obtain ⟨k0, e0⟩ := L0 k1
 refine ⟨k0, ?_⟩
 rw [e0]
 try dsimp only
 rw [e1]
 try dsimp only
theorem xI (k : Nat) (c : Nat) (m : Nat) : fc (kF k c m) := by
 intro s3 t h
 unfold kF at h ⊢
 have L0 := cU 4294967295 s3 t
 generalize aA 4294967295 s3 = q0 at h L0 ⊢
 obtain ⟨v4, s4⟩ := q0
 dsimp only at h L0 ⊢
 obtain ⟨k0, e0⟩ := L0 h
 refine ⟨k0, ?_⟩
 rw [e0]
 try dsimp only
theorem xo (k : Nat) (c : Nat) (m : Nat) : fc (kt k c m) := by
 intro s3 t h
 unfold kt at h ⊢
 have L0 := ky s3 t
 generalize cw s3 = q0 at h L0 ⊢
 obtain ⟨v4, s4⟩ := q0
 dsimp only at h L0 ⊢
 obtain ⟨k0, e0⟩ := L0 h
 refine ⟨k0, ?_⟩
 rw [e0]
 try dsimp only
theorem locA2 (k c m : Nat) : fc (tZ k c m) := fun _ _ h => ⟨h, rfl⟩
theorem locA0 (k c m : Nat) : fc (tS k c m) := by
 intro s t h
 exact absurd h.2 (by simp [tS])
def rA (k c m : Nat) (s3 : Rs) : As × Rs := if k = 1 then rL k c m s3 else if k = 2 then tZ k c m s3 else if k = 3 then rD k c m s3 else if k = 4 then sK k c m s3 else if k = 5 then sG k c m s3 else if k = 6 then sJ k c m s3 else if k = 7 then rQ k c m s3 else if k = 8 then sY k c m s3 else if k = 9 then sg k c m s3 else if k = 10 then kF k c m s3 else if k = 11 then kt k c m s3 else tS k c m s3
theorem locA (k c m : Nat) : fc (rA k c m) := by
 intro s t h
 unfold rA at h ⊢
 by_cases k1 : k = 1
 ·simp only [if_pos k1] at h ⊢; exact locA1 k c m s t h
 simp only [if_neg k1] at h ⊢
 by_cases k2 : k = 2
 ·simp only [if_pos k2] at h ⊢; exact locA2 k c m s t h
 simp only [if_neg k2] at h ⊢
 by_cases k3 : k = 3
 ·simp only [if_pos k3] at h ⊢; exact locA3 k c m s t h
 simp only [if_neg k3] at h ⊢
 by_cases k4 : k = 4
 ·simp only [if_pos k4] at h ⊢; exact locA4 k c m s t h
 simp only [if_neg k4] at h ⊢
 by_cases k5 : k = 5
 ·simp only [if_pos k5] at h ⊢; exact locA5 k c m s t h
 simp only [if_neg k5] at h ⊢
 by_cases k6 : k = 6
 ·simp only [if_pos k6] at h ⊢; exact locA6 k c m s t h
 simp only [if_neg k6] at h ⊢
 by_cases k7 : k = 7
 ·simp only [if_pos k7] at h ⊢; exact locA7 k c m s t h
 simp only [if_neg k7] at h ⊢
 by_cases k8 : k = 8
 ·simp only [if_pos k8] at h ⊢; exact locA8 k c m s t h
 simp only [if_neg k8] at h ⊢
 by_cases k9 : k = 9
 ·simp only [if_pos k9] at h ⊢; exact locA9 k c m s t h
 simp only [if_neg k9] at h ⊢
 by_cases k10 : k = 10
 ·simp only [if_pos k10] at h ⊢; exact xI k c m s t h
 simp only [if_neg k10] at h ⊢
 by_cases k11 : k = 11
 ·simp only [if_pos k11] at h ⊢; exact xo k c m s t h
 simp only [if_neg k11] at h ⊢
 exact locA0 k c m s t h
theorem locAs : fc fK := by
 intro s t h
 have E : fK = fun s => match aA 11 s with
  | (k, s1) => match aA 4294967295 s1 with
   | (c, s2) => match aA 18446744073709551615 s2 with
    | (m, s3) => rA k c m s3 := rfl
 rw [E] at h ⊢
 dsimp only at h ⊢
 have L0 := cU 11 s t
 generalize aA 11 s = q0 at h L0 ⊢
 obtain ⟨v1, s1⟩ := q0
 dsimp only at h L0 ⊢
 have L1 := cU 4294967295 s1 t
 generalize aA 4294967295 s1 = q1 at h L1 ⊢
 obtain ⟨v2, s2⟩ := q1
 dsimp only at h L1 ⊢
 have L2 := cU 18446744073709551615 s2 t
 generalize aA 18446744073709551615 s2 = q2 at h L2 ⊢
 obtain ⟨v3, s3⟩ := q2
 dsimp only at h L2 ⊢
 obtain ⟨k3, e3⟩ := locA v1 v2 v3 s3 t h
 obtain ⟨k2, e2⟩ := L2 k3
 obtain ⟨k1, e1⟩ := L1 k2
 obtain ⟨k0, e0⟩ := L0 k1
 refine ⟨k0, ?_⟩
 rw [e0]
 dsimp only
 rw [e1]
 dsimp only
 rw [e2]
 dsimp only
 exact e3
end Go.Proofs.Ytgefljdclekadaa

namespace Go.Proofs.Ytgefljdclekadaa
open Go Go.Vi
theorem io (x : Int) : (aX (uI x)).length ≤ 10 := eI (gN x)
theorem pM {x : Int} (h : cR x) : (aX (zz x)).length ≤ 10 := eI (lS h.1 h.2)
theorem fm30 {α : Type} {e : α → List UInt8} : ∀ (l : List α), (∀ y ∈ l, (e y).length ≤ 30) → (l.flatMap e).length ≤ 30 * l.length
 | [], _ => by simp
 | y :: l, h => by
  have h1 := fm30 l fun z hz => h z (List.mem_cons_of_mem _ hz)
  have h2 := h y List.mem_cons_self
  rw [List.flatMap_cons, List.length_append, List.length_cons]
  omega
theorem eV {α : Type} {e : α → List UInt8} {f : α → Prop} (he : ∀ y, f y → (e y).length ≤ 30) (l : List α) (n : Nat) (hn : l.length ≤ n) (h8 : n ≤ 1000) (h : ∀ y ∈ l, f y) : (bn e l).length ≤ 10 + 30 * n := by
 unfold bn
 have h1 := fm30 (e := e) l fun y hy => he y (h y hy)
 have h2 := eI (n := l.length) (by omega)
 rw [List.length_append]
 omega
theorem lenTu (x : Int × Int) (h : ye x) : (ji x).length ≤ 30 := by
 have h1 := pM h.1; have h2 := pM h.2
 simp only [ji, List.length_append]; omega
theorem vM (x : Int × Int × Int) (h : wX x) : (jh x).length ≤ 30 := by
 have h1 := io x.1; have h2 := io x.2.1; have h3 := io x.2.2
 simp only [jh, List.length_append]; omega
theorem lenOf (x : Int) (h : xZ x) : (jz x).length ≤ 30 := by
 have h1 := io x
 simp only [jz]; omega
theorem sL (x : Int) (h : xQ x) : (jt x).length ≤ 30 := by
 have h1 := pM h
 simp only [jt]; omega
theorem lenDa (x : Int × Int) (h : yf x) : (jo x).length ≤ 30 := by
 have h1 := pM h.1; have h2 := io x.2
 simp only [jo, List.length_append]; omega
theorem lenEx (x : Int) (h : xy x) : (jj x).length ≤ 30 := by
 have h1 := pM h
 simp only [jj]; omega
theorem lenPl (x : Int) (h : wt x) : (js x).length ≤ 30 := by
 have h1 := pM h
 simp only [js]; omega
theorem lenCh (x : Int × Int × Int) (h : xh x) : (ju x).length ≤ 30 := by
 have h1 := pM h.1; have h2 := pM h.2.1; have h3 := io x.2.2
 simp only [ju, List.length_append]; omega
theorem lenMu (x : Int) (h : wE x) : (jB x).length ≤ 30 := by
 have h1 := io x
 simp only [jB]; omega
theorem lenWa (x : Int × Int) (h : wC x) : (jk x).length ≤ 30 := by
 have h1 := io x.1; have h2 := io x.2
 simp only [jk, List.length_append]; omega
theorem lenPa (x : Int × Int) (h : wo x) : (jv x).length ≤ 30 := by
 have h1 := io x.1; have h2 := io x.2
 simp only [jv, List.length_append]; omega
theorem lenSe {s : Se} (h : vN s) (g : s.great = false) : (tC s).length ≤ 100000 := by
 simp only [Se.great, Bool.or_eq_false_iff, decide_eq_false_iff_not] at g
 obtain ⟨⟨h1, h2, h3⟩, ⟨h4, h5⟩, ⟨h6, h7⟩, h8, h9⟩ := h
 have a1 := pM h1
 have a2 := eV lenTu s.turns 100 (by omega) (by omega) h3
 have a3 := eV vM s.shifts 30 (by omega) (by omega) h5
 have a4 := eV lenOf s.off 100 (by omega) (by omega) h7
 have a5 := io s.before
 have a6 := io s.after
 simp only [tC, t8, qg, List.length_append]
 omega
theorem lenRu {s : Ru} (h : xG s) (g : s.bm.length ≤ 100 ∧ s.bmd.length ≤ 100 ∧ s.bd.length ≤ 200 ∧ s.bsp.length ≤ 500) : (tw s).length ≤ 100000 := by
 obtain ⟨h1, h2, h3, h4, ⟨h5, h6⟩, ⟨h7, h8⟩, ⟨h9, h10⟩, ⟨h11, h12⟩, h13⟩ := h
 have a1 := io s.freq
 have a2 := io s.interval
 have a3 := io s.count
 have a4 := pM h4
 have a5 := eV sL s.bm 100 (by omega) (by omega) h6
 have a6 := eV sL s.bmd 100 (by omega) (by omega) h8
 have a7 := eV lenDa s.bd 200 (by omega) (by omega) h10
 have a8 := eV sL s.bsp 500 (by omega) (by omega) h12
 have a9 := io s.start
 simp only [tw, pC, List.length_append]
 omega
theorem lenEv {s : Ev} (h : yn s) (g : s.great = false) : (sE s).length ≤ 200000 := by
 simp only [Ev.great, Bool.or_eq_false_iff, decide_eq_false_iff_not] at g
 obtain ⟨⟨h1, h2, _, _⟩, _, _, _, hr, ⟨h3, h4⟩, ⟨h5, h6⟩, h7, h8⟩ := h
 have a1 := pM h1
 have a2 := io s.long
 have a3 := lenRu hr (by omega)
 have a4 := eV lenEx s.ex 80 (by omega) (by omega) h4
 have a5 := eV lenPl s.plus 80 (by omega) (by omega) h6
 have a6 := eV lenCh s.ch 80 (by omega) (by omega) h8
 unfold sE
 split
 ·simp only [wg, oq, List.length_append, List.length_cons, List.length_nil]
  omega
 ·simp only [vV, oq, List.length_append, List.length_cons, List.length_nil]
  omega
theorem lenQu {s : Qu} (h : uA s) (g : s.great = false) : (qe s).length ≤ 100000 := by
 simp only [Qu.great, Bool.or_eq_false_iff, decide_eq_false_iff_not] at g
 obtain ⟨h1, h2, h3, h4, ⟨h5, h6⟩, ⟨h7, h8⟩, h9, ⟨h10, h11⟩, h12, h13⟩ := h
 have a1 := pM h1
 have a2 := pM h2
 have a3 := io s.long
 have a4 := io s.grid
 have a5 := eV lenMu s.must 80 (by omega) (by omega) h6
 have a6 := eV lenWa s.may 40 (by omega) (by omega) h8
 have a7 := io s.seats
 have a8 := eV lenPa s.apart 60 (by omega) (by omega) h11
 have a9 := eV vM s.prefer 30 (by omega) (by omega) h13
 simp only [qe, qg, List.length_append]
 omega
set_option maxHeartbeats 4000000 in
theorem vK {a : As} (h : jI a) (g : a.great = false) : (eM a).length ≤ 1000000 := by
 simp only [As.great, Bool.or_eq_false_iff, decide_eq_false_iff_not] at g
 have a1 := lenSe h.se g.1.1.1
 have a2 := lenEv h.ev g.1.1.2
 have a3 := lenQu h.qu g.1.2
 have a4 := io a.kind
 have a5 := io a.caller
 have a6 := io a.number
 have a7 := io a.id
 have a8 := io a.count
 have a9 := io a.poll
 have a10 := io a.slot
 have a11 := pM h.til
 have a12 : (t6 a.cursor).length ≤ 1000 := by
  unfold t6
  have h1 := eI (n := a.cursor.size) (by omega)
  have h2 : a.cursor.data.toList.length = a.cursor.size := rfl
  rw [List.length_append]
  omega
 unfold eM
 repeat' split
 all_goals (simp only [vJ, tX, rv, tY, tW, tP, tT, tU, t7, tQ, kZ, kY, oq, List.length_append, List.length_cons, List.length_nil]; omega)
set_option maxHeartbeats 4000000 in
theorem wU (a : As) : eM a ≠ [] := by
 have h : aX (uI a.kind) ≠ [] := by
  intro h
  rw [aX] at h
  split at h <;> simp at h
 unfold eM
 repeat' split
 all_goals (simp only [vJ, tX, rv, tY, tW, tP, tT, tU, t7, tQ, kZ, kY, ne_eq, List.append_eq_nil_iff, h, false_and, not_false_eq_true])
end Go.Proofs.Ytgefljdclekadaa

namespace Go.Proofs.Ytgefljdclekadaa
open Go Go.Vi
theorem uT {a : As} (hf : jI a) (hw : sN a = true) (k : Nat) (hk : k < (eM a).length) : t9 (fK ⟨(eM a).take k, false, false⟩) ((eM a).take k) = false := by
 unfold sN at hw
 simp only [Bool.and_eq_true, Bool.not_eq_true', decide_eq_true_eq] at hw
 rw [Bool.eq_false_iff]
 intro h
 unfold t9 at h
 simp only [Bool.and_eq_true, Bool.not_eq_true', decide_eq_true_eq, List.isEmpty_iff] at h
 obtain ⟨⟨h1, h2, h3⟩, _⟩ := h
 obtain ⟨_, e⟩ := locAs ⟨(eM a).take k, false, false⟩ ((eM a).drop k) ⟨h2, h1⟩
 have e2 : app ⟨(eM a).take k, false, false⟩ ((eM a).drop k) = ⟨eM a ++ [], false, false⟩ := by
  unfold app
  simp only [List.take_append_drop, List.append_nil]
 rw [e2, rK a hf hw.1 []] at e
 have e3 := congrArg (fun q => q.2.l) e
 dsimp only [app] at e3
 rw [h3, List.nil_append] at e3
 have e4 := congrArg List.length e3
 simp only [List.length_nil, List.length_drop] at e4
 omega
theorem qK {a : As} (hf : jI a) (hw : sN a = true) (t : List UInt8) : t9 (fK ⟨eM a ++ t, false, false⟩) (eM a ++ t) = decide (t.length = 0) := by
 unfold sN at hw
 simp only [Bool.and_eq_true, Bool.not_eq_true', decide_eq_true_eq] at hw
 rw [rK a hf hw.1 t]
 unfold t9
 cases t
 ·simp [hw.2]
 ·simp
theorem oJ {a b : As} (ha : jI a) (hb : jI b) (pa : hI a = true) (pb : hI b = true) : (eM a = eM b) = (a = b) := by
 unfold hI sN at pa pb
 simp only [Bool.and_eq_true, Bool.not_eq_true', decide_eq_true_eq] at pa pb
 refine propext ⟨fun h => ?_, fun h => by rw [h]⟩
 have e1 := rK a ha pa.1.1 []
 rw [h, rK b hb pb.1.1 []] at e1
 have e2 := congrArg Prod.fst e1
 dsimp only at e2
 rw [pa.2, pb.2] at e2
 exact e2.symm
end Go.Proofs.Ytgefljdclekadaa
