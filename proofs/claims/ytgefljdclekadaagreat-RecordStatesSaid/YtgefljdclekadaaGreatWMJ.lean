import Derived.Test.YtgefljdclekadaaGreatWMB
import Derived.Test.YtgefljdclekadaaGreatWMH
import Derived.Test.YtgefljdclekadaaGreatWMI
set_option linter.unusedVariables false
set_option linter.unusedSimpArgs false
namespace Go.Proofs.YtgefljdclekadaaGreat
open Go Go.Vi
abbrev qo (b : Nat) (k : IntKind) : Sh := .slice b [.int k]
abbrev xU (b : Nat) (k m : IntKind) : Sh := .slice b [.int k, .int m]
abbrev zy : Sh := .slice 24 [.int .i64, .int .i64, .int .i64]
def zn : List Sh := [.int .i64, .int .i64, .bool, .bool, .int .i64, .int .i64, .int .i64, .int .i64, qo 8 .i64, qo 8 .i64, xU 16 .i64 .i64, qo 8 .i64, .int .i64, qo 8 .i64, qo 8 .i64, zy]
def vd : List Sh := [.int .u32, .int .i64, .int .i64, .bool, .bool, .int .i64, .int .i64, .int .i64, .int .i64, qo 8 .i64, qo 8 .i64, xU 16 .i64 .i64, qo 8 .i64, .int .i64, qo 8 .i64, qo 8 .i64, zy]
def vg : List Sh := [.int .u32, .int .i64, xU 16 .i64 .i64, zy, qo 8 .i64, .int .i64, .int .i64, .int .u64, .slice 240 vd]
def ve : List Sh := [.int .u32, .int .u32, .int .i64, .int .i64, .int .i64, .int .i64, qo 4 .u32, xU 16 .u32 .i64, .int .i64, xU 8 .u32 .u32, zy, qo 8 .i64, xU 16 .u32 .i64, .int .i64, .int .i64, .int .i64]
def vc : List Sh := [.int .u32, .int .u64, .int .u64]
def sB : List Sh := [.int .i64, .slice 136 vg, .slice 216 ve, .slice 24 vc]
theorem oT {α : Type} {f : α → List D} {shs : List Sh} {Q : α → Prop} (hd : ∀ ds, aX shs ds → ∃ x, ds = f x ∧ Q x) : ∀ rows : List (List D), (∀ r ∈ rows, aX shs r) → ∃ l : List α, rows = l.map f ∧ ∀ x ∈ l, Q x
 | [], _ => ⟨[], rfl, by simp⟩
 | r :: rows, h => by
  obtain ⟨l, hl, hq⟩ := oT hd rows fun r hr => h r (by simp [hr])
  obtain ⟨x, hx, qx⟩ := hd r (h r (by simp))
  refine ⟨x :: l, by rw [hx, hl]; rfl, fun y hy => ?_⟩
  rcases List.mem_cons.1 hy with rfl | h
  ·exact qx
  ·exact hq y h
theorem pH {α : Type} {f : α → List D} {shs : List Sh} {Q : α → Prop} {b : Nat} {d : D} (hd : ∀ ds, aX shs ds → ∃ x, ds = f x ∧ Q x) (h : eN (.slice b shs) d) : ∃ l : List α, d = L (l.map f) ∧ l.length * b ≤ 140737488351232 ∧ ∀ x ∈ l, Q x := by
 simp only [eN] at h
 obtain ⟨rows, rfl, hl, hr⟩ := h
 obtain ⟨l, rfl, hq⟩ := oT hd rows hr
 exact ⟨l, rfl, by simpa using hl, hq⟩
theorem oA {b : Nat} {k : IntKind} {d : D} (hb : 0 < b) (h : eN (qo b k) d) : ∃ l : List Int, d = L (aJ k l) ∧ l.length ≤ 140737488351232 := by
 obtain ⟨l, h1, h2, _⟩ := pH (f := fun x : Int => [D.int k x]) (Q := fun _ => True) (fun ds h => by
  simp only [aX, eN] at h
  obtain ⟨_, _, rfl, ⟨n, rfl, _⟩, rfl⟩ := h
  exact ⟨n, rfl, trivial⟩) h
 exact ⟨l, h1, Nat.le_trans (Nat.le_mul_of_pos_right _ hb) h2⟩
theorem tC {b : Nat} {k m : IntKind} {d : D} (hb : 0 < b) (h : eN (xU b k m) d) : ∃ l : List (Int × Int), d = L (aV k m l) ∧ l.length ≤ 140737488351232 := by
 obtain ⟨l, h1, h2, _⟩ := pH (f := fun x : Int × Int => [D.int k x.1, D.int m x.2]) (Q := fun _ => True) (fun ds h => by
  simp only [aX, eN] at h
  obtain ⟨_, _, rfl, ⟨n, rfl, _⟩, _, _, rfl, ⟨n', rfl, _⟩, rfl⟩ := h
  exact ⟨(n, n'), rfl, trivial⟩) h
 exact ⟨l, h1, Nat.le_trans (Nat.le_mul_of_pos_right _ hb) h2⟩
theorem yT {d : D} (h : eN zy d) : ∃ l : List (Int × Int × Int), d = L (bo l) ∧ l.length ≤ 140737488351232 := by
 obtain ⟨l, h1, h2, _⟩ := pH (f := fun x : Int × Int × Int => [D.int .i64 x.1, D.int .i64 x.2.1, D.int .i64 x.2.2]) (Q := fun _ => True) (fun ds h => by
  simp only [aX, eN] at h
  obtain ⟨_, _, rfl, ⟨n, rfl, _⟩, _, _, rfl, ⟨n', rfl, _⟩, _, _, rfl, ⟨n'', rfl, _⟩, rfl⟩ := h
  exact ⟨(n, n', n''), rfl, trivial⟩) h
 exact ⟨l, h1, by omega⟩
theorem ee {k : IntKind} {d : D} (h : eN (.int k) d) : ∃ n, d = .int k n := by simp only [eN] at h; obtain ⟨n, h, _⟩ := h; exact ⟨n, h⟩
theorem fitB {d : D} (h : eN .bool d) : ∃ n, d = .bool n := by simp only [eN] at h; exact h
theorem fitS {d : D} (h : eN .str d) : ∃ s : ByteArray, d = .str s ∧ s.size ≤ 140737488351232 := by simp only [eN] at h; exact h
theorem decEv (ds : List D) (h : aX zn ds) : ∃ s : Ev, ds = s.cells ∧ s.fits := by
 simp only [zn, aX] at h
 obtain ⟨_, _, rfl, h1, _, _, rfl, h2, _, _, rfl, h3, _, _, rfl, h4, _, _, rfl, h5, _, _, rfl, h6, _, _, rfl, h7, _, _, rfl, h8, _, _, rfl, h9, _, _, rfl, h10, _, _, rfl, h11, _, _, rfl, h12, _, _, rfl, h13, _, _, rfl, h14, _, _, rfl, h15, _, _, rfl, h16, rfl⟩ := h
 obtain ⟨n1, rfl⟩ := ee h1
 obtain ⟨n2, rfl⟩ := ee h2
 obtain ⟨n3, rfl⟩ := fitB h3
 obtain ⟨n4, rfl⟩ := fitB h4
 obtain ⟨n5, rfl⟩ := ee h5
 obtain ⟨n6, rfl⟩ := ee h6
 obtain ⟨n7, rfl⟩ := ee h7
 obtain ⟨n8, rfl⟩ := ee h8
 obtain ⟨l9, rfl, g9⟩ := oA (by decide) h9
 obtain ⟨l10, rfl, g10⟩ := oA (by decide) h10
 obtain ⟨l11, rfl, g11⟩ := tC (by decide) h11
 obtain ⟨l12, rfl, g12⟩ := oA (by decide) h12
 obtain ⟨n13, rfl⟩ := ee h13
 obtain ⟨l14, rfl, g14⟩ := oA (by decide) h14
 obtain ⟨l15, rfl, g15⟩ := oA (by decide) h15
 obtain ⟨l16, rfl, g16⟩ := yT h16
 exact ⟨⟨n1, n2, n3, n4, ⟨n5, n6, n7, n8, l9, l10, l11, l12, n13⟩, l14, l15, l16⟩, rfl, ⟨g9, g10, g11, g12⟩, g14, g15, g16⟩
theorem decEn (ds : List D) (h : aX vd ds) : ∃ e : En, ds = e.row ∧ e.ev.fits := by
 simp only [vd, aX] at h
 obtain ⟨d0, r0, rfl, h0, h⟩ := h
 obtain ⟨n0, rfl⟩ := ee h0
 obtain ⟨e, rfl, he⟩ := decEv r0 (by simp only [zn, aX]; exact h)
 exact ⟨⟨n0, e⟩, rfl, he⟩
theorem decUs (ds : List D) (h : aX vg ds) : ∃ u : Us, ds = u.row ∧ u.fit := by
 simp only [vg, aX] at h
 obtain ⟨_, _, rfl, h0, _, _, rfl, h1, _, _, rfl, h2, _, _, rfl, h3, _, _, rfl, h4, _, _, rfl, h5, _, _, rfl, h6, _, _, rfl, h7, _, _, rfl, h8, rfl⟩ := h
 obtain ⟨n0, rfl⟩ := ee h0
 obtain ⟨n1, rfl⟩ := ee h1
 obtain ⟨l2, rfl, g2⟩ := tC (by decide) h2
 obtain ⟨l3, rfl, g3⟩ := yT h3
 obtain ⟨l4, rfl, g4⟩ := oA (by decide) h4
 obtain ⟨n5, rfl⟩ := ee h5
 obtain ⟨n6, rfl⟩ := ee h6
 obtain ⟨n7, rfl⟩ := ee h7
 obtain ⟨l8, rfl, g8, q8⟩ := pH decEn h8
 exact ⟨⟨n0, ⟨n1, l2, l3, l4, n5, n6⟩, n7, l8⟩, rfl, ⟨g2, g3, g4⟩, by show l8.length ≤ _; omega, q8⟩
theorem decPo (ds : List D) (h : aX ve ds) : ∃ p : Po, ds = p.row ∧ p.fits := by
 simp only [ve, aX] at h
 obtain ⟨_, _, rfl, ha, _, _, rfl, hb, _, _, rfl, h0, _, _, rfl, h1, _, _, rfl, h2, _, _, rfl, h3, _, _, rfl, h4, _, _, rfl, h5, _, _, rfl, h6, _, _, rfl, h7, _, _, rfl, h8, _, _, rfl, h9, _, _, rfl, h10, _, _, rfl, h11, _, _, rfl, h12, _, _, rfl, h13, rfl⟩ := h
 obtain ⟨na, rfl⟩ := ee ha
 obtain ⟨nb, rfl⟩ := ee hb
 obtain ⟨n0, rfl⟩ := ee h0
 obtain ⟨n1, rfl⟩ := ee h1
 obtain ⟨n2, rfl⟩ := ee h2
 obtain ⟨n3, rfl⟩ := ee h3
 obtain ⟨l4, rfl, g4⟩ := oA (by decide) h4
 obtain ⟨l5, rfl, g5⟩ := tC (by decide) h5
 obtain ⟨n6, rfl⟩ := ee h6
 obtain ⟨l7, rfl, g7⟩ := tC (by decide) h7
 obtain ⟨l8, rfl, g8⟩ := yT h8
 obtain ⟨l9, rfl, g9⟩ := oA (by decide) h9
 obtain ⟨l10, rfl, g10⟩ := tC (by decide) h10
 obtain ⟨n11, rfl⟩ := ee h11
 obtain ⟨n12, rfl⟩ := ee h12
 obtain ⟨n13, rfl⟩ := ee h13
 exact ⟨⟨na, nb, ⟨n0, n1, n2, n3, l4, l5, n6, l7, l8⟩, l9, l10, n11, n12, n13⟩, rfl, ⟨g4, g5, g7, g8⟩, g9, g10⟩
theorem decDn (ds : List D) (h : aX vc ds) : ∃ d : Dn, ds = d.row ∧ True := by
 simp only [vc, aX] at h
 obtain ⟨_, _, rfl, h0, _, _, rfl, h1, _, _, rfl, h2, rfl⟩ := h
 obtain ⟨n0, rfl⟩ := ee h0
 obtain ⟨n1, rfl⟩ := ee h1
 obtain ⟨n2, rfl⟩ := ee h2
 exact ⟨⟨n0, n1, n2⟩, rfl, trivial⟩
theorem xC (ds : List D) (h : aX sB ds) : ∃ s : dp, ds = s.cells ∧ s.fits := by
 simp only [sB, aX] at h
 obtain ⟨_, _, rfl, h0, _, _, rfl, h1, _, _, rfl, h2, _, _, rfl, h3, rfl⟩ := h
 obtain ⟨n0, rfl⟩ := ee h0
 obtain ⟨us, rfl, g1, q1⟩ := pH decUs h1
 obtain ⟨ps, rfl, g2, q2⟩ := pH decPo h2
 obtain ⟨dn, rfl, g3, _⟩ := pH decDn h3
 exact ⟨⟨n0, us, ps, dn⟩, rfl, by show us.length ≤ _; omega, by show ps.length ≤ _; omega, by show dn.length ≤ _; omega, q1, q2⟩
end Go.Proofs.YtgefljdclekadaaGreat

namespace Go.Proofs.YtgefljdclekadaaGreat
open Go Go.Vi
end Go.Proofs.YtgefljdclekadaaGreat

namespace Go.Proofs.YtgefljdclekadaaGreat
open Go Go.Vi
theorem dU {s : Sh} {ss : List Sh} {d : D} {r : List D} : aX (s :: ss) (d :: r) ↔ eN s d ∧ aX ss r := by
 simp only [aX]
 constructor
 ·rintro ⟨_, _, h, h1, h2⟩
  cases h
  exact ⟨h1, h2⟩
 ·rintro ⟨h1, h2⟩
  exact ⟨_, _, rfl, h1, h2⟩
theorem bC {k : IntKind} {n : Int} : eN (.int k) (.int k n) ↔ k.min ≤ n ∧ n ≤ k.max := by
 simp only [eN]
 constructor
 ·rintro ⟨_, h, h1⟩
  cases h
  exact h1
 ·intro h
  exact ⟨_, rfl, h⟩
theorem pM {α : Type} {f : α → List D} {b : Nat} {shs : List Sh} {l : List α} (hb : 0 < b) (h : eN (.slice b shs) (L (l.map f))) : l.length ≤ 140737488351232 ∧ ∀ x ∈ l, aX shs (f x) := by
 simp only [eN] at h
 obtain ⟨rows, e, hl, hr⟩ := h
 injection e with _ _ e
 subst e
 refine ⟨Nat.le_trans (Nat.le_mul_of_pos_right _ hb) (by simpa using hl), fun x hx => hr _ (List.mem_map_of_mem hx)⟩
theorem oB {k : IntKind} {b : Nat} {l : List Int} (hb : 0 < b) (h : eN (qo b k) (L (aJ k l))) : l.length ≤ 140737488351232 ∧ ∀ x ∈ l, k.min ≤ x ∧ x ≤ k.max := by
 obtain ⟨h1, h2⟩ := pM hb h
 refine ⟨h1, fun x hx => ?_⟩
 have := h2 x hx
 rw [dU, bC] at this
 exact this.1
theorem tG {k m : IntKind} {b : Nat} {l : List (Int × Int)} (hb : 0 < b) (h : eN (xU b k m) (L (aV k m l))) : l.length ≤ 140737488351232 ∧ ∀ x ∈ l, (k.min ≤ x.1 ∧ x.1 ≤ k.max) ∧ (m.min ≤ x.2 ∧ x.2 ≤ m.max) := by
 obtain ⟨h1, h2⟩ := pM hb h
 refine ⟨h1, fun x hx => ?_⟩
 have := h2 x hx
 rw [dU, dU, bC, bC] at this
 exact ⟨this.1, this.2.1⟩
theorem yX {l : List (Int × Int × Int)} (h : eN zy (L (bo l))) : l.length ≤ 140737488351232 ∧ ∀ x ∈ l, dv x.1 ∧ dv x.2.1 ∧ dv x.2.2 := by
 obtain ⟨h1, h2⟩ := pM (by decide) h
 refine ⟨h1, fun x hx => ?_⟩
 have := h2 x hx
 rw [dU, dU, dU, bC, bC, bC] at this
 exact ⟨this.1, this.2.1, this.2.2.1⟩
end Go.Proofs.YtgefljdclekadaaGreat

namespace Go.Proofs.YtgefljdclekadaaGreat
open Go Go.Vi
theorem ia (x : Int) : (bl (uI x)).length ≤ 10 := bv (cy x)
theorem nV {x : Int} (h : dv x) : (bl (zz x)).length ≤ 10 := bv (fu h.1 h.2)
theorem fm30 {α : Type} {e : α → List UInt8} : ∀ (l : List α), (∀ y ∈ l, (e y).length ≤ 30) → (l.flatMap e).length ≤ 30 * l.length
 | [], _ => by simp
 | y :: l, h => by
  have h1 := fm30 l fun z hz => h z (List.mem_cons_of_mem _ hz)
  have h2 := h y List.mem_cons_self
  rw [List.flatMap_cons, zB, zK]
  omega
theorem eL {α : Type} {e : α → List UInt8} {f : α → Prop} (he : ∀ y, f y → (e y).length ≤ 30) (l : List α) (n : Nat) (hn : l.length ≤ n) (h8 : n ≤ 1000) (h : ∀ y ∈ l, f y) : (aY e l).length ≤ 10 + 30 * n := by
 unfold aY
 have h1 := fm30 (e := e) l fun y hy => he y (h y hy)
 have h2 := bv (n := l.length) (by omega)
 rw [zB]
 omega
theorem lenTu (x : Int × Int) (h : vA x) : (mV x).length ≤ 30 := by
 have h1 := nV h.1; have h2 := nV h.2
 simp only [mV, zB]; omega
theorem xI (x : Int × Int × Int) (h : tx x) : (lR x).length ≤ 30 := by
 have h1 := ia x.1; have h2 := ia x.2.1; have h3 := ia x.2.2
 simp only [lR, zB]; omega
theorem lenOf (x : Int) (h : vu x) : (nP x).length ≤ 30 := by
 have h1 := ia x
 simp only [nP]; omega
theorem tV (x : Int) (h : vz x) : (nQ x).length ≤ 30 := by
 have h1 := nV h
 simp only [nQ]; omega
theorem lenDa (x : Int × Int) (h : vp x) : (mS x).length ≤ 30 := by
 have h1 := nV h.1; have h2 := ia x.2
 simp only [mS, zB]; omega
theorem lenEx (x : Int) (h : xE x) : (pg x).length ≤ 30 := by
 have h1 := nV h
 simp only [pg]; omega
theorem lenPl (x : Int) (h : xF x) : (ph x).length ≤ 30 := by
 have h1 := nV h
 simp only [ph]; omega
theorem lenCh (x : Int × Int × Int) (h : vo x) : (mR x).length ≤ 30 := by
 have h1 := nV h.1; have h2 := nV h.2.1; have h3 := ia x.2.2
 simp only [mR, zB]; omega
theorem lenMu (x : Int) (h : vt x) : (nO x).length ≤ 30 := by
 have h1 := ia x
 simp only [nO]; omega
theorem lenWa (x : Int × Int) (h : vC x) : (mX x).length ≤ 30 := by
 have h1 := ia x.1; have h2 := ia x.2
 simp only [mX, zB]; omega
theorem lenPa (x : Int × Int) (h : vv x) : (mT x).length ≤ 30 := by
 have h1 := ia x.1; have h2 := ia x.2
 simp only [mT, zB]; omega
theorem lenSe {s : Se} (h : wb s) (g : s.great = false) : (pk s).length ≤ 100000 := by
 simp only [Se.great, zM, decide_eq_false_iff_not] at g
 obtain ⟨⟨h1, h2, h3⟩, ⟨h4, h5⟩, ⟨h6, h7⟩, h8, h9⟩ := h
 have a1 := nV h1
 have a2 := eL lenTu s.turns 100 (by omega) (by omega) h3
 have a3 := eL xI s.shifts 30 (by omega) (by omega) h5
 have a4 := eL lenOf s.off 100 (by omega) (by omega) h7
 have a5 := ia s.before
 have a6 := ia s.after
 simp only [pk, rQ, ke, zB]
 omega
theorem lenRu {s : Ru} (h : yS s) (g : s.bm.length ≤ 100 ∧ s.bmd.length ≤ 100 ∧ s.bd.length ≤ 200 ∧ s.bsp.length ≤ 500) : (qP s).length ≤ 100000 := by
 obtain ⟨h1, h2, h3, h4, ⟨h5, h6⟩, ⟨h7, h8⟩, ⟨h9, h10⟩, ⟨h11, h12⟩, h13⟩ := h
 have a1 := ia s.freq
 have a2 := ia s.interval
 have a3 := ia s.count
 have a4 := nV h4
 have a5 := eL tV s.bm 100 (by omega) (by omega) h6
 have a6 := eL tV s.bmd 100 (by omega) (by omega) h8
 have a7 := eL lenDa s.bd 200 (by omega) (by omega) h10
 have a8 := eL tV s.bsp 500 (by omega) (by omega) h12
 have a9 := ia s.start
 simp only [qP, mU, zB]
 omega
theorem lenEv {s : Ev} (h : zw s) (g : s.great = false) : (pE s).length ≤ 200000 := by
 simp only [Ev.great, zM, decide_eq_false_iff_not] at g
 obtain ⟨⟨h1, h2, _, _⟩, _, _, _, hr, ⟨h3, h4⟩, ⟨h5, h6⟩, h7, h8⟩ := h
 have a1 := nV h1
 have a2 := ia s.long
 have a3 := lenRu hr (by omega)
 have a4 := eL lenEx s.ex 80 (by omega) (by omega) h4
 have a5 := eL lenPl s.plus 80 (by omega) (by omega) h6
 have a6 := eL lenCh s.ch 80 (by omega) (by omega) h8
 unfold pE
 split
 ·simp only [rP, mZ, zB, zK, zL]
  omega
 ·simp only [rO, mZ, zB, zK, zL]
  omega
theorem lenQu {s : Qu} (h : vw s) (g : s.great = false) : (pj s).length ≤ 100000 := by
 simp only [Qu.great, zM, decide_eq_false_iff_not] at g
 obtain ⟨h1, h2, h3, h4, ⟨h5, h6⟩, ⟨h7, h8⟩, h9, ⟨h10, h11⟩, h12, h13⟩ := h
 have a1 := nV h1
 have a2 := nV h2
 have a3 := ia s.long
 have a4 := ia s.grid
 have a5 := eL lenMu s.must 80 (by omega) (by omega) h6
 have a6 := eL lenWa s.may 40 (by omega) (by omega) h8
 have a7 := ia s.seats
 have a8 := eL lenPa s.apart 60 (by omega) (by omega) h11
 have a9 := eL xI s.prefer 30 (by omega) (by omega) h13
 simp only [pj, ke, zB]
 omega
end Go.Proofs.YtgefljdclekadaaGreat
