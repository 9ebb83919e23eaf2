import Derived.Test.YtgefljdclekadaaGreatWMN
import Derived.Test.YtgefljdclekadaaGreatVi25
import Derived.Test.YtgefljdclekadaaGreatWMJ
import Derived.Test.YtgefljdclekadaaGreatWMI
set_option linter.unusedVariables false
set_option linter.unusedSimpArgs false
namespace Go.Proofs.YtgefljdclekadaaGreat
open Go Go.Vi
theorem fmK {α : Type} {e : α → List UInt8} (K : Nat) : ∀ (l : List α), (∀ y ∈ l, (e y).length ≤ K) → (l.flatMap e).length ≤ K * l.length
 | [], _ => by simp
 | y :: l, h => by
  have h1 := fmK K l fun z hz => h z (List.mem_cons_of_mem _ hz)
  have h2 := h y List.mem_cons_self
  rw [List.flatMap_cons, zB, zK, Nat.mul_succ]
  omega
theorem wL {α : Type} {e : α → List UInt8} (K : Nat) (l : List α) (n : Nat) (hn : l.length ≤ n) (h8 : n ≤ 1000) (h : ∀ y ∈ l, (e y).length ≤ K) : (aY e l).length ≤ 10 + K * n := by
 unfold aY
 have h1 := fmK (e := e) K l h
 have h2 := bv (n := l.length) (by omega)
 have h3 : K * l.length ≤ K * n := Nat.mul_le_mul_left K hn
 rw [zB]
 omega
theorem y9 (x : Int) (h : xG x) : (pm x).length ≤ 30 := by
 have h1 := nV h
 simp only [pm]; omega
theorem za (x : Int × Int) (h : vB x) : (mW x).length ≤ 30 := by
 have h1 := ia x.1; have h2 := ia x.2
 simp only [mW, zB]; omega
theorem lenDn (x : Int × Int × Int) : (lQ x).length ≤ 30 := by
 have h1 := ia x.1; have h2 := ia x.2.1; have h3 := ia x.2.2
 simp only [lQ, zB]; omega
theorem y7 {s : Po} (h : tw s) (g : s.great = false) : (gz s).length ≤ 200000 := by
 simp only [Po.great, zM, decide_eq_false_iff_not] at g
 obtain ⟨h1, h2, h3, ⟨h4, h5⟩, ⟨h6, h7⟩, h8, h9, h10⟩ := h
 have a1 := ia s.id
 have a2 := ia s.owner
 have a3 := lenQu h3 g.1.1
 have a4 := eL y9 s.slots 80 (by omega) (by omega) h5
 have a5 := eL za s.votes 300 (by omega) (by omega) h7
 have a6 := nV h8
 have a7 := ia s.state
 have a8 := ia s.winner
 simp only [gz, zB]
 omega
theorem lenUs {u : Us} (h : tz u) (g : u.great = false) : (hU u).length ≤ 3000000 := by
 simp only [Us.great, zM, decide_eq_false_iff_not, List.any_eq_false] at g
 obtain ⟨⟨g1, g2⟩, g3⟩ := g
 have a1 := ia u.id
 have a2 := lenSe h.2.1 g1
 have a3 := ia u.ver
 have a4 := wL (e := lr) 200010 u.evs 10 (by omega) (by omega) (fun e he => by
  have hf := h.2.2.2.2 e he
  have b1 := ia e.id
  have b2 := lenEv hf.2 (by simpa using g3 e he)
  unfold lr
  rw [zB]
  omega)
 simp only [hU, zB]
 omega
theorem lenSq {s : dp} (h : sW s.sq) (g : eQ s.us s.ps s.ds = false) : (gA s.sq).length ≤ 100000000 := by
 simp only [eQ, zM, decide_eq_false_iff_not, List.any_eq_false] at g
 obtain ⟨⟨⟨⟨g1, g2⟩, g3⟩, g4⟩, g5⟩ := g
 have a1 := nV h.1
 have a2 := wL (e := hU) 3000000 s.us 12 (by omega) (by omega) (fun u hu => lenUs (h.2.1.2 u hu) (by simpa using g4 u hu))
 have a3 := wL (e := gz) 200000 s.ps 8 (by omega) (by omega) (fun p hp => y7 (h.2.2.1.2 p hp) (by simpa using g5 p hp))
 have a4 := wL (e := lQ) 30 s.sq.ds 100 (by simp [dp.sq]; omega) (by omega) (fun d _ => lenDn d)
 simp only [gA, zB]
 have e1 : s.sq.us = s.us := rfl
 have e2 : s.sq.ps = s.ps := rfl
 have e3 : s.sq.t = s.t := rfl
 rw [e1, e2]
 omega
set_option maxRecDepth 100000 in
theorem rngEn (e : En) (h : aX vd e.row) : yR e := by
 simp only [vd, En.row, dU] at h
 obtain ⟨h0, e1, e2, e3, e4, e5, e6, e7, e8, e9, e10, e11, e12, e13, e14, e15, e16, _⟩ := h
 have d8 : 0 < 8 := by decide
 have d16 : 0 < 16 := by decide
 have hru : yS e.ev.rule := ⟨bC.1 e5, bC.1 e6, bC.1 e7, bC.1 e8, oB d8 e9, oB d8 e10, tG d16 e11, oB d8 e12, bC.1 e13⟩
 exact ⟨bC.1 h0, ⟨bC.1 e1, bC.1 e2, trivial, trivial⟩, bC.1 e1, bC.1 e2, trivial, hru, oB d8 e14, oB d8 e15, yX e16⟩
set_option maxRecDepth 100000 in
theorem rngUs (u : Us) (h : aX vg u.row) : tz u := by
 simp only [vg, Us.row, dU] at h
 obtain ⟨h0, s1, s2, s3, s4, s5, s6, h7, h8, _⟩ := h
 have d8 : 0 < 8 := by decide
 have d16 : 0 < 16 := by decide
 obtain ⟨g1, g2⟩ := pM (f := En.row) (l := u.evs) (by decide) h8
 exact ⟨bC.1 h0, ⟨⟨bC.1 s1, tG d16 s2⟩, yX s3, oB d8 s4, bC.1 s5, bC.1 s6⟩, bC.1 h7, g1, fun e he => rngEn e (g2 e he)⟩
set_option maxRecDepth 100000 in
theorem rngPo (p : Po) (h : aX ve p.row) : tw p := by
 simp only [ve, Po.row, dU] at h
 obtain ⟨p0, p1, q0, q1, q2, q3, q4, q5, q6, q7, q8, p2, p3, p4, p5, p6, _⟩ := h
 have d8 : 0 < 8 := by decide
 have d16 : 0 < 16 := by decide
 have d4 : 0 < 4 := by decide
 have hqu : vw p.qu := ⟨bC.1 q0, bC.1 q1, bC.1 q2, bC.1 q3, oB d4 q4, tG d16 q5, bC.1 q6, tG d8 q7, yX q8⟩
 exact ⟨bC.1 p0, bC.1 p1, hqu, oB d8 p2, tG d16 p3, bC.1 p4, bC.1 p5, bC.1 p6⟩
theorem rngDn (d : Dn) (h : aX vc d.row) : vq (d.c, d.n, d.v) := by
 simp only [vc, Dn.row, dU] at h
 obtain ⟨h0, h1, h2, _⟩ := h
 exact ⟨bC.1 h0, bC.1 h1, bC.1 h2⟩
theorem rngSt (s : dp) (h : aX sB s.cells) : sW s.sq := by
 simp only [sB, dp.cells, dU] at h
 obtain ⟨h0, h1, h2, h3, _⟩ := h
 obtain ⟨a1, a2⟩ := pM (f := Us.row) (l := s.us) (by decide) h1
 obtain ⟨b1, b2⟩ := pM (f := Po.row) (l := s.ps) (by decide) h2
 obtain ⟨c1, c2⟩ := pM (f := Dn.row) (l := s.ds) (by decide) h3
 refine ⟨bC.1 h0, ⟨a1, fun u hu => rngUs u (a2 u hu)⟩, ⟨b1, fun p hp => rngPo p (b2 p hp)⟩, by simpa [dp.sq] using c1, fun x hx => ?_⟩
 simp only [dp.sq, List.mem_map] at hx
 obtain ⟨d, hd, rfl⟩ := hx
 exact rngDn d (c2 d hd)
theorem kE {α : Type} {f : α → α} {l : List α} : l.map f = l ↔ ∀ (k : Nat) x, l[k]? = some x → f x = x := by
 constructor
 ·intro h k x hx
  have := congrArg (fun m => m[k]?) h
  simp only [List.getElem?_map, hx, Option.map_some, Option.some.injEq] at this
  exact this
 ·intro h
  apply List.ext_getElem?
  intro k
  rw [List.getElem?_map]
  cases hk : l[k]? with
  | none => rfl
  | some x => simp [h k x hk]
theorem sj (s : dp) : (pR s.sq).sta = s ↔ iu s.sq := by
 have e1 : (pR s.sq).sta = ⟨s.t, s.us.map zd, s.ps, s.ds⟩ := by
  have := s.sq_sta
  unfold Sq.sta at this
  have h := congrArg dp.ds this
  unfold pR Sq.sta
  simp only [dp.mk.injEq]
  exact ⟨rfl, rfl, rfl, h⟩
 rw [e1]
 obtain ⟨t, us, ps, ds⟩ := s
 simp only [dp.mk.injEq, true_and, and_true]
 rw [kE]
 unfold iu pS
 show _ ↔ ∀ (k : Nat) u, us[k]? = some u → _
 refine forall_congr' fun k => forall_congr' fun u => forall_congr' fun hu => ?_
 obtain ⟨a, b, c, d⟩ := u
 unfold zd
 simp only [Us.mk.injEq, true_and]
 rw [kE]
 refine forall_congr' fun j => forall_congr' fun e => forall_congr' fun he => ?_
 obtain ⟨x, y⟩ := e
 unfold nEn
 simp only [En.mk.injEq, true_and]
theorem qj (s : dp) (hf : sW s.sq) (hfit : s.fits) (hl : (gA s.sq).length ≤ 1099511627776) :
  aP Tryz.prog 13 [.agg s.cells] (if fF s = true then .tup [.str (bs (gA s.sq)), .bool true] else .tup [.str (bs []), .bool false]) := by
 obtain ⟨hs⟩ := zq s.sq hf hl
 rw [← s.sq_cells]
 have hp := sj s
 refine wx s.sq hs _ hf.2.1.1 hf.2.2.1.1 hf.2.2.2.1 (fun u hu => ⟨hf.2.1.2 u hu, hfit.2.2.2.1 u hu⟩) hf.2.2.2.2 ?_ ?_ ?_ ?_ hl
 ·intro h
  rw [if_neg]
  unfold fF
  simp only [zP, zO]
  exact fun h2 => h (hp.1 h2.2)
 ·intro h hx
  rw [if_neg]
  unfold fF nE
  rw [hx]
  simp
 ·intro h hx hg
  rw [if_neg]
  unfold fF nE
  simp only [zP, zO]
  exact fun h2 => by have := h2.1.2; omega
 ·intro h hx hg
  rw [if_pos]
  unfold fF nE
  rw [hx]
  simp only [Bool.not_false, Bool.true_and, zP, zO]
  exact ⟨hg, hp.2 h⟩
set_option maxHeartbeats 8000000 in
set_option maxRecDepth 8000 in
theorem kO (s r : dp) (hs : s.fits) (hr : r.fits) (hf : sW s.sq) :
  aP Tryz.prog 4 [.agg s.cells, .agg r.cells] (.bool true) := by
 refine bf Tryz.func4 low4 (by simp [c4]) ?_
 have g1 := lX s.t s.us s.ps s.ds ⟨hs.1, hs.2.1, hs.2.2.1, fun u hu => (hs.2.2.2.1 u hu).2.1⟩
 have g2 := lX r.t r.us r.ps r.ds ⟨hr.1, hr.2.1, hr.2.2.1, fun u hu => (hr.2.2.2.1 u hu).2.1⟩
 have f := wd
 simp only [c4]
 unfold St at g1 g2
 cases ga : eQ s.us s.ps s.ds
 ·cases gb : eQ r.us r.ps r.ds
  ·rw [ga] at g1
   rw [gb] at g2
   have l1 := lenSq hf ga
   have p1 := pV s hf hs (by omega)
   have p2 := qj s hf hs (by omega)
   have s1 := kN s r hs hr
   have s2 := oV s r hs hr
   have s3 := kN s s hs hs
   have s4 := oV s s hs hs
   simp only [decide_true] at s3 s4
   generalize decide (s = r) = d at s1 s2
   unfold m8 at p1
   cases ka : fF s
   ·rw [ka] at p1 p2
    simp only [zS, reduceIte] at p1 p2
    have hx : (bs [] == bs []) = true := by rfl
    have hb : bytesOf [] = some [] := rfl
    simp only [dp.cells] at p1 p2 s1 s2 s3 s4 ⊢
    cases d
    ·repeat' ((first | apply ah | apply al | apply ai | apply af | apply ab | apply ak mixed | apply ap mixed | (with_reducible first | refine ac ?_ | refine ar ?_ | refine aw ?_) | refine ae (g1) ?_ ?_ | refine ae (g2) ?_ ?_ | refine ae (f) ?_ ?_ | refine ae (p1) ?_ ?_ | refine ae (p2) ?_ ?_ | refine ae (s1) ?_ ?_ | refine ae (s2) ?_ ?_ | refine ae (s3) ?_ ?_ | refine ae (s4) ?_ ?_ | ((first | refine aj ?_ ?_ | refine aa ?_ ?_) <;> intro hc <;> (try simp only [hc]) <;> try simp at hc) | (with_reducible refine ⟨?_, ?_⟩; (focus ((repeat' with_reducible refine ⟨?_, ?_⟩) <;> first | exact trivial | assumption | (simp; done) | (simp only [zA] at *; omega) | omega | (simp [fs]; done) | exact ax))) | (with_reducible intro x hx) | omega) <;> (try simp only [ce, hx, hb, Nat.reduceBEq, reduceIte, Nat.reduceAdd, reduceCtorEq, cond_true, cond_false, ne_eq, beq_self_eq_true, fw, fd]))
    ·repeat' ((first | apply ah | apply al | apply ai | apply af | apply ab | apply ak mixed | apply ap mixed | (with_reducible first | refine ac ?_ | refine ar ?_ | refine aw ?_) | refine ae (g1) ?_ ?_ | refine ae (g2) ?_ ?_ | refine ae (f) ?_ ?_ | refine ae (p1) ?_ ?_ | refine ae (p2) ?_ ?_ | refine ae (s1) ?_ ?_ | refine ae (s2) ?_ ?_ | refine ae (s3) ?_ ?_ | refine ae (s4) ?_ ?_ | ((first | refine aj ?_ ?_ | refine aa ?_ ?_) <;> intro hc <;> (try simp only [hc]) <;> try simp at hc) | (with_reducible refine ⟨?_, ?_⟩; (focus ((repeat' with_reducible refine ⟨?_, ?_⟩) <;> first | exact trivial | assumption | (simp; done) | (simp only [zA] at *; omega) | omega | (simp [fs]; done) | exact ax))) | (with_reducible intro x hx) | omega) <;> (try simp only [ce, hx, hb, Nat.reduceBEq, reduceIte, Nat.reduceAdd, reduceCtorEq, cond_true, cond_false, ne_eq, beq_self_eq_true, fw, fd]))
   ·rw [ka] at p1 p2
    simp only [reduceIte] at p1 p2
    have wa : nE s.sq = true := by unfold fF at ka; simp only [zP] at ka; exact ka.1
    have na : (pR s.sq).sta = s := by unfold fF at ka; simp only [zP, zO] at ka; exact ka.2
    have q1 := kl (gA s.sq) (by omega)
    rw [jx hf wa, ← Sq.sta_cells, na] at q1
    have hx : (bs (gA s.sq) == bs (gA s.sq)) = true := by rw [tj]; simp
    generalize gA s.sq = b at p1 p2 q1 hx
    simp only [dp.cells] at p1 p2 q1 s1 s2 s3 s4 ⊢
    cases d
    ·repeat' ((first | apply ah | apply al | apply ai | apply af | apply ab | apply ak mixed | apply ap mixed | (with_reducible first | refine ac ?_ | refine ar ?_ | refine aw ?_) | refine ae (g1) ?_ ?_ | refine ae (g2) ?_ ?_ | refine ae (f) ?_ ?_ | refine ae (p1) ?_ ?_ | refine ae (p2) ?_ ?_ | refine ae (q1) ?_ ?_ | refine ae (s1) ?_ ?_ | refine ae (s2) ?_ ?_ | refine ae (s3) ?_ ?_ | refine ae (s4) ?_ ?_ | ((first | refine aj ?_ ?_ | refine aa ?_ ?_) <;> intro hc <;> (try simp only [hc]) <;> try simp at hc) | (with_reducible refine ⟨?_, ?_⟩; (focus ((repeat' with_reducible refine ⟨?_, ?_⟩) <;> first | exact trivial | assumption | (simp; done) | (simp only [zA] at *; omega) | omega | (simp [fs]; done) | exact ax))) | (with_reducible intro x hx) | omega) <;> (try simp only [j9, ce, hx, Nat.reduceBEq, reduceIte, Nat.reduceAdd, reduceCtorEq, cond_true, cond_false, ne_eq, beq_self_eq_true, fw, fd]))
    ·repeat' ((first | apply ah | apply al | apply ai | apply af | apply ab | apply ak mixed | apply ap mixed | (with_reducible first | refine ac ?_ | refine ar ?_ | refine aw ?_) | refine ae (g1) ?_ ?_ | refine ae (g2) ?_ ?_ | refine ae (f) ?_ ?_ | refine ae (p1) ?_ ?_ | refine ae (p2) ?_ ?_ | refine ae (q1) ?_ ?_ | refine ae (s1) ?_ ?_ | refine ae (s2) ?_ ?_ | refine ae (s3) ?_ ?_ | refine ae (s4) ?_ ?_ | ((first | refine aj ?_ ?_ | refine aa ?_ ?_) <;> intro hc <;> (try simp only [hc]) <;> try simp at hc) | (with_reducible refine ⟨?_, ?_⟩; (focus ((repeat' with_reducible refine ⟨?_, ?_⟩) <;> first | exact trivial | assumption | (simp; done) | (simp only [zA] at *; omega) | omega | (simp [fs]; done) | exact ax))) | (with_reducible intro x hx) | omega) <;> (try simp only [j9, ce, hx, Nat.reduceBEq, reduceIte, Nat.reduceAdd, reduceCtorEq, cond_true, cond_false, ne_eq, beq_self_eq_true, fw, fd]))
  ·rw [ga] at g1
   rw [gb] at g2
   simp only [dp.cells] at g1 g2 ⊢
   repeat' ((first | apply ah | apply al | apply ai | apply af | apply ab | apply ak mixed | apply ap mixed | (with_reducible first | refine ac ?_ | refine ar ?_ | refine aw ?_) | refine ae (g1) ?_ ?_ | refine ae (g2) ?_ ?_ | refine ae (f) ?_ ?_ | ((first | refine aj ?_ ?_ | refine aa ?_ ?_) <;> intro hc <;> (try simp only [hc]) <;> try simp at hc) | (with_reducible refine ⟨?_, ?_⟩; (focus ((repeat' with_reducible refine ⟨?_, ?_⟩) <;> first | exact trivial | assumption | (simp; done) | (simp only [zA] at *; omega) | omega | (simp [fs]; done) | exact ax))) | (with_reducible intro x hx) | omega) <;> (try simp only [Nat.reduceBEq, reduceIte, Nat.reduceAdd, reduceCtorEq, cond_false, ne_eq, fw, fd]))
 ·rw [ga] at g1
  simp only [dp.cells] at g1 ⊢
  repeat' ((first | apply ah | apply al | apply ai | apply af | apply ab | apply ak mixed | apply ap mixed | (with_reducible first | refine ac ?_ | refine ar ?_ | refine aw ?_) | refine ae (g1) ?_ ?_ | refine ae (f) ?_ ?_ | ((first | refine aj ?_ ?_ | refine aa ?_ ?_) <;> intro hc <;> (try simp only [hc]) <;> try simp at hc) | (with_reducible refine ⟨?_, ?_⟩; (focus ((repeat' with_reducible refine ⟨?_, ?_⟩) <;> first | exact trivial | assumption | (simp; done) | (simp only [zA] at *; omega) | omega | (simp [fs]; done) | exact ax))) | (with_reducible intro x hx) | omega) <;> (try simp only [Nat.reduceBEq, reduceIte, Nat.reduceAdd, reduceCtorEq, cond_true, ne_eq, fw, fd]))
end Go.Proofs.YtgefljdclekadaaGreat
