import Derived.Test.YtapennlmboabeaaGreatYN
import Derived.Test.YtapennlmboabeaaGreatYF
import Derived.Test.YtapennlmboabeaaGreatVi33
import Derived.Test.YtapennlmboabeaaGreatYD
import Derived.Test.YtapennlmboabeaaGreatYE
import Derived.Test.YtapennlmboabeaaGreatYC
set_option linter.unusedVariables false
set_option linter.unusedSimpArgs false
set_option linter.unnecessarySimpa false
namespace Go.Proofs.YtapennlmboabeaaGreat
open Go Go.Vi
theorem AR : type_of% (an @ab (an @ac (an @ae (an @ah (an @aj (an @ak @ai)))))) := (an @ab (an @ac (an @ae (an @ah (an @aj (an @ak @ai))))))
set_option maxHeartbeats 4000000 in
theorem Cy (s : iQ) (hf : yu s.sq) (hfit : s.fits) (hl : (rj s.sq).length ≤ 1000000000) : aA Tryz.prog 8 [.agg s.cells] (.agg s.cells) := by
 refine bl Tryz.func8 low8 (by simp [c8]) ?_
 have p1 := tZ s hf hfit (by omega)
 unfold rB at p1
 simp only [c8]
 cases ka : pp s
 ·rw [ka] at p1
  simp only [Bool.false_eq_true, reduceIte] at p1
  simp only [iQ.cells] at p1 ⊢
  exact dz [] [] AR
 ·rw [ka] at p1
  simp only [reduceIte] at p1
  have wa : wx s.sq = true := by unfold pp at ka; simp only [Bool.and_eq_true] at ka; exact ka.1
  have na : (wD s.sq).sta = s := by unfold pp at ka; simp only [Bool.and_eq_true, decide_eq_true_eq] at ka; exact ka.2
  have q1 := o5 (rj s.sq) (by omega)
  rw [nT hf wa, ← Sq.sta_cells, na] at q1
  generalize rj s.sq = b at p1 q1
  simp only [iQ.cells] at p1 q1 ⊢
  exact dz [] [] AR
end Go.Proofs.YtapennlmboabeaaGreat

namespace Go.Proofs.YtapennlmboabeaaGreat
open Go Go.Vi
theorem xc {us : List Us} {user : Int} (h : ∀ u ∈ us, u.fit) : ((fB us user).getD zU).fit := by
 cases hf : fB us user with
 | none => simp [zU, Us.fit, Se.fits]
 | some y => exact h y (gq hf).1
end Go.Proofs.YtapennlmboabeaaGreat

namespace Go.Proofs.YtapennlmboabeaaGreat
open Go Go.Vi
theorem C5 : zE.fits := by simp [zE, Ev.fits, Ru.fits]
theorem qk {us : List Us} {user id : Int} (h : ∀ u ∈ us, u.fit) : (((fK ((fB us user).getD zU).evs id).map En.ev).getD zE).fits := by
 cases hf : fK ((fB us user).getD zU).evs id with
 | none => exact C5
 | some y => exact (xc h).2.2 y (List.mem_of_find?_eq_some hf)
theorem sw : type_of% (an @ab (an @ac (an @ae (an @ah (an @aj (an @ak @ai)))))) := (an @ab (an @ac (an @ae (an @ah (an @aj (an @ak @ai))))))
set_option maxHeartbeats 16000000 in
theorem xb (t : Int) (us : List Us) (ps : List Po) (ds : List Dn) (user id : Int) (ev : Ev) (hf : fits us ps ds) (hfs : iQ.fits ⟨t, us, ps, ds⟩) (hq : yu (iQ.sq ⟨t, us, ps, ds⟩)) (hx : ev.fits) :
  aA Tryz.prog 4 [St t us ps ds, .int .u32 user, .int .u32 id, .agg ev.cells] (.bool true) := by
 refine bl Tryz.func4 low4 (by simp [c4]) ?_
 have h1 := vC t us ps ds hf
 have h2 := qn ev
 have f := yZ
 by_cases hg : (hJ us ps ds || !mq us) = true
 ·rw [hg] at h1
  simp only [c4, St, Ev.cells] at h1 h2 ⊢
  exact dz [] [] sw
 have hg' : (hJ us ps ds || !mq us) = false := by simpa using hg
 rw [hg'] at h1
 cases hgx : ev.great
 case true =>
  rw [hgx] at h2
  simp only [c4, St, Ev.cells] at h1 h2 ⊢
  exact dz [] [] sw
 rw [hgx] at h2
 simp only [Bool.or_eq_false_iff, Bool.not_eq_false'] at hg'
 obtain ⟨g1, g2⟩ := hg'
 have hw := CT hfs g1 g2
 have hs := (lu.1 g2).1
 have hl : us.length ≤ 12 := by
  have : ¬ 12 < us.length := fun h => by simp [hJ, h] at g1
  omega
 have k0 := Cy ⟨t, us, ps, ds⟩ hq hfs (by have := lenSq hq g1; omega)
 have p1 := CJ t ps ds user id hw (by omega) hx (xj hgx)
 have r1 := pX t us ps ds user id ev 10 hw (by omega) hx
 have fi := sC hfs (hw.put user id (by omega) hx)
 have rc := sN t us ps ds user id 10 hw (by omega)
 have v1 := yY t us ps ds user id (by omega) hs (fun u hu => by have := (hw.2.2 u hu).2.2; omega) (fun u hu => (hw.2.2 u hu).2.1)
 have v2 := mo t us ps ds user id (by omega) (fun u hu => by have := (hw.2.2 u hu).2.2; omega)
 have se := sT _ _ (qk (user := user) (id := id) hfs.2.2.2.1) (qk (user := user) (id := id) hfs.2.2.2.1)
 have s0 := pI ⟨t, us, ps, ds⟩ ⟨t, us, ps, ds⟩ hfs hfs
 have s1 := pI _ _ fi fi
 unfold mh at v1 v2
 generalize (fK ((fB us user).getD zU).evs id).isSome = is at v1 v2
 generalize ((fK ((fB us user).getD zU).evs id).map En.ev).getD zE = ev2 at v1 v2 se
 generalize pn us user id ev = r at p1 r1 s1 fi
 obtain ⟨us1, v, e⟩ := r
 dsimp only at p1 r1 s1 fi
 simp only [decide_true] at s0 s1 se
 cases hfu : fB us user with
 | none =>
  have ca := yK t us ps ds user id (by omega) hs hfu
  rw [hfu] at rc
  dsimp only at rc
  simp only [c4, St, Rr, Ev.cells, iQ.cells] at h1 h2 k0 p1 r1 v1 v2 se s0 s1 ca rc ⊢
  exact dz [] [] sw
 | some u =>
  rw [hfu] at rc
  dsimp only at rc
  obtain ⟨uf, us2, ul⟩ := hw.2.2 u (gq hfu).1
  by_cases hqq : (fK u.evs id).isSome = true
  ·rw [if_pos hqq] at rc
   have ca := ca_ok t us ps ds user id u (by omega) hs hfu (by omega) us2 hqq
   have hd := qg u.evs id
   have fd := sC hfs (hw.rep (Nat.le_refl _) (wR (id := id) uf) (rg id us2) (by show (j1 u.evs id).length ≤ _; omega))
   have sd := pI _ _ fd fd
   simp only [decide_true] at sd
   generalize us.map (rep (oi u id)) = us3 at ca rc sd
   simp only [c4, St, Rr, Ev.cells, iQ.cells] at h1 h2 k0 p1 r1 v1 v2 se s0 s1 ca rc sd ⊢
   exact dz [] [] sw
  ·rw [if_neg hqq] at rc
   have ca := ca_no t us ps ds user id u (by omega) hs hfu (by omega) us2 (by simpa using hqq)
   simp only [c4, St, Rr, Ev.cells, iQ.cells] at h1 h2 k0 p1 r1 v1 v2 se s0 s1 ca rc ⊢
   exact dz [] [] sw
end Go.Proofs.YtapennlmboabeaaGreat
