import Derived.Test.YtapennlmboabeaaGreatYN
import Derived.Test.YtapennlmboabeaaGreatYF
import Derived.Test.YtapennlmboabeaaGreatVi33
import Derived.Test.YtapennlmboabeaaGreatYD
import Derived.Test.YtapennlmboabeaaGreatYE
set_option linter.unusedVariables false
set_option linter.unusedSimpArgs false
set_option linter.unnecessarySimpa false
namespace Go.Proofs.YtapennlmboabeaaGreat
open Go Go.Vi
theorem exYTK : type_of% (an @row1_len (an @row2_len (an @row3_len (an @rowsE_len (an @rowsU_len (an @rowsP_len @rowsD_len)))))) := (an @row1_len (an @row2_len (an @row3_len (an @rowsE_len (an @rowsU_len (an @rowsP_len @rowsD_len))))))
set_option maxHeartbeats 4000000 in
theorem kept_p (s : Sta) (hf : fSq s.sq) (hfit : s.fits) (hl : (eSq s.sq).length ≤ 1000000000) : PureD Tryz.prog 8 [.agg s.cells] (.agg s.cells) := by
 refine pureV Tryz.func8 low8 (by simp [c8]) ?_
 have p1 := putState_p s hf hfit (by omega)
 unfold putAnsS at p1
 simp only [c8]
 cases ka : putOkS s
 ·rw [ka] at p1
  simp only [Bool.false_eq_true, reduceIte] at p1
  simp only [Sta.cells] at p1 ⊢
  exact wk0 [] [] exYTK
 ·rw [ka] at p1
  simp only [reduceIte] at p1
  have wa : wOkS s.sq = true := by unfold putOkS at ka; simp only [Bool.and_eq_true] at ka; exact ka.1
  have na : (nSq s.sq).sta = s := by unfold putOkS at ka; simp only [Bool.and_eq_true, decide_eq_true_eq] at ka; exact ka.2
  have q1 := getState_p (eSq s.sq) (by omega)
  rw [getAnsS_put hf wa, ← Sq.sta_cells, na] at q1
  generalize eSq s.sq = b at p1 q1
  simp only [Sta.cells] at p1 q1 ⊢
  exact wk0 [] [] exYTK
end Go.Proofs.YtapennlmboabeaaGreat

namespace Go.Proofs.YtapennlmboabeaaGreat
open Go Go.Vi
theorem withR_sub {us : List Us} {u x : Us} (h : x ∈ withR us u) : x = u ∨ x ∈ us := by
 have key : ∀ (l : List Us) (s : List Us × Bool), (∀ y ∈ s.1, y = u ∨ y ∈ us) → (∀ y ∈ l, y ∈ us) → ∀ y ∈ (l.foldl (withS u) s).1, y = u ∨ y ∈ us := by
  intro l
  induction l with
  | nil => intro s h _; simpa using h
  | cons z l ih =>
   intro s h hl
   rw [List.foldl_cons]
   refine ih _ ?_ fun y hy => hl y (by simp [hy])
   intro y hy
   have hz := hl z (by simp)
   unfold withS at hy
   dsimp only at hy
   have hc : y ∈ s.1 ∨ y = u ∨ y = z := by
    split at hy <;> split at hy <;> (try simp only [List.mem_append, List.mem_singleton, or_assoc] at hy) <;> first | exact .inl hy | exact hy | exact hy.elim .inl (fun h => .inr (.inl h)) | exact hy.elim .inl (fun h => .inr (.inr h))
   rcases hc with hy | hy | hy
   ·exact h y hy
   ·exact .inl hy
   ·rw [hy]; exact .inr hz
 have hk := key us ([], false) (by simp) (fun y hy => hy)
 have hg : withG u us = us.foldl (withS u) ([], false) := rfl
 unfold withR at h
 rw [hg] at h
 split at h
 ·exact hk x h
 ·rcases List.mem_append.1 h with h | h
  ·exact hk x h
  ·exact .inl (by simpa using h)
theorem withR_len (us : List Us) (u : Us) : (withR us u).length ≤ 2 * us.length + 1 := by
 have := withG_len u us
 unfold withR
 split
 ·omega
 ·simp; omega
theorem putUF_fits {t : Int} {us : List Us} {ps : List Po} {ds : List Dn} {user : Int} {x : Se} (hfs : Sta.fits ⟨t, us, ps, ds⟩) (hl : us.length ≤ 12) (hs : x.fits) : Sta.fits ⟨t, (putUF us user x).1, ps, ds⟩ := by
 obtain ⟨s1, s2, s3, s4, s5⟩ := hfs
 dsimp only at s1 s2 s3 s4 s5
 have h0 : Sta.fits ⟨t, us, ps, ds⟩ := ⟨s1, s2, s3, s4, s5⟩
 unfold putUF
 split
 ·exact h0
 ·split
  ·exact h0
  ·have := withR_len us (setU us user x)
   refine ⟨by dsimp only; omega, s2, s3, fun u hu => ?_, s5⟩
   rcases withR_sub hu with rfl | hu
   ·have hz : ((findU us user).getD zU).fit := by
     cases hf : findU us user with
     | none => simp [zU, Us.fit, Se.fits]
     | some y => exact s4 y (findU_some hf).1
    exact ⟨hs, hz.2.1, hz.2.2⟩
   ·exact s4 u hu
theorem out_fits {t : Int} {us : List Us} {ps : List Po} {ds : List Dn} {user : Int} (hfs : Sta.fits ⟨t, us, ps, ds⟩) : Sta.fits ⟨t, outU user us, keepP user ps, ds⟩ := by
 obtain ⟨s1, s2, s3, s4, s5⟩ := hfs
 dsimp only at s1 s2 s3 s4 s5
 have h1 : (outU user us).length ≤ us.length := List.length_filter_le ..
 have h2 : (keepP user ps).length ≤ ps.length := List.length_filter_le ..
 exact ⟨by dsimp only; omega, by dsimp only; omega, s3, fun u hu => s4 u (List.mem_filter.1 hu).1, fun p hp => s5 p (List.mem_filter.1 hp).1⟩
theorem find_fit {us : List Us} {user : Int} (h : ∀ u ∈ us, u.fit) : ((findU us user).getD zU).fit := by
 cases hf : findU us user with
 | none => simp [zU, Us.fit, Se.fits]
 | some y => exact h y (findU_some hf).1
end Go.Proofs.YtapennlmboabeaaGreat

namespace Go.Proofs.YtapennlmboabeaaGreat
open Go Go.Vi
theorem exYTU : type_of% (an @row1_len (an @row2_len (an @row3_len (an @rowsE_len (an @rowsU_len (an @rowsP_len @rowsD_len)))))) := (an @row1_len (an @row2_len (an @row3_len (an @rowsE_len (an @rowsU_len (an @rowsP_len @rowsD_len))))))
set_option maxHeartbeats 16000000 in
theorem users_p (t : Int) (us : List Us) (ps : List Po) (ds : List Dn) (user : Int) (x : Se) (hf : fits us ps ds) (hfs : Sta.fits ⟨t, us, ps, ds⟩) (hq : fSq (Sta.sq ⟨t, us, ps, ds⟩)) (hx : x.fits) :
  PureD Tryz.prog 3 [St t us ps ds, .int .u32 user, .agg x.cells] (.bool true) := by
 refine pureV Tryz.func3 low3 (by simp [c3]) ?_
 have h1 := great17_p t us ps ds hf
 have h2 := greatSe_p x
 have f := fixed_p
 by_cases hg : (greatSt us ps ds || !risU us) = true
 ·rw [hg] at h1
  simp only [c3, St, Se.cells] at h1 h2 ⊢
  exact wk0 [] [] exYTU
 have hg' : (greatSt us ps ds || !risU us) = false := by simpa using hg
 rw [hg'] at h1
 cases hgx : x.great
 case true =>
  rw [hgx] at h2
  simp only [c3, St, Se.cells] at h1 h2 ⊢
  exact wk0 [] [] exYTU
 rw [hgx] at h2
 simp only [Bool.or_eq_false_iff, Bool.not_eq_false'] at hg'
 obtain ⟨g1, g2⟩ := hg'
 have hs := (risU_iff.1 g2).1
 have hl : us.length ≤ 12 := by
  have : ¬ 12 < us.length := fun h => by simp [greatSt, h] at g1
  omega
 have hlp : ps.length ≤ 8 := by
  have : ¬ 8 < ps.length := fun h => by simp [greatSt, h] at g1
  omega
 have k0 := kept_p ⟨t, us, ps, ds⟩ hq hfs (by have := lenSq hq g1; omega)
 have p1 := putUser_p t us ps ds user x (by omega) hs hx
 have r1 := refPutUser_p t us ps ds user x (by omega) hx
 have fi := putUF_fits (user := user) hfs hl hx
 have e1 := settings_p x hx
 have e2 := refSettings_p x hx
 have l1 := leave_p t us ps ds user (by omega) (by omega) hs
 have l2 := refLeave_p t us ps ds user (by omega) (by omega)
 have b1 := bookFind_p t us ps ds user (by omega) hs
 have b2 := refFind_p t us ps ds user (by omega)
 have su := sameUs_p ((findU us user).getD zU) ((findU us user).getD zU) (find_fit hfs.2.2.2.1) (find_fit hfs.2.2.2.1)
 have s0 := sameSt_p ⟨t, us, ps, ds⟩ ⟨t, us, ps, ds⟩ hfs hfs
 have so := sameSt_p ⟨t, outU user us, keepP user ps, ds⟩ ⟨t, outU user us, keepP user ps, ds⟩ (out_fits hfs) (out_fits hfs)
 unfold findUR at b1 b2
 generalize (findU us user).getD zU = u at b1 b2 su
 generalize (findU us user).isSome = is at b1 b2 l1 l2
 generalize outU user us = us2 at l1 l2 so
 generalize keepP user ps = ps2 at l1 l2 so
 generalize setB x = sx at e1 e2
 generalize putUF us user x = r at p1 r1 fi
 obtain ⟨us1, v, e⟩ := r
 dsimp only at p1 r1 fi
 have s1 := sameSt_p ⟨t, us1, ps, ds⟩ ⟨t, us1, ps, ds⟩ fi fi
 simp only [decide_true] at s0 s1 so su
 cases is
 ·simp only [Bool.false_eq_true, if_false] at l1 l2
  simp only [c3, St, Rr, Se.cells, Sta.cells, Us.row] at h1 h2 k0 p1 r1 e1 e2 l1 l2 b1 b2 s0 s1 su ⊢
  exact wk0 [] [] exYTU
 ·simp only [if_true] at l1 l2
  simp only [c3, St, Rr, Se.cells, Sta.cells, Us.row] at h1 h2 k0 p1 r1 e1 e2 l1 l2 b1 b2 s0 s1 so su ⊢
  exact wk0 [] [] exYTU
end Go.Proofs.YtapennlmboabeaaGreat
