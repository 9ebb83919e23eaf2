import Derived.Test.YtapennlmboabeaaGreatYL
import Derived.Test.YtapennlmboabeaaGreatYM
import Derived.Test.YtapennlmboabeaaGreatVi33
import Derived.Test.YtapennlmboabeaaGreatYB
set_option linter.unusedVariables false
set_option linter.unusedSimpArgs false
set_option linter.unnecessarySimpa false
namespace Go.Proofs.YtapennlmboabeaaGreat
open Go Go.Vi
theorem rowsD_get' {l : List Dn} {i : Nat} {x : Dn} (h : l[i]? = some x) : (rowsD l)[i]? = some [.int .u32 x.c, .int .u64 x.n, .int .u64 x.v] := by simp [rowsD, h, Dn.row]
theorem bDn {x y : Dn} : ((x.c == y.c) && ((x.n == y.n) && (x.v == y.v))) = decide (x = y) := by
 cases x; cases y
 rw [Bool.eq_iff_iff]
 simp only [Bool.and_eq_true, beq_iff_eq, decide_eq_true_eq, Dn.mk.injEq]
theorem exYS3 : type_of% (an @row1_len (an @row2_len (an @row3_len (an @rowQ_len (an @rowE_len (an @rowU_len (an @rowP_len @rowsD_len))))))) := (an @row1_len (an @row2_len (an @row3_len (an @rowQ_len (an @rowE_len (an @rowU_len (an @rowP_len @rowsD_len)))))))
theorem eqDone_p (a b : List Dn) (ha : a.length ≤ 140737488351232) (hb : b.length ≤ 140737488351232) : PureD Tryz.prog 97 [L (rowsD a), L (rowsD b)] (.bool (decide (a = b))) := by
 refine pureV Tryz.func97 low97 (by simp [c97]) ?_
 simp only [c97]
 by_cases hl : ¬ a.length = b.length
 ·have c1 := lenB hl
  rw [eq_len hl]
  exact wk0 [] [] (an exYS3 c1)
 have hl : a.length = b.length := by omega
 have c1 : ((a.length : Int) == (b.length : Int)) = true := by simp [hl]
 refine wk [] [] (an exYS3 c1) ?_
 refine Run_loop (ι := {i : Nat // i ≤ a.length ∧ a.take i = b.take i}) (fun i => ([(0, L (rowsD a)), (1, L (rowsD b)), (12, .int .i64 a.length), (13, .int .i64 i.1)], [])) (fun i => a.length - i.1) ⟨0, by simp⟩ ?_ ?_
 ·exact gcw [] exYS3
 rintro ⟨i, hi, ht⟩ hk
 dsimp only at hk ⊢
 by_cases hlt : i < a.length
 ·have c2 : ((i : Int) < (a.length : Int)) = True := by simp; omega
  obtain ⟨x, hx⟩ : ∃ x, a[i]? = some x := ⟨_, List.getElem?_eq_getElem hlt⟩
  obtain ⟨y, hy⟩ : ∃ y, b[i]? = some y := ⟨_, List.getElem?_eq_getElem (by omega)⟩
  have rx := rowsD_get' hx
  have ry := rowsD_get' hy
  by_cases hxy : x = y
  ·have c3 : ((x.c == y.c) && ((x.n == y.n) && (x.v == y.v))) = true := by rw [bDn]; simpa using hxy
   refine wk [] [] (an exYS3 (an c2 (an c3 (an rx ry)))) ?_
   refine hk ⟨i + 1, by omega, eq_step ht hx hy hxy⟩ _ _ (by dsimp only; omega) ?_
   dsimp only
   exact gcw [] exYS3
  ·have c3 : ((x.c == y.c) && ((x.n == y.n) && (x.v == y.v))) = false := by rw [bDn]; simpa using hxy
   rw [eq_no hx hy hxy]
   exact wk0 [] [] (an exYS3 (an c2 (an c3 (an rx ry))))
 ·have c2 : ((i : Int) < (a.length : Int)) = False := by simp; omega
  rw [eq_end ht hlt hl]
  exact wk0 [] [] (an exYS3 c2)
set_option maxHeartbeats 4000000 in
theorem eqfPo_p (a b : List Po) (ha : a.length ≤ 140737488351232) (hb : b.length ≤ 140737488351232) (fa : ∀ x ∈ a, x.fits) (fb : ∀ x ∈ b, x.fits) : PureD Tryz.prog 98 [L (rowsP a), L (rowsP b), .fn 99 []] (.bool (decide (a = b))) := by
 refine pureV Tryz.func98 low98 (by simp [c98]) ?_
 simp only [c98]
 by_cases hl : ¬ a.length = b.length
 ·have c1 := lenB hl
  rw [eq_len hl]
  exact wk0 [] [] (an exYS3 c1)
 have hl : a.length = b.length := by omega
 have c1 : ((a.length : Int) == (b.length : Int)) = true := by simp [hl]
 refine wk [] [] (an exYS3 c1) ?_
 refine Run_loop (ι := {i : Nat // i ≤ a.length ∧ a.take i = b.take i}) (fun i => ([(1, L (rowsP b)), (2, .fn 99 []), (15, L (rowsP a)), (16, .int .i64 a.length), (17, .int .i64 i.1)], [])) (fun i => a.length - i.1) ⟨0, by simp⟩ ?_ ?_
 ·exact gcw [] exYS3
 rintro ⟨i, hi, ht⟩ hk
 dsimp only at hk ⊢
 by_cases hlt : i < a.length
 ·have c2 : ((i : Int) < (a.length : Int)) = True := by simp; omega
  obtain ⟨x, hx⟩ : ∃ x, a[i]? = some x := ⟨_, List.getElem?_eq_getElem hlt⟩
  obtain ⟨y, hy⟩ : ∃ y, b[i]? = some y := ⟨_, List.getElem?_eq_getElem (by omega)⟩
  have rx := rowP_get hx
  have ry := rowP_get hy
  have h := recPo_p x y (fa x (List.mem_of_getElem? hx)) (fb y (List.mem_of_getElem? hy))
  unfold Po.row at rx ry h
  by_cases hxy : x = y
  ·rw [decide_eq_true hxy] at h
   refine wk [] [] (an exYS3 (an c2 (an rx ry))) ?_
   refine hk ⟨i + 1, by omega, eq_step ht hx hy hxy⟩ _ _ (by dsimp only; omega) ?_
   dsimp only
   exact gcw [] exYS3
  ·rw [decide_eq_false hxy] at h
   rw [eq_no hx hy hxy]
   exact wk0 [] [] (an exYS3 (an c2 (an rx ry)))
 ·have c2 : ((i : Int) < (a.length : Int)) = False := by simp; omega
  rw [eq_end ht hlt hl]
  exact wk0 [] [] (an exYS3 c2)
theorem recEn_p (a b : En) (ha : a.ev.fits) (hb : b.ev.fits) : PureD Tryz.prog 104 [.agg a.row, .agg b.row] (.bool (decide (a = b))) := by
 refine pureV Tryz.func104 low104 (by simp [c104]) ?_
 have h2 := recEv_p a.ev b.ev ha hb
 obtain ⟨a0, a1⟩ := a
 obtain ⟨b0, b1⟩ := b
 dsimp only at h2
 have e : decide (En.mk a0 a1 = En.mk b0 b1) = ((a0 == b0) && decide (a1 = b1)) := by
  rw [Bool.eq_iff_iff]
  simp only [Bool.and_eq_true, beq_iff_eq, decide_eq_true_eq, En.mk.injEq]
 rw [e]
 clear e
 generalize decide (a1 = b1) = x2 at h2 ⊢
 simp only [c104, En.row]
 simp only [Ev.cells] at h2
 exact wk1 [] [] exYS3
def En.fitS (e : En) : Prop := e.ev.fits
theorem recEn_p' (a b : En) (ha : a.fitS) (hb : b.fitS) : PureD Tryz.prog 104 [.agg a.row, .agg b.row] (.bool (decide (a = b))) := recEn_p a b ha hb
set_option maxHeartbeats 4000000 in
theorem eqfEn_p (a b : List En) (ha : a.length ≤ 140737488351232) (hb : b.length ≤ 140737488351232) (fa : ∀ x ∈ a, x.fitS) (fb : ∀ x ∈ b, x.fitS) : PureD Tryz.prog 103 [L (rowsE a), L (rowsE b), .fn 104 []] (.bool (decide (a = b))) := by
 refine pureV Tryz.func103 low103 (by simp [c103]) ?_
 simp only [c103]
 by_cases hl : ¬ a.length = b.length
 ·have c1 := lenB hl
  rw [eq_len hl]
  exact wk0 [] [] (an exYS3 c1)
 have hl : a.length = b.length := by omega
 have c1 : ((a.length : Int) == (b.length : Int)) = true := by simp [hl]
 refine wk [] [] (an exYS3 c1) ?_
 refine Run_loop (ι := {i : Nat // i ≤ a.length ∧ a.take i = b.take i}) (fun i => ([(1, L (rowsE b)), (2, .fn 104 []), (15, L (rowsE a)), (16, .int .i64 a.length), (17, .int .i64 i.1)], [])) (fun i => a.length - i.1) ⟨0, by simp⟩ ?_ ?_
 ·exact gcw [] exYS3
 rintro ⟨i, hi, ht⟩ hk
 dsimp only at hk ⊢
 by_cases hlt : i < a.length
 ·have c2 : ((i : Int) < (a.length : Int)) = True := by simp; omega
  obtain ⟨x, hx⟩ : ∃ x, a[i]? = some x := ⟨_, List.getElem?_eq_getElem hlt⟩
  obtain ⟨y, hy⟩ : ∃ y, b[i]? = some y := ⟨_, List.getElem?_eq_getElem (by omega)⟩
  have rx := rowE_get hx
  have ry := rowE_get hy
  have h := recEn_p' x y (fa x (List.mem_of_getElem? hx)) (fb y (List.mem_of_getElem? hy))
  unfold En.row at rx ry h
  by_cases hxy : x = y
  ·rw [decide_eq_true hxy] at h
   refine wk [] [] (an exYS3 (an c2 (an rx ry))) ?_
   refine hk ⟨i + 1, by omega, eq_step ht hx hy hxy⟩ _ _ (by dsimp only; omega) ?_
   dsimp only
   exact gcw [] exYS3
  ·rw [decide_eq_false hxy] at h
   rw [eq_no hx hy hxy]
   exact wk0 [] [] (an exYS3 (an c2 (an rx ry)))
 ·have c2 : ((i : Int) < (a.length : Int)) = False := by simp; omega
  rw [eq_end ht hlt hl]
  exact wk0 [] [] (an exYS3 c2)
theorem recUs_p (a b : Us) (ha : a.fit) (hb : b.fit) : PureD Tryz.prog 101 [.agg a.row, .agg b.row] (.bool (decide (a = b))) := by
 obtain ⟨f1, f2, f3⟩ := ha
 obtain ⟨g1, g2, g3⟩ := hb
 refine pureV Tryz.func101 low101 (by simp [c101]) ?_
 have h2 := recSe_p a.se b.se f1 g1
 have h3 := eqfEn_p a.evs b.evs f2 g2 f3 g3
 obtain ⟨a0, a1, a2, a3⟩ := a
 obtain ⟨b0, b1, b2, b3⟩ := b
 dsimp only at h2 h3
 have e : decide (Us.mk a0 a1 a2 a3 = Us.mk b0 b1 b2 b3) = ((a0 == b0) && ((a2 == b2) && (decide (a1 = b1) && decide (a3 = b3)))) := by
  rw [Bool.eq_iff_iff]
  simp only [Bool.and_eq_true, beq_iff_eq, decide_eq_true_eq, Us.mk.injEq]
  exact ⟨fun ⟨x1, x2, x3, x4⟩ => ⟨x1, x3, x2, x4⟩, fun ⟨x1, x2, x3, x4⟩ => ⟨x1, x3, x2, x4⟩⟩
 rw [e]
 clear e
 generalize decide (a1 = b1) = x1 at h2 ⊢
 generalize decide (a3 = b3) = x3 at h3 ⊢
 simp only [c101, Us.row]
 simp only [Se.cells] at h2
 exact wk1 [] [] exYS3
set_option maxHeartbeats 4000000 in
theorem eqfUs_p (a b : List Us) (ha : a.length ≤ 140737488351232) (hb : b.length ≤ 140737488351232) (fa : ∀ x ∈ a, x.fit) (fb : ∀ x ∈ b, x.fit) : PureD Tryz.prog 100 [L (rowsU a), L (rowsU b), .fn 101 []] (.bool (decide (a = b))) := by
 refine pureV Tryz.func100 low100 (by simp [c100]) ?_
 simp only [c100]
 by_cases hl : ¬ a.length = b.length
 ·have c1 := lenB hl
  rw [eq_len hl]
  exact wk0 [] [] (an exYS3 c1)
 have hl : a.length = b.length := by omega
 have c1 : ((a.length : Int) == (b.length : Int)) = true := by simp [hl]
 refine wk [] [] (an exYS3 c1) ?_
 refine Run_loop (ι := {i : Nat // i ≤ a.length ∧ a.take i = b.take i}) (fun i => ([(1, L (rowsU b)), (2, .fn 101 []), (15, L (rowsU a)), (16, .int .i64 a.length), (17, .int .i64 i.1)], [])) (fun i => a.length - i.1) ⟨0, by simp⟩ ?_ ?_
 ·exact gcw [] exYS3
 rintro ⟨i, hi, ht⟩ hk
 dsimp only at hk ⊢
 by_cases hlt : i < a.length
 ·have c2 : ((i : Int) < (a.length : Int)) = True := by simp; omega
  obtain ⟨x, hx⟩ : ∃ x, a[i]? = some x := ⟨_, List.getElem?_eq_getElem hlt⟩
  obtain ⟨y, hy⟩ : ∃ y, b[i]? = some y := ⟨_, List.getElem?_eq_getElem (by omega)⟩
  have rx := rowU_get hx
  have ry := rowU_get hy
  have h := recUs_p x y (fa x (List.mem_of_getElem? hx)) (fb y (List.mem_of_getElem? hy))
  unfold Us.row at rx ry h
  by_cases hxy : x = y
  ·rw [decide_eq_true hxy] at h
   refine wk [] [] (an exYS3 (an c2 (an rx ry))) ?_
   refine hk ⟨i + 1, by omega, eq_step ht hx hy hxy⟩ _ _ (by dsimp only; omega) ?_
   dsimp only
   exact gcw [] exYS3
  ·rw [decide_eq_false hxy] at h
   rw [eq_no hx hy hxy]
   exact wk0 [] [] (an exYS3 (an c2 (an rx ry)))
 ·have c2 : ((i : Int) < (a.length : Int)) = False := by simp; omega
  rw [eq_end ht hlt hl]
  exact wk0 [] [] (an exYS3 c2)
theorem recSta_p (a b : Sta) (ha : a.fits) (hb : b.fits) : PureD Tryz.prog 58 [.agg a.cells, .agg b.cells] (.bool (decide (a = b))) := by
 obtain ⟨f1, f2, f3, f4, f5⟩ := ha
 obtain ⟨g1, g2, g3, g4, g5⟩ := hb
 refine pureV Tryz.func58 low58 (by simp [c58]) ?_
 have h2 := eqfUs_p a.us b.us (by omega) (by omega) f4 g4
 have h3 := eqfPo_p a.ps b.ps (by omega) (by omega) f5 g5
 have h4 := eqDone_p a.ds b.ds (by omega) (by omega)
 obtain ⟨a0, a1, a2, a3⟩ := a
 obtain ⟨b0, b1, b2, b3⟩ := b
 dsimp only at h2 h3 h4
 have e : decide (Sta.mk a0 a1 a2 a3 = Sta.mk b0 b1 b2 b3) = ((a0 == b0) && (decide (a3 = b3) && (decide (a2 = b2) && decide (a1 = b1)))) := by
  rw [Bool.eq_iff_iff]
  simp only [Bool.and_eq_true, beq_iff_eq, decide_eq_true_eq, Sta.mk.injEq]
  exact ⟨fun ⟨x1, x2, x3, x4⟩ => ⟨x1, x4, x3, x2⟩, fun ⟨x1, x2, x3, x4⟩ => ⟨x1, x4, x3, x2⟩⟩
 rw [e]
 clear e
 generalize decide (a1 = b1) = x1 at h2 ⊢
 generalize decide (a2 = b2) = x2 at h3 ⊢
 generalize decide (a3 = b3) = x3 at h4 ⊢
 simp only [c58, Sta.cells]
 exact wk1 [] [] exYS3
end Go.Proofs.YtapennlmboabeaaGreat

namespace Go.Proofs.YtapennlmboabeaaGreat
open Go Go.Vi
theorem rtGoN {α : Type} {re : Rs → α × Rs} {e : α → List UInt8} {nm : α → α} : ∀ (l : List α) (a : List α) (t : List UInt8), (∀ y ∈ l, ∀ u, re ⟨e y ++ u, false, false⟩ = (nm y, ⟨u, false, false⟩)) → rowGo re l.length ⟨l.flatMap e ++ t, false, false⟩ a = (a ++ l.map nm, ⟨t, false, false⟩)
 | [], a, t, _ => by simp [rowGo]
 | y :: l, a, t, h => by
  have h1 := h y (List.mem_cons_self) (l.flatMap e ++ t)
  rw [List.flatMap_cons, List.append_assoc, List.length_cons, rowGo, h1]
  dsimp only
  rw [if_neg (by simp), rtGoN l _ t (fun z hz => h z (List.mem_cons_of_mem _ hz)), List.append_assoc]
  rfl
theorem rtRowN {α : Type} {re : Rs → α × Rs} {e : α → List UInt8} {x : α → Bool} {f : α → Prop} {nm : α → α} (most : Nat) (l : List α) (hm : most < 18446744073709551616) (hx : xRow x most l = false) (hf : l.length ≤ 140737488351232 ∧ ∀ y ∈ l, f y) (h : ∀ y, f y → x y = false → ∀ u, re ⟨e y ++ u, false, false⟩ = (nm y, ⟨u, false, false⟩)) (t : List UInt8) :
  rRow re most ⟨eRow e l ++ t, false, false⟩ = (l.map nm, ⟨t, false, false⟩) := by
 unfold xRow at hx
 simp only [Bool.or_eq_false_iff] at hx
 unfold rRow eRow
 rw [List.append_assoc, rtK most l.length (by omega) (by simpa using hx.1)]
 dsimp only
 rw [rtGoN l [] t (fun y hy => h y (hf.2 y hy) (by
  have := hx.2
  rw [List.any_eq_false] at this
  simpa using this y hy)), List.nil_append]
theorem rtDn (x : Int × Int × Int) (hf : fDn x) (hx : xDn x = false) (t : List UInt8) : rDn ⟨eDn x ++ t, false, false⟩ = (x, ⟨t, false, false⟩) := by
 unfold fDn at hf
 unfold rDn eDn
 simp only [List.append_assoc]
 simp only [rtD 4294967295 x.1 (by omega) hf.1]
 simp only [rtD 18446744073709551615 x.2.1 (by omega) hf.2.1]
 simp only [rtD 18446744073709551615 x.2.2 (by omega) hf.2.2]
 rw [uI_id hf.1.1 (by have := hf.1.2; omega), uI_id hf.2.1.1 hf.2.1.2, uI_id hf.2.2.1 hf.2.2.2]
def nEn (x : En) : En := ⟨x.id, pl x.ev⟩
theorem rtEn (x : En) (hf : fEn x) (hx : xEn x = false) (t : List UInt8) : rEn ⟨eEn x ++ t, false, false⟩ = (nEn x, ⟨t, false, false⟩) := by
 unfold fEn at hf
 unfold xEn at hx
 unfold rEn eEn
 rw [List.append_assoc, rtD 4294967295 x.id (by omega) hf.1]
 dsimp only
 rw [rtEv x.ev hf.2 hx]
 dsimp only
 rw [uI_id hf.1.1 (by have := hf.1.2; omega)]
 rfl
def nUs (u : Us) : Us := ⟨u.id, u.se, u.ver, u.evs.map nEn⟩
theorem rtUs (u : Us) (hf : fUs u) (hx : xUs u = false) (t : List UInt8) : rUs ⟨eUs u ++ t, false, false⟩ = (nUs u, ⟨t, false, false⟩) := by
 unfold fUs at hf
 unfold xUs at hx
 simp only [Bool.or_eq_false_iff] at hx
 unfold rUs eUs
 simp only [List.append_assoc]
 rw [rtD 4294967295 u.id (by omega) hf.1]
 try dsimp only
 rw [rtSe u.se hf.2.1 hx.1]
 try dsimp only
 rw [rtD 18446744073709551615 u.ver (by omega) hf.2.2.1]
 try dsimp only
 rw [rtRowN 64 u.evs (by omega) hx.2 hf.2.2.2 rtEn]
 try dsimp only
 rw [uI_id hf.1.1 (by have := hf.1.2; omega), uI_id hf.2.2.1.1 hf.2.2.1.2]
 rfl
def nSq (s : Sq) : Sq := ⟨s.t, s.us.map nUs, s.ps, s.ds⟩
theorem rtSq (s : Sq) (hf : fSq s) (hx : xSq s = false) (t : List UInt8) : rSq ⟨eSq s ++ t, false, false⟩ = (nSq s, ⟨t, false, false⟩) := by
 unfold fSq at hf
 unfold xSq at hx
 simp only [Bool.or_eq_false_iff] at hx
 unfold rSq eSq
 simp only [List.append_assoc]
 rw [rtM s.t hf.1]
 try dsimp only
 rw [rtRowN 100 s.us (by omega) hx.1 hf.2.1 rtUs]
 try dsimp only
 rw [rtRow 50 s.ps (by omega) hx.2.1 hf.2.2.1 rtPo]
 try dsimp only
 rw [rtRow 4096 s.ds (by omega) hx.2.2 hf.2.2.2 rtDn]
 try dsimp only
 rfl
def Sta.sq (s : Sta) : Sq := ⟨s.t, s.us, s.ps, s.ds.map fun d => (d.c, d.n, d.v)⟩
def Sq.sta (s : Sq) : Sta := ⟨s.t, s.us, s.ps, s.ds.map fun d => ⟨d.1, d.2.1, d.2.2⟩⟩
theorem Sta.sq_cells (s : Sta) : s.sq.cells = s.cells := by
 unfold Sta.sq Sq.cells Sta.cells rowQ rowsD
 simp only [List.map_map]
 rfl
theorem Sq.sta_cells (s : Sq) : s.sta.cells = s.cells := by
 unfold Sq.sta Sq.cells Sta.cells rowQ rowsD
 simp only [List.map_map]
 rfl
theorem nUs_fit {u : Us} (h : u.fit) : (nUs u).fit := by
 obtain ⟨h1, h2, h3⟩ := h
 refine ⟨h1, by simpa [nUs] using h2, fun e he => ?_⟩
 simp only [nUs, List.mem_map] at he
 obtain ⟨e', he', rfl⟩ := he
 exact pl_fits (h3 e' he')
theorem nSq_fits {s : Sta} (h : s.fits) : (nSq s.sq).sta.fits := by
 obtain ⟨h1, h2, h3, h4, h5⟩ := h
 refine ⟨by simpa [nSq, Sta.sq, Sq.sta] using h1, h2, by simpa [nSq, Sta.sq, Sq.sta] using h3, fun u hu => ?_, h5⟩
 simp only [nSq, Sta.sq, Sq.sta, List.mem_map] at hu
 obtain ⟨u', hu', rfl⟩ := hu
 exact nUs_fit (h4 u' hu')
def gOkS (q : Sq × Rs) (b : List UInt8) : Bool := !q.2.cb && (!q.2.rb && q.2.l.isEmpty) && decide (b.length ≤ 1048576)
def Sz : Sq := ⟨0, [], [], []⟩
def getAnsS (b : List UInt8) : D := .tup [.agg (if gOkS (rSq ⟨b, false, false⟩) b = true then (rSq ⟨b, false, false⟩).1.cells else Sz.cells), .bool (gOkS (rSq ⟨b, false, false⟩) b)]
theorem exYS4 : type_of% (an @Wr.eq_1 (an @r8_len (an @row1_len (an @row2_len (an @row3_len (an @rowQ_len (an @rowE_len (an @rowU_len (an @rowP_len @rowsD_len))))))))) := (an @Wr.eq_1 (an @r8_len (an @row1_len (an @row2_len (an @row3_len (an @rowQ_len (an @rowE_len (an @rowU_len (an @rowP_len @rowsD_len)))))))))
theorem getState_p (b : List UInt8) (hl : b.length ≤ 1099511627776) : PureD Tryz.prog 30 [.list none false (r8 b)] (getAnsS b) := by
 refine pureV Tryz.func30 low30 (by simp [c30]) ?_
 unfold getAnsS
 have ha : CallG Tryz.prog 56 [.ptr 0 0 0 1, .ptr 2 0 0 1] [Cr 1 false, Rd b false, Va 4 [.int .i64 0, .list (some true) true [], .list (some true) true [], .list (some true) true []]] (.tup []) [Cr 1 (rSq ⟨b, false, false⟩).2.cb, Rd (rSq ⟨b, false, false⟩).2.l (rSq ⟨b, false, false⟩).2.rb, Va 4 (rSq ⟨b, false, false⟩).1.cells] := cSq_r ⟨b, false, false⟩ 4 [.int .i64 0, .list (some true) true [], .list (some true) true [], .list (some true) true []] 0 rfl rfl rfl rfl (by omega) hl
 have hn := newReader_p none false b hl
 generalize rSq ⟨b, false, false⟩ = q at ha ⊢
 obtain ⟨v, s⟩ := q
 dsimp only at ha ⊢
 have hr := read_p 1048576 b s.l s.rb s.cb hl (by omega)
 have hg : gOkS (v, s) b = (!s.cb && (!s.rb && s.l.isEmpty) && decide (b.length ≤ 1048576)) := rfl
 rw [← hg] at hr
 generalize gOkS (v, s) b = ok at hr ⊢
 clear hg
 simp only [c30]
 simp only [Sq.cells] at ha ⊢
 cases ok
 ·simp only [Bool.false_eq_true, reduceIte, Sz, rowsU, rowsP, rowQ, List.map_nil]
  exact wk0 [59, 56, 60] [] exYS4
 ·simp only [reduceIte]
  exact wk0 [59, 56, 60] [] exYS4
def wOkS (a : Sq) : Bool := !xSq a && decide ((eSq a).length ≤ 1048576)
def putOkS (s : Sta) : Bool := wOkS s.sq && decide ((nSq s.sq).sta = s)
def putAnsS (s : Sta) : D := if putOkS s = true then .tup [.list none false (r8 (eSq s.sq)), .bool true] else .tup [.list none false [], .bool false]
theorem getAnsS_put {a : Sq} (hf : fSq a) (h : wOkS a = true) : getAnsS (eSq a) = .tup [.agg (nSq a).cells, .bool true] := by
 unfold wOkS at h
 simp only [Bool.and_eq_true, Bool.not_eq_true', decide_eq_true_eq] at h
 have e := rtSq a hf h.1 []
 rw [List.append_nil] at e
 have g : gOkS (nSq a, ⟨[], false, false⟩) (eSq a) = true := by unfold gOkS; simp [h.2]
 unfold getAnsS
 rw [e, g]
 rfl
set_option maxHeartbeats 4000000 in
theorem putState_p (s : Sta) (hf : fSq s.sq) (hfit : s.fits) (hl : (eSq s.sq).length ≤ 1099511627776) : PureD Tryz.prog 29 [.agg s.cells] (putAnsS s) := by
 refine pureV Tryz.func29 low29 (by simp [c29]) ?_
 simp only [c29]
 have h1 := newWriter_p
 have h2 := cSq_w [] false 4 s.sq.cells 0 s.sq rfl rfl rfl rfl hf (by simpa using hl)
 simp only [List.nil_append, Bool.false_or, List.length_nil] at h2
 have h3 := written_p 1048576 (eSq s.sq) (xSq s.sq) hl (by omega) (wOkS s.sq) rfl
 have h4 := getState_p (eSq s.sq) hl
 have h5 := recSta_p (nSq s.sq).sta s (nSq_fits hfit) hfit
 unfold putAnsS putOkS
 rw [Sq.sta_cells] at h5
 rw [Sta.sq_cells] at h2
 cases hw : wOkS s.sq
 ·rw [hw] at h3
  simp only [Bool.false_eq_true, reduceIte, Bool.false_and] at h3 ⊢
  clear h4 h5
  unfold Sta.cells at h2 ⊢
  exact wk0 [55, 56, 57] [] exYS4
 ·rw [hw] at h3
  rw [getAnsS_put hf hw] at h4
  simp only [reduceIte, Bool.true_and] at h3 ⊢
  generalize hd : decide ((nSq s.sq).sta = s) = d at h5 ⊢
  generalize nSq s.sq = x at h4 h5
  unfold Sta.cells at h2 h5 ⊢
  unfold Sq.cells at h4 h5
  clear hd
  cases d
  ·simp only [Bool.false_eq_true, reduceIte]
   exact wk0 [55, 56, 57] [] exYS4
  ·simp only [reduceIte]
   exact wk0 [55, 56, 57] [] exYS4
end Go.Proofs.YtapennlmboabeaaGreat

namespace Go.Proofs.YtapennlmboabeaaGreat
open Go Go.Vi
theorem n10 (x : Int) : (num (uI x)).length ≤ 10 := num_10 (uI_lt x)
theorem z10 {x : Int} (h : Fit x) : (num (zz x)).length ≤ 10 := num_10 (zz_lt h.1 h.2)
theorem fm30 {α : Type} {e : α → List UInt8} : ∀ (l : List α), (∀ y ∈ l, (e y).length ≤ 30) → (l.flatMap e).length ≤ 30 * l.length
 | [], _ => by simp
 | y :: l, h => by
  have h1 := fm30 l fun z hz => h z (List.mem_cons_of_mem _ hz)
  have h2 := h y List.mem_cons_self
  rw [List.flatMap_cons, List.length_append, List.length_cons]
  omega
theorem row30 {α : Type} {e : α → List UInt8} {f : α → Prop} (he : ∀ y, f y → (e y).length ≤ 30) (l : List α) (n : Nat) (hn : l.length ≤ n) (h8 : n ≤ 1000) (h : ∀ y ∈ l, f y) : (eRow e l).length ≤ 10 + 30 * n := by
 unfold eRow
 have h1 := fm30 (e := e) l fun y hy => he y (h y hy)
 have h2 := num_10 (n := l.length) (by omega)
 rw [List.length_append]
 omega
theorem lenTu (x : Int × Int) (h : fTu x) : (eTu x).length ≤ 30 := by
 have h1 := z10 h.1; have h2 := z10 h.2
 simp only [eTu, List.length_append]; omega
theorem lenSh (x : Int × Int × Int) (h : fSh x) : (eSh x).length ≤ 30 := by
 have h1 := n10 x.1; have h2 := n10 x.2.1; have h3 := n10 x.2.2
 simp only [eSh, List.length_append]; omega
theorem lenOf (x : Int) (h : fOf x) : (eOf x).length ≤ 30 := by
 have h1 := n10 x
 simp only [eOf]; omega
theorem lenSm (x : Int) (h : fSm x) : (eSm x).length ≤ 30 := by
 have h1 := z10 h
 simp only [eSm]; omega
theorem lenDa (x : Int × Int) (h : fDa x) : (eDa x).length ≤ 30 := by
 have h1 := z10 h.1; have h2 := n10 x.2
 simp only [eDa, List.length_append]; omega
theorem lenEx (x : Int) (h : fEx x) : (eEx x).length ≤ 30 := by
 have h1 := z10 h
 simp only [eEx]; omega
theorem lenPl (x : Int) (h : fPl x) : (ePl x).length ≤ 30 := by
 have h1 := z10 h
 simp only [ePl]; omega
theorem lenCh (x : Int × Int × Int) (h : fCh x) : (eCh x).length ≤ 30 := by
 have h1 := z10 h.1; have h2 := z10 h.2.1; have h3 := n10 x.2.2
 simp only [eCh, List.length_append]; omega
theorem lenMu (x : Int) (h : fMu x) : (eMu x).length ≤ 30 := by
 have h1 := n10 x
 simp only [eMu]; omega
theorem lenWa (x : Int × Int) (h : fWa x) : (eWa x).length ≤ 30 := by
 have h1 := n10 x.1; have h2 := n10 x.2
 simp only [eWa, List.length_append]; omega
theorem lenPa (x : Int × Int) (h : fPa x) : (ePa x).length ≤ 30 := by
 have h1 := n10 x.1; have h2 := n10 x.2
 simp only [ePa, List.length_append]; omega
theorem lenSe {s : Se} (h : fSe s) (g : s.great = false) : (eSe s).length ≤ 100000 := by
 simp only [Se.great, Bool.or_eq_false_iff, decide_eq_false_iff_not] at g
 obtain ⟨⟨h1, h2, h3⟩, ⟨h4, h5⟩, ⟨h6, h7⟩, h8, h9⟩ := h
 have a1 := z10 h1
 have a2 := row30 lenTu s.turns 100 (by omega) (by omega) h3
 have a3 := row30 lenSh s.shifts 30 (by omega) (by omega) h5
 have a4 := row30 lenOf s.off 100 (by omega) (by omega) h7
 have a5 := n10 s.before
 have a6 := n10 s.after
 simp only [eSe, eZo, eHs, List.length_append]
 omega
theorem lenRu {s : Ru} (h : fRu s) (g : s.bm.length ≤ 100 ∧ s.bmd.length ≤ 100 ∧ s.bd.length ≤ 200 ∧ s.bsp.length ≤ 500) : (eRu s).length ≤ 100000 := by
 obtain ⟨h1, h2, h3, h4, ⟨h5, h6⟩, ⟨h7, h8⟩, ⟨h9, h10⟩, ⟨h11, h12⟩, h13⟩ := h
 have a1 := n10 s.freq
 have a2 := n10 s.interval
 have a3 := n10 s.count
 have a4 := z10 h4
 have a5 := row30 lenSm s.bm 100 (by omega) (by omega) h6
 have a6 := row30 lenSm s.bmd 100 (by omega) (by omega) h8
 have a7 := row30 lenDa s.bd 200 (by omega) (by omega) h10
 have a8 := row30 lenSm s.bsp 500 (by omega) (by omega) h12
 have a9 := n10 s.start
 simp only [eRu, eSs, List.length_append]
 omega
theorem lenEv {s : Ev} (h : fEv s) (g : s.great = false) : (eEv s).length ≤ 200000 := by
 simp only [Ev.great, Bool.or_eq_false_iff, decide_eq_false_iff_not] at g
 obtain ⟨⟨h1, h2, _, _⟩, _, _, _, hr, ⟨h3, h4⟩, ⟨h5, h6⟩, h7, h8⟩ := h
 have a1 := z10 h1
 have a2 := n10 s.long
 have a3 := lenRu hr (by omega)
 have a4 := row30 lenEx s.ex 80 (by omega) (by omega) h4
 have a5 := row30 lenPl s.plus 80 (by omega) (by omega) h6
 have a6 := row30 lenCh s.ch 80 (by omega) (by omega) h8
 unfold eEv
 split
 ·simp only [eE1, fl8, List.length_append, List.length_cons, List.length_nil]
  omega
 ·simp only [eE0, fl8, List.length_append, List.length_cons, List.length_nil]
  omega
theorem lenQu {s : Qu} (h : fQu s) (g : s.great = false) : (eQu s).length ≤ 100000 := by
 simp only [Qu.great, Bool.or_eq_false_iff, decide_eq_false_iff_not] at g
 obtain ⟨h1, h2, h3, h4, ⟨h5, h6⟩, ⟨h7, h8⟩, h9, ⟨h10, h11⟩, h12, h13⟩ := h
 have a1 := z10 h1
 have a2 := z10 h2
 have a3 := n10 s.long
 have a4 := n10 s.grid
 have a5 := row30 lenMu s.must 80 (by omega) (by omega) h6
 have a6 := row30 lenWa s.may 40 (by omega) (by omega) h8
 have a7 := n10 s.seats
 have a8 := row30 lenPa s.apart 60 (by omega) (by omega) h11
 have a9 := row30 lenSh s.prefer 30 (by omega) (by omega) h13
 simp only [eQu, eHs, List.length_append]
 omega
end Go.Proofs.YtapennlmboabeaaGreat

namespace Go.Proofs.YtapennlmboabeaaGreat
open Go Go.Vi
theorem ft_cons {s : Sh} {ss : List Sh} {d : D} {r : List D} : FitsAll (s :: ss) (d :: r) ↔ Fits s d ∧ FitsAll ss r := by
 simp only [FitsAll]
 constructor
 ·rintro ⟨_, _, h, h1, h2⟩
  cases h
  exact ⟨h1, h2⟩
 ·rintro ⟨h1, h2⟩
  exact ⟨_, _, rfl, h1, h2⟩
theorem ft_int {k : IntKind} {n : Int} : Fits (.int k) (.int k n) ↔ k.min ≤ n ∧ n ≤ k.max := by
 simp only [Fits]
 constructor
 ·rintro ⟨_, h, h1⟩
  cases h
  exact h1
 ·intro h
  exact ⟨_, rfl, h⟩
theorem ft_L {α : Type} {f : α → List D} {b : Nat} {shs : List Sh} {l : List α} (hb : 0 < b) (h : Fits (.slice b shs) (L (l.map f))) : l.length ≤ 140737488351232 ∧ ∀ x ∈ l, FitsAll shs (f x) := by
 simp only [Fits] at h
 obtain ⟨rows, e, hl, hr⟩ := h
 injection e with _ _ e
 subst e
 refine ⟨Nat.le_trans (Nat.le_mul_of_pos_right _ hb) (by simpa using hl), fun x hx => hr _ (List.mem_map_of_mem hx)⟩
theorem ft_1 {k : IntKind} {b : Nat} {l : List Int} (hb : 0 < b) (h : Fits (sh1 b k) (L (row1 k l))) : l.length ≤ 140737488351232 ∧ ∀ x ∈ l, k.min ≤ x ∧ x ≤ k.max := by
 obtain ⟨h1, h2⟩ := ft_L hb h
 refine ⟨h1, fun x hx => ?_⟩
 have := h2 x hx
 rw [ft_cons, ft_int] at this
 exact this.1
theorem ft_2 {k m : IntKind} {b : Nat} {l : List (Int × Int)} (hb : 0 < b) (h : Fits (sh2 b k m) (L (row2 k m l))) : l.length ≤ 140737488351232 ∧ ∀ x ∈ l, (k.min ≤ x.1 ∧ x.1 ≤ k.max) ∧ (m.min ≤ x.2 ∧ x.2 ≤ m.max) := by
 obtain ⟨h1, h2⟩ := ft_L hb h
 refine ⟨h1, fun x hx => ?_⟩
 have := h2 x hx
 rw [ft_cons, ft_cons, ft_int, ft_int] at this
 exact ⟨this.1, this.2.1⟩
theorem ft_3 {l : List (Int × Int × Int)} (h : Fits sh3 (L (row3 l))) : l.length ≤ 140737488351232 ∧ ∀ x ∈ l, Fit x.1 ∧ Fit x.2.1 ∧ Fit x.2.2 := by
 obtain ⟨h1, h2⟩ := ft_L (by decide) h
 refine ⟨h1, fun x hx => ?_⟩
 have := h2 x hx
 rw [ft_cons, ft_cons, ft_cons, ft_int, ft_int, ft_int] at this
 exact ⟨this.1, this.2.1, this.2.2.1⟩
end Go.Proofs.YtapennlmboabeaaGreat

namespace Go.Proofs.YtapennlmboabeaaGreat
open Go Go.Vi
theorem fmK {α : Type} {e : α → List UInt8} (K : Nat) : ∀ (l : List α), (∀ y ∈ l, (e y).length ≤ K) → (l.flatMap e).length ≤ K * l.length
 | [], _ => by simp
 | y :: l, h => by
  have h1 := fmK K l fun z hz => h z (List.mem_cons_of_mem _ hz)
  have h2 := h y List.mem_cons_self
  rw [List.flatMap_cons, List.length_append, List.length_cons, Nat.mul_succ]
  omega
theorem rowK {α : Type} {e : α → List UInt8} (K : Nat) (l : List α) (n : Nat) (hn : l.length ≤ n) (h8 : n ≤ 1000) (h : ∀ y ∈ l, (e y).length ≤ K) : (eRow e l).length ≤ 10 + K * n := by
 unfold eRow
 have h1 := fmK (e := e) K l h
 have h2 := num_10 (n := l.length) (by omega)
 have h3 : K * l.length ≤ K * n := Nat.mul_le_mul_left K hn
 rw [List.length_append]
 omega
theorem lenTs' (x : Int) (h : fTs x) : (eTs x).length ≤ 30 := by
 have h1 := z10 h
 simp only [eTs]; omega
theorem lenVo' (x : Int × Int) (h : fVo x) : (eVo x).length ≤ 30 := by
 have h1 := n10 x.1; have h2 := n10 x.2
 simp only [eVo, List.length_append]; omega
theorem lenDn (x : Int × Int × Int) : (eDn x).length ≤ 30 := by
 have h1 := n10 x.1; have h2 := n10 x.2.1; have h3 := n10 x.2.2
 simp only [eDn, List.length_append]; omega
theorem lenPo' {s : Po} (h : fPo s) (g : s.great = false) : (ePo s).length ≤ 200000 := by
 simp only [Po.great, Bool.or_eq_false_iff, decide_eq_false_iff_not] at g
 obtain ⟨h1, h2, h3, ⟨h4, h5⟩, ⟨h6, h7⟩, h8, h9, h10⟩ := h
 have a1 := n10 s.id
 have a2 := n10 s.owner
 have a3 := lenQu h3 g.1.1
 have a4 := row30 lenTs' s.slots 80 (by omega) (by omega) h5
 have a5 := row30 lenVo' s.votes 300 (by omega) (by omega) h7
 have a6 := z10 h8
 have a7 := n10 s.state
 have a8 := n10 s.winner
 simp only [ePo, List.length_append]
 omega
theorem lenUs {u : Us} (h : fUs u) (g : u.great = false) : (eUs u).length ≤ 3000000 := by
 simp only [Us.great, Bool.or_eq_false_iff, decide_eq_false_iff_not, List.any_eq_false] at g
 obtain ⟨⟨g1, g2⟩, g3⟩ := g
 have a1 := n10 u.id
 have a2 := lenSe h.2.1 g1
 have a3 := n10 u.ver
 have a4 := rowK (e := eEn) 200010 u.evs 10 (by omega) (by omega) (fun e he => by
  have hf := h.2.2.2.2 e he
  have b1 := n10 e.id
  have b2 := lenEv hf.2 (by simpa using g3 e he)
  unfold eEn
  rw [List.length_append]
  omega)
 simp only [eUs, List.length_append]
 omega
theorem lenSq {s : Sta} (h : fSq s.sq) (g : greatSt s.us s.ps s.ds = false) : (eSq s.sq).length ≤ 100000000 := by
 simp only [greatSt, Bool.or_eq_false_iff, decide_eq_false_iff_not, List.any_eq_false] at g
 obtain ⟨⟨⟨⟨g1, g2⟩, g3⟩, g4⟩, g5⟩ := g
 have a1 := z10 h.1
 have a2 := rowK (e := eUs) 3000000 s.us 12 (by omega) (by omega) (fun u hu => lenUs (h.2.1.2 u hu) (by simpa using g4 u hu))
 have a3 := rowK (e := ePo) 200000 s.ps 8 (by omega) (by omega) (fun p hp => lenPo' (h.2.2.1.2 p hp) (by simpa using g5 p hp))
 have a4 := rowK (e := eDn) 30 s.sq.ds 100 (by simp [Sta.sq]; omega) (by omega) (fun d _ => lenDn d)
 simp only [eSq, List.length_append]
 have e1 : s.sq.us = s.us := rfl
 have e2 : s.sq.ps = s.ps := rfl
 have e3 : s.sq.t = s.t := rfl
 rw [e1, e2]
 omega
set_option maxRecDepth 100000 in
theorem rngEn (e : En) (h : FitsAll shEn e.row) : fEn e := by
 simp only [shEn, En.row, ft_cons] at h
 obtain ⟨h0, e1, e2, e3, e4, e5, e6, e7, e8, e9, e10, e11, e12, e13, e14, e15, e16, _⟩ := h
 have d8 : 0 < 8 := by decide
 have d16 : 0 < 16 := by decide
 have hru : fRu e.ev.rule := ⟨ft_int.1 e5, ft_int.1 e6, ft_int.1 e7, ft_int.1 e8, ft_1 d8 e9, ft_1 d8 e10, ft_2 d16 e11, ft_1 d8 e12, ft_int.1 e13⟩
 exact ⟨ft_int.1 h0, ⟨ft_int.1 e1, ft_int.1 e2, trivial, trivial⟩, ft_int.1 e1, ft_int.1 e2, trivial, hru, ft_1 d8 e14, ft_1 d8 e15, ft_3 e16⟩
set_option maxRecDepth 100000 in
theorem rngUs (u : Us) (h : FitsAll shUs u.row) : fUs u := by
 simp only [shUs, Us.row, ft_cons] at h
 obtain ⟨h0, s1, s2, s3, s4, s5, s6, h7, h8, _⟩ := h
 have d8 : 0 < 8 := by decide
 have d16 : 0 < 16 := by decide
 obtain ⟨g1, g2⟩ := ft_L (f := En.row) (l := u.evs) (by decide) h8
 exact ⟨ft_int.1 h0, ⟨⟨ft_int.1 s1, ft_2 d16 s2⟩, ft_3 s3, ft_1 d8 s4, ft_int.1 s5, ft_int.1 s6⟩, ft_int.1 h7, g1, fun e he => rngEn e (g2 e he)⟩
set_option maxRecDepth 100000 in
theorem rngPo (p : Po) (h : FitsAll shPo p.row) : fPo p := by
 simp only [shPo, Po.row, ft_cons] at h
 obtain ⟨p0, p1, q0, q1, q2, q3, q4, q5, q6, q7, q8, p2, p3, p4, p5, p6, _⟩ := h
 have d8 : 0 < 8 := by decide
 have d16 : 0 < 16 := by decide
 have d4 : 0 < 4 := by decide
 have hqu : fQu p.qu := ⟨ft_int.1 q0, ft_int.1 q1, ft_int.1 q2, ft_int.1 q3, ft_1 d4 q4, ft_2 d16 q5, ft_int.1 q6, ft_2 d8 q7, ft_3 q8⟩
 exact ⟨ft_int.1 p0, ft_int.1 p1, hqu, ft_1 d8 p2, ft_2 d16 p3, ft_int.1 p4, ft_int.1 p5, ft_int.1 p6⟩
theorem rngDn (d : Dn) (h : FitsAll shDn d.row) : fDn (d.c, d.n, d.v) := by
 simp only [shDn, Dn.row, ft_cons] at h
 obtain ⟨h0, h1, h2, _⟩ := h
 exact ⟨ft_int.1 h0, ft_int.1 h1, ft_int.1 h2⟩
theorem rngSt (s : Sta) (h : FitsAll shSt s.cells) : fSq s.sq := by
 simp only [shSt, Sta.cells, ft_cons] at h
 obtain ⟨h0, h1, h2, h3, _⟩ := h
 obtain ⟨a1, a2⟩ := ft_L (f := Us.row) (l := s.us) (by decide) h1
 obtain ⟨b1, b2⟩ := ft_L (f := Po.row) (l := s.ps) (by decide) h2
 obtain ⟨c1, c2⟩ := ft_L (f := Dn.row) (l := s.ds) (by decide) h3
 refine ⟨ft_int.1 h0, ⟨a1, fun u hu => rngUs u (a2 u hu)⟩, ⟨b1, fun p hp => rngPo p (b2 p hp)⟩, by simpa [Sta.sq] using c1, fun x hx => ?_⟩
 simp only [Sta.sq, List.mem_map] at hx
 obtain ⟨d, hd, rfl⟩ := hx
 exact rngDn d (c2 d hd)
end Go.Proofs.YtapennlmboabeaaGreat
