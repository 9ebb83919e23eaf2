import Derived.Test.YtapennlmboabeaaGreatYL
import Derived.Test.YtapennlmboabeaaGreatYM
import Derived.Test.YtapennlmboabeaaGreatVi33
import Derived.Test.YtapennlmboabeaaGreatYB
set_option linter.unusedVariables false
set_option linter.unusedSimpArgs false
set_option linter.unnecessarySimpa false
namespace Go.Proofs.YtapennlmboabeaaGreat
open Go Go.Vi
theorem pD {l : List Dn} {i : Nat} {x : Dn} (h : l[i]? = some x) : (hH l)[i]? = some [.int .u32 x.c, .int .u64 x.n, .int .u64 x.v] := by simp [hH, h, Dn.row]
theorem bDn {x y : Dn} : ((x.c == y.c) && ((x.n == y.n) && (x.v == y.v))) = decide (x = y) := by
 cases x; cases y
 rw [Bool.eq_iff_iff]
 simp only [Bool.and_eq_true, beq_iff_eq, decide_eq_true_eq, Dn.mk.injEq]
theorem gN : type_of% (an @ab (an @ac (an @ae (an @dc (an @gD (an @gz (an @gy @ai))))))) := (an @ab (an @ac (an @ae (an @dc (an @gD (an @gz (an @gy @ai)))))))
theorem wX (a b : List Dn) (ha : a.length ≤ 140737488351232) (hb : b.length ≤ 140737488351232) : aA Tryz.prog 97 [L (hH a), L (hH b)] (.bool (decide (a = b))) := by
 refine bl Tryz.func97 low97 (by simp [c97]) ?_
 simp only [c97]
 by_cases hl : ¬ a.length = b.length
 ·have c1 := kT hl
  rw [iz hl]
  exact dz [] [] (an gN c1)
 have hl : a.length = b.length := by omega
 have c1 : ((a.length : Int) == (b.length : Int)) = true := by simp [hl]
 refine wk [] [] (an gN c1) ?_
 refine av (ι := {i : Nat // i ≤ a.length ∧ a.take i = b.take i}) (fun i => ([(0, L (hH a)), (1, L (hH b)), (12, .int .i64 a.length), (13, .int .i64 i.1)], [])) (fun i => a.length - i.1) ⟨0, by simp⟩ ?_ ?_
 ·exact fx [] gN
 rintro ⟨i, hi, ht⟩ hk
 dsimp only at hk ⊢
 by_cases hlt : i < a.length
 ·have c2 : ((i : Int) < (a.length : Int)) = True := by simp; omega
  obtain ⟨x, hx⟩ : ∃ x, a[i]? = some x := ⟨_, List.getElem?_eq_getElem hlt⟩
  obtain ⟨y, hy⟩ : ∃ y, b[i]? = some y := ⟨_, List.getElem?_eq_getElem (by omega)⟩
  have rx := pD hx
  have ry := pD hy
  by_cases hxy : x = y
  ·have c3 : ((x.c == y.c) && ((x.n == y.n) && (x.v == y.v))) = true := by rw [bDn]; simpa using hxy
   refine wk [] [] (an gN (an c2 (an c3 (an rx ry)))) ?_
   refine hk ⟨i + 1, by omega, eC ht hx hy hxy⟩ _ _ (by dsimp only; omega) ?_
   dsimp only
   exact fx [] gN
  ·have c3 : ((x.c == y.c) && ((x.n == y.n) && (x.v == y.v))) = false := by rw [bDn]; simpa using hxy
   rw [gV hx hy hxy]
   exact dz [] [] (an gN (an c2 (an c3 (an rx ry))))
 ·have c2 : ((i : Int) < (a.length : Int)) = False := by simp; omega
  rw [fW ht hlt hl]
  exact dz [] [] (an gN c2)
set_option maxHeartbeats 4000000 in
theorem yW (a b : List Po) (ha : a.length ≤ 140737488351232) (hb : b.length ≤ 140737488351232) (fa : ∀ x ∈ a, x.fits) (fb : ∀ x ∈ b, x.fits) : aA Tryz.prog 98 [L (fF a), L (fF b), .fn 99 []] (.bool (decide (a = b))) := by
 refine bl Tryz.func98 low98 (by simp [c98]) ?_
 simp only [c98]
 by_cases hl : ¬ a.length = b.length
 ·have c1 := kT hl
  rw [iz hl]
  exact dz [] [] (an gN c1)
 have hl : a.length = b.length := by omega
 have c1 : ((a.length : Int) == (b.length : Int)) = true := by simp [hl]
 refine wk [] [] (an gN c1) ?_
 refine av (ι := {i : Nat // i ≤ a.length ∧ a.take i = b.take i}) (fun i => ([(1, L (fF b)), (2, .fn 99 []), (15, L (fF a)), (16, .int .i64 a.length), (17, .int .i64 i.1)], [])) (fun i => a.length - i.1) ⟨0, by simp⟩ ?_ ?_
 ·exact fx [] gN
 rintro ⟨i, hi, ht⟩ hk
 dsimp only at hk ⊢
 by_cases hlt : i < a.length
 ·have c2 : ((i : Int) < (a.length : Int)) = True := by simp; omega
  obtain ⟨x, hx⟩ : ∃ x, a[i]? = some x := ⟨_, List.getElem?_eq_getElem hlt⟩
  obtain ⟨y, hy⟩ : ∃ y, b[i]? = some y := ⟨_, List.getElem?_eq_getElem (by omega)⟩
  have rx := pB hx
  have ry := pB hy
  have h := zt x y (fa x (List.mem_of_getElem? hx)) (fb y (List.mem_of_getElem? hy))
  unfold Po.row at rx ry h
  by_cases hxy : x = y
  ·rw [decide_eq_true hxy] at h
   refine wk [] [] (an gN (an c2 (an rx ry))) ?_
   refine hk ⟨i + 1, by omega, eC ht hx hy hxy⟩ _ _ (by dsimp only; omega) ?_
   dsimp only
   exact fx [] gN
  ·rw [decide_eq_false hxy] at h
   rw [gV hx hy hxy]
   exact dz [] [] (an gN (an c2 (an rx ry)))
 ·have c2 : ((i : Int) < (a.length : Int)) = False := by simp; omega
  rw [fW ht hlt hl]
  exact dz [] [] (an gN c2)
theorem zq (a b : En) (ha : a.ev.fits) (hb : b.ev.fits) : aA Tryz.prog 104 [.agg a.row, .agg b.row] (.bool (decide (a = b))) := by
 refine bl Tryz.func104 low104 (by simp [c104]) ?_
 have h2 := zr a.ev b.ev ha hb
 obtain ⟨a0, a1⟩ := a
 obtain ⟨b0, b1⟩ := b
 dsimp only at h2
 have e : decide (En.mk a0 a1 = En.mk b0 b1) = ((a0 == b0) && decide (a1 = b1)) := by
  rw [Bool.eq_iff_iff]
  simp only [Bool.and_eq_true, beq_iff_eq, decide_eq_true_eq, En.mk.injEq]
 rw [e]
 clear e
 generalize decide (a1 = b1) = x2 at h2 ⊢
 simp only [c104, En.row]
 simp only [Ev.cells] at h2
 exact lC [] [] gN
def En.fitS (e : En) : Prop := e.ev.fits
theorem xU (a b : En) (ha : a.fitS) (hb : b.fitS) : aA Tryz.prog 104 [.agg a.row, .agg b.row] (.bool (decide (a = b))) := zq a b ha hb
set_option maxHeartbeats 4000000 in
theorem yV (a b : List En) (ha : a.length ≤ 140737488351232) (hb : b.length ≤ 140737488351232) (fa : ∀ x ∈ a, x.fitS) (fb : ∀ x ∈ b, x.fitS) : aA Tryz.prog 103 [L (bA a), L (bA b), .fn 104 []] (.bool (decide (a = b))) := by
 refine bl Tryz.func103 low103 (by simp [c103]) ?_
 simp only [c103]
 by_cases hl : ¬ a.length = b.length
 ·have c1 := kT hl
  rw [iz hl]
  exact dz [] [] (an gN c1)
 have hl : a.length = b.length := by omega
 have c1 : ((a.length : Int) == (b.length : Int)) = true := by simp [hl]
 refine wk [] [] (an gN c1) ?_
 refine av (ι := {i : Nat // i ≤ a.length ∧ a.take i = b.take i}) (fun i => ([(1, L (bA b)), (2, .fn 104 []), (15, L (bA a)), (16, .int .i64 a.length), (17, .int .i64 i.1)], [])) (fun i => a.length - i.1) ⟨0, by simp⟩ ?_ ?_
 ·exact fx [] gN
 rintro ⟨i, hi, ht⟩ hk
 dsimp only at hk ⊢
 by_cases hlt : i < a.length
 ·have c2 : ((i : Int) < (a.length : Int)) = True := by simp; omega
  obtain ⟨x, hx⟩ : ∃ x, a[i]? = some x := ⟨_, List.getElem?_eq_getElem hlt⟩
  obtain ⟨y, hy⟩ : ∃ y, b[i]? = some y := ⟨_, List.getElem?_eq_getElem (by omega)⟩
  have rx := sQ hx
  have ry := sQ hy
  have h := xU x y (fa x (List.mem_of_getElem? hx)) (fb y (List.mem_of_getElem? hy))
  unfold En.row at rx ry h
  by_cases hxy : x = y
  ·rw [decide_eq_true hxy] at h
   refine wk [] [] (an gN (an c2 (an rx ry))) ?_
   refine hk ⟨i + 1, by omega, eC ht hx hy hxy⟩ _ _ (by dsimp only; omega) ?_
   dsimp only
   exact fx [] gN
  ·rw [decide_eq_false hxy] at h
   rw [gV hx hy hxy]
   exact dz [] [] (an gN (an c2 (an rx ry)))
 ·have c2 : ((i : Int) < (a.length : Int)) = False := by simp; omega
  rw [fW ht hlt hl]
  exact dz [] [] (an gN c2)
theorem zw (a b : Us) (ha : a.fit) (hb : b.fit) : aA Tryz.prog 101 [.agg a.row, .agg b.row] (.bool (decide (a = b))) := by
 obtain ⟨f1, f2, f3⟩ := ha
 obtain ⟨g1, g2, g3⟩ := hb
 refine bl Tryz.func101 low101 (by simp [c101]) ?_
 have h2 := zv a.se b.se f1 g1
 have h3 := yV a.evs b.evs f2 g2 f3 g3
 obtain ⟨a0, a1, a2, a3⟩ := a
 obtain ⟨b0, b1, b2, b3⟩ := b
 dsimp only at h2 h3
 have e : decide (Us.mk a0 a1 a2 a3 = Us.mk b0 b1 b2 b3) = ((a0 == b0) && ((a2 == b2) && (decide (a1 = b1) && decide (a3 = b3)))) := by
  rw [Bool.eq_iff_iff]
  simp only [Bool.and_eq_true, beq_iff_eq, decide_eq_true_eq, Us.mk.injEq]
  exact ⟨fun ⟨x1, x2, x3, x4⟩ => ⟨x1, x3, x2, x4⟩, fun ⟨x1, x2, x3, x4⟩ => ⟨x1, x3, x2, x4⟩⟩
 rw [e]
 clear e
 generalize decide (a1 = b1) = x1 at h2 ⊢
 generalize decide (a3 = b3) = x3 at h3 ⊢
 simp only [c101, Us.row]
 simp only [Se.cells] at h2
 exact lC [] [] gN
set_option maxHeartbeats 4000000 in
theorem yX (a b : List Us) (ha : a.length ≤ 140737488351232) (hb : b.length ≤ 140737488351232) (fa : ∀ x ∈ a, x.fit) (fb : ∀ x ∈ b, x.fit) : aA Tryz.prog 100 [L (dA a), L (dA b), .fn 101 []] (.bool (decide (a = b))) := by
 refine bl Tryz.func100 low100 (by simp [c100]) ?_
 simp only [c100]
 by_cases hl : ¬ a.length = b.length
 ·have c1 := kT hl
  rw [iz hl]
  exact dz [] [] (an gN c1)
 have hl : a.length = b.length := by omega
 have c1 : ((a.length : Int) == (b.length : Int)) = true := by simp [hl]
 refine wk [] [] (an gN c1) ?_
 refine av (ι := {i : Nat // i ≤ a.length ∧ a.take i = b.take i}) (fun i => ([(1, L (dA b)), (2, .fn 101 []), (15, L (dA a)), (16, .int .i64 a.length), (17, .int .i64 i.1)], [])) (fun i => a.length - i.1) ⟨0, by simp⟩ ?_ ?_
 ·exact fx [] gN
 rintro ⟨i, hi, ht⟩ hk
 dsimp only at hk ⊢
 by_cases hlt : i < a.length
 ·have c2 : ((i : Int) < (a.length : Int)) = True := by simp; omega
  obtain ⟨x, hx⟩ : ∃ x, a[i]? = some x := ⟨_, List.getElem?_eq_getElem hlt⟩
  obtain ⟨y, hy⟩ : ∃ y, b[i]? = some y := ⟨_, List.getElem?_eq_getElem (by omega)⟩
  have rx := pC hx
  have ry := pC hy
  have h := zw x y (fa x (List.mem_of_getElem? hx)) (fb y (List.mem_of_getElem? hy))
  unfold Us.row at rx ry h
  by_cases hxy : x = y
  ·rw [decide_eq_true hxy] at h
   refine wk [] [] (an gN (an c2 (an rx ry))) ?_
   refine hk ⟨i + 1, by omega, eC ht hx hy hxy⟩ _ _ (by dsimp only; omega) ?_
   dsimp only
   exact fx [] gN
  ·rw [decide_eq_false hxy] at h
   rw [gV hx hy hxy]
   exact dz [] [] (an gN (an c2 (an rx ry)))
 ·have c2 : ((i : Int) < (a.length : Int)) = False := by simp; omega
  rw [fW ht hlt hl]
  exact dz [] [] (an gN c2)
theorem xV (a b : iQ) (ha : a.fits) (hb : b.fits) : aA Tryz.prog 58 [.agg a.cells, .agg b.cells] (.bool (decide (a = b))) := by
 obtain ⟨f1, f2, f3, f4, f5⟩ := ha
 obtain ⟨g1, g2, g3, g4, g5⟩ := hb
 refine bl Tryz.func58 low58 (by simp [c58]) ?_
 have h2 := yX a.us b.us (by omega) (by omega) f4 g4
 have h3 := yW a.ps b.ps (by omega) (by omega) f5 g5
 have h4 := wX a.ds b.ds (by omega) (by omega)
 obtain ⟨a0, a1, a2, a3⟩ := a
 obtain ⟨b0, b1, b2, b3⟩ := b
 dsimp only at h2 h3 h4
 have e : decide (iQ.mk a0 a1 a2 a3 = iQ.mk b0 b1 b2 b3) = ((a0 == b0) && (decide (a3 = b3) && (decide (a2 = b2) && decide (a1 = b1)))) := by
  rw [Bool.eq_iff_iff]
  simp only [Bool.and_eq_true, beq_iff_eq, decide_eq_true_eq, iQ.mk.injEq]
  exact ⟨fun ⟨x1, x2, x3, x4⟩ => ⟨x1, x4, x3, x2⟩, fun ⟨x1, x2, x3, x4⟩ => ⟨x1, x4, x3, x2⟩⟩
 rw [e]
 clear e
 generalize decide (a1 = b1) = x1 at h2 ⊢
 generalize decide (a2 = b2) = x2 at h3 ⊢
 generalize decide (a3 = b3) = x3 at h4 ⊢
 simp only [c58, iQ.cells]
 exact lC [] [] gN
end Go.Proofs.YtapennlmboabeaaGreat

namespace Go.Proofs.YtapennlmboabeaaGreat
open Go Go.Vi
theorem AZ {α : Type} {re : Rs → α × Rs} {e : α → List UInt8} {nm : α → α} : ∀ (l : List α) (a : List α) (t : List UInt8), (∀ y ∈ l, ∀ u, re ⟨e y ++ u, false, false⟩ = (nm y, ⟨u, false, false⟩)) → iP re l.length ⟨l.flatMap e ++ t, false, false⟩ a = (a ++ l.map nm, ⟨t, false, false⟩)
 | [], a, t, _ => by simp [iP]
 | y :: l, a, t, h => by
  have h1 := h y (List.mem_cons_self) (l.flatMap e ++ t)
  rw [List.flatMap_cons, List.append_assoc, List.length_cons, iP, h1]
  dsimp only
  rw [if_neg (by simp), AZ l _ t (fun z hz => h z (List.mem_cons_of_mem _ hz)), List.append_assoc]
  rfl
theorem x0 {α : Type} {re : Rs → α × Rs} {e : α → List UInt8} {x : α → Bool} {f : α → Prop} {nm : α → α} (most : Nat) (l : List α) (hm : most < 18446744073709551616) (hx : fO x most l = false) (hf : l.length ≤ 140737488351232 ∧ ∀ y ∈ l, f y) (h : ∀ y, f y → x y = false → ∀ u, re ⟨e y ++ u, false, false⟩ = (nm y, ⟨u, false, false⟩)) (t : List UInt8) :
  ap re most ⟨cZ e l ++ t, false, false⟩ = (l.map nm, ⟨t, false, false⟩) := by
 unfold fO at hx
 simp only [Bool.or_eq_false_iff] at hx
 unfold ap cZ
 rw [List.append_assoc, rtK most l.length (by omega) (by simpa using hx.1)]
 dsimp only
 rw [AZ l [] t (fun y hy => h y (hf.2 y hy) (by
  have := hx.2
  rw [List.any_eq_false] at this
  simpa using this y hy)), List.nil_append]
theorem rtDn (x : Int × Int × Int) (hf : B9 x) (hx : CV x = false) (t : List UInt8) : r9 ⟨tI x ++ t, false, false⟩ = (x, ⟨t, false, false⟩) := by
 unfold B9 at hf
 unfold r9 tI
 simp only [List.append_assoc]
 simp only [vV 4294967295 x.1 (by omega) hf.1]
 simp only [vV 18446744073709551615 x.2.1 (by omega) hf.2.1]
 simp only [vV 18446744073709551615 x.2.2 (by omega) hf.2.2]
 rw [jx hf.1.1 (by have := hf.1.2; omega), jx hf.2.1.1 hf.2.1.2, jx hf.2.2.1 hf.2.2.2]
def nEn (x : En) : En := ⟨x.id, pl x.ev⟩
theorem rtEn (x : En) (hf : C6 x) (hx : CW x = false) (t : List UInt8) : qJ ⟨uR x ++ t, false, false⟩ = (nEn x, ⟨t, false, false⟩) := by
 unfold C6 at hf
 unfold CW at hx
 unfold qJ uR
 rw [List.append_assoc, vV 4294967295 x.id (by omega) hf.1]
 dsimp only
 rw [rtEv x.ev hf.2 hx]
 dsimp only
 rw [jx hf.1.1 (by have := hf.1.2; omega)]
 rfl
def nUs (u : Us) : Us := ⟨u.id, u.se, u.ver, u.evs.map nEn⟩
theorem rtUs (u : Us) (hf : AU u) (hx : tp u = false) (t : List UInt8) : lK ⟨nP u ++ t, false, false⟩ = (nUs u, ⟨t, false, false⟩) := by
 unfold AU at hf
 unfold tp at hx
 simp only [Bool.or_eq_false_iff] at hx
 unfold lK nP
 simp only [List.append_assoc]
 rw [vV 4294967295 u.id (by omega) hf.1]
 try dsimp only
 rw [rtSe u.se hf.2.1 hx.1]
 try dsimp only
 rw [vV 18446744073709551615 u.ver (by omega) hf.2.2.1]
 try dsimp only
 rw [x0 64 u.evs (by omega) hx.2 hf.2.2.2 rtEn]
 try dsimp only
 rw [jx hf.1.1 (by have := hf.1.2; omega), jx hf.2.2.1.1 hf.2.2.1.2]
 rfl
def wD (s : Sq) : Sq := ⟨s.t, s.us.map nUs, s.ps, s.ds⟩
theorem rtSq (s : Sq) (hf : yu s) (hx : C3 s = false) (t : List UInt8) : sb ⟨rj s ++ t, false, false⟩ = (wD s, ⟨t, false, false⟩) := by
 unfold yu at hf
 unfold C3 at hx
 simp only [Bool.or_eq_false_iff] at hx
 unfold sb rj
 simp only [List.append_assoc]
 rw [vW s.t hf.1]
 try dsimp only
 rw [x0 100 s.us (by omega) hx.1 hf.2.1 rtUs]
 try dsimp only
 rw [jY 50 s.ps (by omega) hx.2.1 hf.2.2.1 rtPo]
 try dsimp only
 rw [jY 4096 s.ds (by omega) hx.2.2 hf.2.2.2 rtDn]
 try dsimp only
 rfl
def iQ.sq (s : iQ) : Sq := ⟨s.t, s.us, s.ps, s.ds.map fun d => (d.c, d.n, d.v)⟩
def Sq.sta (s : Sq) : iQ := ⟨s.t, s.us, s.ps, s.ds.map fun d => ⟨d.1, d.2.1, d.2.2⟩⟩
theorem iQ.sq_cells (s : iQ) : s.sq.cells = s.cells := by
 unfold iQ.sq Sq.cells iQ.cells nF hH
 simp only [List.map_map]
 rfl
theorem Sq.sta_cells (s : Sq) : s.sta.cells = s.cells := by
 unfold Sq.sta Sq.cells iQ.cells nF hH
 simp only [List.map_map]
 rfl
theorem ze {u : Us} (h : u.fit) : (nUs u).fit := by
 obtain ⟨h1, h2, h3⟩ := h
 refine ⟨h1, by simpa [nUs] using h2, fun e he => ?_⟩
 simp only [nUs, List.mem_map] at he
 obtain ⟨e', he', rfl⟩ := he
 exact zm (h3 e' he')
theorem xu {s : iQ} (h : s.fits) : (wD s.sq).sta.fits := by
 obtain ⟨h1, h2, h3, h4, h5⟩ := h
 refine ⟨by simpa [wD, iQ.sq, Sq.sta] using h1, h2, by simpa [wD, iQ.sq, Sq.sta] using h3, fun u hu => ?_, h5⟩
 simp only [wD, iQ.sq, Sq.sta, List.mem_map] at hu
 obtain ⟨u', hu', rfl⟩ := hu
 exact ze (h4 u' hu')
def vB (q : Sq × Rs) (b : List UInt8) : Bool := !q.2.cb && (!q.2.rb && q.2.l.isEmpty) && decide (b.length ≤ 1048576)
def Sz : Sq := ⟨0, [], [], []⟩
def oB (b : List UInt8) : D := .tup [.agg (if vB (sb ⟨b, false, false⟩) b = true then (sb ⟨b, false, false⟩).1.cells else Sz.cells), .bool (vB (sb ⟨b, false, false⟩) b)]
theorem su : type_of% (an @Wr.eq_1 (an @co (an @ab (an @ac (an @ae (an @dc (an @gD (an @gz (an @gy @ai))))))))) := (an @Wr.eq_1 (an @co (an @ab (an @ac (an @ae (an @dc (an @gD (an @gz (an @gy @ai)))))))))
theorem o5 (b : List UInt8) (hl : b.length ≤ 1099511627776) : aA Tryz.prog 30 [.list none false (r8 b)] (oB b) := by
 refine bl Tryz.func30 low30 (by simp [c30]) ?_
 unfold oB
 have ha : aa Tryz.prog 56 [.ptr 0 0 0 1, .ptr 2 0 0 1] [Cr 1 false, Rd b false, Va 4 [.int .i64 0, .list (some true) true [], .list (some true) true [], .list (some true) true []]] (.tup []) [Cr 1 (sb ⟨b, false, false⟩).2.cb, Rd (sb ⟨b, false, false⟩).2.l (sb ⟨b, false, false⟩).2.rb, Va 4 (sb ⟨b, false, false⟩).1.cells] := cSq_r ⟨b, false, false⟩ 4 [.int .i64 0, .list (some true) true [], .list (some true) true [], .list (some true) true []] 0 rfl rfl rfl rfl (by omega) hl
 have hn := sI none false b hl
 generalize sb ⟨b, false, false⟩ = q at ha ⊢
 obtain ⟨v, s⟩ := q
 dsimp only at ha ⊢
 have hr := CM 1048576 b s.l s.rb s.cb hl (by omega)
 have hg : vB (v, s) b = (!s.cb && (!s.rb && s.l.isEmpty) && decide (b.length ≤ 1048576)) := rfl
 rw [← hg] at hr
 generalize vB (v, s) b = ok at hr ⊢
 clear hg
 simp only [c30]
 simp only [Sq.cells] at ha ⊢
 cases ok
 ·simp only [Bool.false_eq_true, reduceIte, Sz, dA, fF, nF, List.map_nil]
  exact dz [59, 56, 60] [] su
 ·simp only [reduceIte]
  exact dz [59, 56, 60] [] su
def wx (a : Sq) : Bool := !C3 a && decide ((rj a).length ≤ 1048576)
def pp (s : iQ) : Bool := wx s.sq && decide ((wD s.sq).sta = s)
def rB (s : iQ) : D := if pp s = true then .tup [.list none false (r8 (rj s.sq)), .bool true] else .tup [.list none false [], .bool false]
theorem nT {a : Sq} (hf : yu a) (h : wx a = true) : oB (rj a) = .tup [.agg (wD a).cells, .bool true] := by
 unfold wx at h
 simp only [Bool.and_eq_true, Bool.not_eq_true', decide_eq_true_eq] at h
 have e := rtSq a hf h.1 []
 rw [List.append_nil] at e
 have g : vB (wD a, ⟨[], false, false⟩) (rj a) = true := by unfold vB; simp [h.2]
 unfold oB
 rw [e, g]
 rfl
set_option maxHeartbeats 4000000 in
theorem tZ (s : iQ) (hf : yu s.sq) (hfit : s.fits) (hl : (rj s.sq).length ≤ 1099511627776) : aA Tryz.prog 29 [.agg s.cells] (rB s) := by
 refine bl Tryz.func29 low29 (by simp [c29]) ?_
 simp only [c29]
 have h1 := sJ
 have h2 := cSq_w [] false 4 s.sq.cells 0 s.sq rfl rfl rfl rfl hf (by simpa using hl)
 simp only [List.nil_append, Bool.false_or, List.length_nil] at h2
 have h3 := wA 1048576 (rj s.sq) (C3 s.sq) hl (by omega) (wx s.sq) rfl
 have h4 := o5 (rj s.sq) hl
 have h5 := xV (wD s.sq).sta s (xu hfit) hfit
 unfold rB pp
 rw [Sq.sta_cells] at h5
 rw [iQ.sq_cells] at h2
 cases hw : wx s.sq
 ·rw [hw] at h3
  simp only [Bool.false_eq_true, reduceIte, Bool.false_and] at h3 ⊢
  clear h4 h5
  unfold iQ.cells at h2 ⊢
  exact dz [55, 56, 57] [] su
 ·rw [hw] at h3
  rw [nT hf hw] at h4
  simp only [reduceIte, Bool.true_and] at h3 ⊢
  generalize hd : decide ((wD s.sq).sta = s) = d at h5 ⊢
  generalize wD s.sq = x at h4 h5
  unfold iQ.cells at h2 h5 ⊢
  unfold Sq.cells at h4 h5
  clear hd
  cases d
  ·simp only [Bool.false_eq_true, reduceIte]
   exact dz [55, 56, 57] [] su
  ·simp only [reduceIte]
   exact dz [55, 56, 57] [] su
end Go.Proofs.YtapennlmboabeaaGreat

namespace Go.Proofs.YtapennlmboabeaaGreat
open Go Go.Vi
theorem lR (x : Int) : (ez (uI x)).length ≤ 10 := ki (md x)
theorem tq {x : Int} (h : iY x) : (ez (zz x)).length ≤ 10 := ki (qU h.1 h.2)
theorem fm30 {α : Type} {e : α → List UInt8} : ∀ (l : List α), (∀ y ∈ l, (e y).length ≤ 30) → (l.flatMap e).length ≤ 30 * l.length
 | [], _ => by simp
 | y :: l, h => by
  have h1 := fm30 l fun z hz => h z (List.mem_cons_of_mem _ hz)
  have h2 := h y List.mem_cons_self
  rw [List.flatMap_cons, List.length_append, List.length_cons]
  omega
theorem jG {α : Type} {e : α → List UInt8} {f : α → Prop} (he : ∀ y, f y → (e y).length ≤ 30) (l : List α) (n : Nat) (hn : l.length ≤ n) (h8 : n ≤ 1000) (h : ∀ y ∈ l, f y) : (cZ e l).length ≤ 10 + 30 * n := by
 unfold cZ
 have h1 := fm30 (e := e) l fun y hy => he y (h y hy)
 have h2 := ki (n := l.length) (by omega)
 rw [List.length_append]
 omega
theorem lenTu (x : Int × Int) (h : Cl x) : (u1 x).length ≤ 30 := by
 have h1 := tq h.1; have h2 := tq h.2
 simp only [u1, List.length_append]; omega
theorem AX (x : Int × Int × Int) (h : Ch x) : (uX x).length ≤ 30 := by
 have h1 := lR x.1; have h2 := lR x.2.1; have h3 := lR x.2.2
 simp only [uX, List.length_append]; omega
theorem lenOf (x : Int) (h : Cc x) : (uU x).length ≤ 30 := by
 have h1 := lR x
 simp only [uU]; omega
theorem xp (x : Int) (h : Ci x) : (uY x).length ≤ 30 := by
 have h1 := tq h
 simp only [uY]; omega
theorem lenDa (x : Int × Int) (h : B8 x) : (uQ x).length ≤ 30 := by
 have h1 := tq h.1; have h2 := lR x.2
 simp only [uQ, List.length_append]; omega
theorem lenEx (x : Int) (h : Ca x) : (uS x).length ≤ 30 := by
 have h1 := tq h
 simp only [uS]; omega
theorem lenPl (x : Int) (h : Ce x) : (uW x).length ≤ 30 := by
 have h1 := tq h
 simp only [uW]; omega
theorem lenCh (x : Int × Int × Int) (h : B7 x) : (uP x).length ≤ 30 := by
 have h1 := tq h.1; have h2 := tq h.2.1; have h3 := lR x.2.2
 simp only [uP, List.length_append]; omega
theorem lenMu (x : Int) (h : Cb x) : (uT x).length ≤ 30 := by
 have h1 := lR x
 simp only [uT]; omega
theorem lenWa (x : Int × Int) (h : Cn x) : (u3 x).length ≤ 30 := by
 have h1 := lR x.1; have h2 := lR x.2
 simp only [u3, List.length_append]; omega
theorem lenPa (x : Int × Int) (h : Cd x) : (uV x).length ≤ 30 := by
 have h1 := lR x.1; have h2 := lR x.2
 simp only [uV, List.length_append]; omega
theorem lenSe {s : Se} (h : Cg s) (g : s.great = false) : (wW s).length ≤ 100000 := by
 simp only [Se.great, Bool.or_eq_false_iff, decide_eq_false_iff_not] at g
 obtain ⟨⟨h1, h2, h3⟩, ⟨h4, h5⟩, ⟨h6, h7⟩, h8, h9⟩ := h
 have a1 := tq h1
 have a2 := jG lenTu s.turns 100 (by omega) (by omega) h3
 have a3 := jG AX s.shifts 30 (by omega) (by omega) h5
 have a4 := jG lenOf s.off 100 (by omega) (by omega) h7
 have a5 := lR s.before
 have a6 := lR s.after
 simp only [wW, yt, vu, List.length_append]
 omega
theorem lenRu {s : Ru} (h : Cf s) (g : s.bm.length ≤ 100 ∧ s.bmd.length ≤ 100 ∧ s.bd.length ≤ 200 ∧ s.bsp.length ≤ 500) : (wV s).length ≤ 100000 := by
 obtain ⟨h1, h2, h3, h4, ⟨h5, h6⟩, ⟨h7, h8⟩, ⟨h9, h10⟩, ⟨h11, h12⟩, h13⟩ := h
 have a1 := lR s.freq
 have a2 := lR s.interval
 have a3 := lR s.count
 have a4 := tq h4
 have a5 := jG xp s.bm 100 (by omega) (by omega) h6
 have a6 := jG xp s.bmd 100 (by omega) (by omega) h8
 have a7 := jG lenDa s.bd 200 (by omega) (by omega) h10
 have a8 := jG xp s.bsp 500 (by omega) (by omega) h12
 have a9 := lR s.start
 simp only [wV, uZ, List.length_append]
 omega
theorem lenEv {s : Ev} (h : fEv s) (g : s.great = false) : (wT s).length ≤ 200000 := by
 simp only [Ev.great, Bool.or_eq_false_iff, decide_eq_false_iff_not] at g
 obtain ⟨⟨h1, h2, _, _⟩, _, _, _, hr, ⟨h3, h4⟩, ⟨h5, h6⟩, h7, h8⟩ := h
 have a1 := tq h1
 have a2 := lR s.long
 have a3 := lenRu hr (by omega)
 have a4 := jG lenEx s.ex 80 (by omega) (by omega) h4
 have a5 := jG lenPl s.plus 80 (by omega) (by omega) h6
 have a6 := jG lenCh s.ch 80 (by omega) (by omega) h8
 unfold wT
 split
 ·simp only [AP, vA, List.length_append, List.length_cons, List.length_nil]
  omega
 ·simp only [AO, vA, List.length_append, List.length_cons, List.length_nil]
  omega
theorem lenQu {s : Qu} (h : AT s) (g : s.great = false) : (wU s).length ≤ 100000 := by
 simp only [Qu.great, Bool.or_eq_false_iff, decide_eq_false_iff_not] at g
 obtain ⟨h1, h2, h3, h4, ⟨h5, h6⟩, ⟨h7, h8⟩, h9, ⟨h10, h11⟩, h12, h13⟩ := h
 have a1 := tq h1
 have a2 := tq h2
 have a3 := lR s.long
 have a4 := lR s.grid
 have a5 := jG lenMu s.must 80 (by omega) (by omega) h6
 have a6 := jG lenWa s.may 40 (by omega) (by omega) h8
 have a7 := lR s.seats
 have a8 := jG lenPa s.apart 60 (by omega) (by omega) h11
 have a9 := jG AX s.prefer 30 (by omega) (by omega) h13
 simp only [wU, vu, List.length_append]
 omega
end Go.Proofs.YtapennlmboabeaaGreat

namespace Go.Proofs.YtapennlmboabeaaGreat
open Go Go.Vi
theorem jb {s : Sh} {ss : List Sh} {d : D} {r : List D} : bC (s :: ss) (d :: r) ↔ jH s d ∧ bC ss r := by
 simp only [bC]
 constructor
 ·rintro ⟨_, _, h, h1, h2⟩
  cases h
  exact ⟨h1, h2⟩
 ·rintro ⟨h1, h2⟩
  exact ⟨_, _, rfl, h1, h2⟩
theorem fC {k : IntKind} {n : Int} : jH (.int k) (.int k n) ↔ k.min ≤ n ∧ n ≤ k.max := by
 simp only [jH]
 constructor
 ·rintro ⟨_, h, h1⟩
  cases h
  exact h1
 ·intro h
  exact ⟨_, rfl, h⟩
theorem tP {α : Type} {f : α → List D} {b : Nat} {shs : List Sh} {l : List α} (hb : 0 < b) (h : jH (.slice b shs) (L (l.map f))) : l.length ≤ 140737488351232 ∧ ∀ x ∈ l, bC shs (f x) := by
 simp only [jH] at h
 obtain ⟨rows, e, hl, hr⟩ := h
 injection e with _ _ e
 subst e
 refine ⟨Nat.le_trans (Nat.le_mul_of_pos_right _ hb) (by simpa using hl), fun x hx => hr _ (List.mem_map_of_mem hx)⟩
theorem sE {k : IntKind} {b : Nat} {l : List Int} (hb : 0 < b) (h : jH (uq b k) (L (ar k l))) : l.length ≤ 140737488351232 ∧ ∀ x ∈ l, k.min ≤ x ∧ x ≤ k.max := by
 obtain ⟨h1, h2⟩ := tP hb h
 refine ⟨h1, fun x hx => ?_⟩
 have := h2 x hx
 rw [jb, fC] at this
 exact this.1
theorem xh {k m : IntKind} {b : Nat} {l : List (Int × Int)} (hb : 0 < b) (h : jH (A0 b k m) (L (bz k m l))) : l.length ≤ 140737488351232 ∧ ∀ x ∈ l, (k.min ≤ x.1 ∧ x.1 ≤ k.max) ∧ (m.min ≤ x.2 ∧ x.2 ≤ m.max) := by
 obtain ⟨h1, h2⟩ := tP hb h
 refine ⟨h1, fun x hx => ?_⟩
 have := h2 x hx
 rw [jb, jb, fC, fC] at this
 exact ⟨this.1, this.2.1⟩
theorem Ct {l : List (Int × Int × Int)} (h : jH C8 (L (ed l))) : l.length ≤ 140737488351232 ∧ ∀ x ∈ l, iY x.1 ∧ iY x.2.1 ∧ iY x.2.2 := by
 obtain ⟨h1, h2⟩ := tP (by decide) h
 refine ⟨h1, fun x hx => ?_⟩
 have := h2 x hx
 rw [jb, jb, jb, fC, fC, fC] at this
 exact ⟨this.1, this.2.1, this.2.2.1⟩
end Go.Proofs.YtapennlmboabeaaGreat

namespace Go.Proofs.YtapennlmboabeaaGreat
open Go Go.Vi
theorem fmK {α : Type} {e : α → List UInt8} (K : Nat) : ∀ (l : List α), (∀ y ∈ l, (e y).length ≤ K) → (l.flatMap e).length ≤ K * l.length
 | [], _ => by simp
 | y :: l, h => by
  have h1 := fmK K l fun z hz => h z (List.mem_cons_of_mem _ hz)
  have h2 := h y List.mem_cons_self
  rw [List.flatMap_cons, List.length_append, List.length_cons, Nat.mul_succ]
  omega
theorem zO {α : Type} {e : α → List UInt8} (K : Nat) (l : List α) (n : Nat) (hn : l.length ≤ n) (h8 : n ≤ 1000) (h : ∀ y ∈ l, (e y).length ≤ K) : (cZ e l).length ≤ 10 + K * n := by
 unfold cZ
 have h1 := fmK (e := e) K l h
 have h2 := ki (n := l.length) (by omega)
 have h3 : K * l.length ≤ K * n := Nat.mul_le_mul_left K hn
 rw [List.length_append]
 omega
theorem CA (x : Int) (h : Ck x) : (u0 x).length ≤ 30 := by
 have h1 := tq h
 simp only [u0]; omega
theorem CB (x : Int × Int) (h : Cm x) : (u2 x).length ≤ 30 := by
 have h1 := lR x.1; have h2 := lR x.2
 simp only [u2, List.length_append]; omega
theorem lenDn (x : Int × Int × Int) : (tI x).length ≤ 30 := by
 have h1 := lR x.1; have h2 := lR x.2.1; have h3 := lR x.2.2
 simp only [tI, List.length_append]; omega
theorem Cz {s : Po} (h : AS s) (g : s.great = false) : (nO s).length ≤ 200000 := by
 simp only [Po.great, Bool.or_eq_false_iff, decide_eq_false_iff_not] at g
 obtain ⟨h1, h2, h3, ⟨h4, h5⟩, ⟨h6, h7⟩, h8, h9, h10⟩ := h
 have a1 := lR s.id
 have a2 := lR s.owner
 have a3 := lenQu h3 g.1.1
 have a4 := jG CA s.slots 80 (by omega) (by omega) h5
 have a5 := jG CB s.votes 300 (by omega) (by omega) h7
 have a6 := tq h8
 have a7 := lR s.state
 have a8 := lR s.winner
 simp only [nO, List.length_append]
 omega
theorem lenUs {u : Us} (h : AU u) (g : u.great = false) : (nP u).length ≤ 3000000 := by
 simp only [Us.great, Bool.or_eq_false_iff, decide_eq_false_iff_not, List.any_eq_false] at g
 obtain ⟨⟨g1, g2⟩, g3⟩ := g
 have a1 := lR u.id
 have a2 := lenSe h.2.1 g1
 have a3 := lR u.ver
 have a4 := zO (e := uR) 200010 u.evs 10 (by omega) (by omega) (fun e he => by
  have hf := h.2.2.2.2 e he
  have b1 := lR e.id
  have b2 := lenEv hf.2 (by simpa using g3 e he)
  unfold uR
  rw [List.length_append]
  omega)
 simp only [nP, List.length_append]
 omega
theorem lenSq {s : iQ} (h : yu s.sq) (g : hJ s.us s.ps s.ds = false) : (rj s.sq).length ≤ 100000000 := by
 simp only [hJ, Bool.or_eq_false_iff, decide_eq_false_iff_not, List.any_eq_false] at g
 obtain ⟨⟨⟨⟨g1, g2⟩, g3⟩, g4⟩, g5⟩ := g
 have a1 := tq h.1
 have a2 := zO (e := nP) 3000000 s.us 12 (by omega) (by omega) (fun u hu => lenUs (h.2.1.2 u hu) (by simpa using g4 u hu))
 have a3 := zO (e := nO) 200000 s.ps 8 (by omega) (by omega) (fun p hp => Cz (h.2.2.1.2 p hp) (by simpa using g5 p hp))
 have a4 := zO (e := tI) 30 s.sq.ds 100 (by simp [iQ.sq]; omega) (by omega) (fun d _ => lenDn d)
 simp only [rj, List.length_append]
 have e1 : s.sq.us = s.us := rfl
 have e2 : s.sq.ps = s.ps := rfl
 have e3 : s.sq.t = s.t := rfl
 rw [e1, e2]
 omega
set_option maxRecDepth 100000 in
theorem rngEn (e : En) (h : bC yf e.row) : C6 e := by
 simp only [yf, En.row, jb] at h
 obtain ⟨h0, e1, e2, e3, e4, e5, e6, e7, e8, e9, e10, e11, e12, e13, e14, e15, e16, _⟩ := h
 have d8 : 0 < 8 := by decide
 have d16 : 0 < 16 := by decide
 have hru : Cf e.ev.rule := ⟨fC.1 e5, fC.1 e6, fC.1 e7, fC.1 e8, sE d8 e9, sE d8 e10, xh d16 e11, sE d8 e12, fC.1 e13⟩
 exact ⟨fC.1 h0, ⟨fC.1 e1, fC.1 e2, trivial, trivial⟩, fC.1 e1, fC.1 e2, trivial, hru, sE d8 e14, sE d8 e15, Ct e16⟩
set_option maxRecDepth 100000 in
theorem rngUs (u : Us) (h : bC yi u.row) : AU u := by
 simp only [yi, Us.row, jb] at h
 obtain ⟨h0, s1, s2, s3, s4, s5, s6, h7, h8, _⟩ := h
 have d8 : 0 < 8 := by decide
 have d16 : 0 < 16 := by decide
 obtain ⟨g1, g2⟩ := tP (f := En.row) (l := u.evs) (by decide) h8
 exact ⟨fC.1 h0, ⟨⟨fC.1 s1, xh d16 s2⟩, Ct s3, sE d8 s4, fC.1 s5, fC.1 s6⟩, fC.1 h7, g1, fun e he => rngEn e (g2 e he)⟩
set_option maxRecDepth 100000 in
theorem rngPo (p : Po) (h : bC yg p.row) : AS p := by
 simp only [yg, Po.row, jb] at h
 obtain ⟨p0, p1, q0, q1, q2, q3, q4, q5, q6, q7, q8, p2, p3, p4, p5, p6, _⟩ := h
 have d8 : 0 < 8 := by decide
 have d16 : 0 < 16 := by decide
 have d4 : 0 < 4 := by decide
 have hqu : AT p.qu := ⟨fC.1 q0, fC.1 q1, fC.1 q2, fC.1 q3, sE d4 q4, xh d16 q5, fC.1 q6, xh d8 q7, Ct q8⟩
 exact ⟨fC.1 p0, fC.1 p1, hqu, sE d8 p2, xh d16 p3, fC.1 p4, fC.1 p5, fC.1 p6⟩
theorem rngDn (d : Dn) (h : bC ye d.row) : B9 (d.c, d.n, d.v) := by
 simp only [ye, Dn.row, jb] at h
 obtain ⟨h0, h1, h2, _⟩ := h
 exact ⟨fC.1 h0, fC.1 h1, fC.1 h2⟩
theorem rngSt (s : iQ) (h : bC yh s.cells) : yu s.sq := by
 simp only [yh, iQ.cells, jb] at h
 obtain ⟨h0, h1, h2, h3, _⟩ := h
 obtain ⟨a1, a2⟩ := tP (f := Us.row) (l := s.us) (by decide) h1
 obtain ⟨b1, b2⟩ := tP (f := Po.row) (l := s.ps) (by decide) h2
 obtain ⟨c1, c2⟩ := tP (f := Dn.row) (l := s.ds) (by decide) h3
 refine ⟨fC.1 h0, ⟨a1, fun u hu => rngUs u (a2 u hu)⟩, ⟨b1, fun p hp => rngPo p (b2 p hp)⟩, by simpa [iQ.sq] using c1, fun x hx => ?_⟩
 simp only [iQ.sq, List.mem_map] at hx
 obtain ⟨d, hd, rfl⟩ := hx
 exact rngDn d (c2 d hd)
end Go.Proofs.YtapennlmboabeaaGreat
