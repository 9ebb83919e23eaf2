import Derived.Test.YtapennlmboabeaaGreatYK
import Derived.Test.YtapennlmboabeaaGreatVi33
import Derived.Test.YtapennlmboabeaaGreatVi32
set_option linter.unusedVariables false
set_option linter.unusedSimpArgs false
set_option linter.unnecessarySimpa false
namespace Go.Proofs.YtapennlmboabeaaGreat
open Go Go.Vi
theorem gD {l : List En} : (bA l).length = l.length := by simp [bA]
theorem gz {l : List Us} : (dA l).length = l.length := by simp [dA]
theorem gy {l : List Po} : (fF l).length = l.length := by simp [fF]
theorem sQ {l : List En} {i : Nat} {x : En} (h : l[i]? = some x) : (bA l)[i]? = some x.row := by simp [bA, h]
theorem pC {l : List Us} {i : Nat} {x : Us} (h : l[i]? = some x) : (dA l)[i]? = some x.row := by simp [dA, h]
theorem pB {l : List Po} {i : Nat} {x : Po} (h : l[i]? = some x) : (fF l)[i]? = some x.row := by simp [fF, h]
def uR (x : En) : List UInt8 := ez (uI x.id) ++ wT x.ev
def CW (x : En) : Bool := C9 x.ev
def C6 (x : En) : Prop := (0 ≤ x.id ∧ x.id ≤ 4294967295) ∧ fEv x.ev
theorem jj : type_of% (an @Wr.eq_1 (an @co (an @ab (an @ac (an @ae (an @dc (an @gD (an @gz @gy)))))))) := (an @Wr.eq_1 (an @co (an @ab (an @ac (an @ae (an @dc (an @gD (an @gz @gy))))))))
theorem BI (l : List UInt8) (bad : Bool) (x : En) (hx : C6 x) (hl : (l ++ uR x).length ≤ 1099511627776) :
  aa Tryz.prog 124 [.ptr 0 0 0 1, .ptr 1 0 0 1] [Va 17 x.row, Bx 2, Cw 3 bad, Ww 4 l.length, bw true 1 true (r8 l)] (.tup [])
   [Va 17 x.row, Bx 2, Cw 3 (bad || CW x), Ww 4 (l ++ uR x).length, bw true 1 true (r8 (l ++ uR x))] := by
 refine aP Tryz.func124 low124 (by simp [c124]) ?_
 simp only [c124]
 obtain ⟨l1, e1⟩ : ∃ l1, l1 = l ++ ez (uI x.id) := ⟨_, rfl⟩
 obtain ⟨l2, e2⟩ : ∃ l2, l2 = l1 ++ wT x.ev := ⟨_, rfl⟩
 obtain ⟨b2, d2⟩ : ∃ b2, b2 = (bad || C9 x.ev) := ⟨_, rfl⟩
 have el : l ++ uR x = l2 := by rw [e2, e1]; simp only [uR, List.append_assoc]
 have eb : (bad || CW x) = b2 := by rw [d2]; rfl
 rw [el] at hl
 rw [el, eb]
 have g1 : l1.length ≤ l2.length := by rw [e2, List.length_append]; omega
 have g0 : l.length ≤ l1.length := by rw [e1, List.length_append]; omega
 have h1 := kg l bad 17 x.row 0 x.id rfl hx.1 (by omega)
 rw [← e1] at h1
 have h2 := cEv_w l1 bad 17 x.row 1 x.ev rfl rfl rfl rfl rfl rfl rfl rfl rfl rfl rfl rfl rfl rfl rfl rfl hx.2 (by rw [← e2]; omega)
 rw [← e2, ← d2] at h2
 clear e1 e2 d2 el eb
 generalize x.row = R at *
 refine wk [94, 125] [] jj ?_
 exact fH [0, 1, 2, 3, 4] jj
theorem zL (l : List UInt8) (bad : Bool) (sz : Nat) (R : List D) (j most : Nat) (xs : List En) (hR : R[j]? = some (L (bA xs))) (hm : most < 9223372036854775808) (hxl : xs.length ≤ 140737488351232) (hx : ∀ x ∈ xs, C6 x) (hl : (l ++ cZ uR xs).length ≤ 1099511627776) :
  aa Tryz.prog 123 [.ptr 0 0 0 1, .ptr 3 0 j 1, .int .i64 most, .fn 124 [.ptr 4 0 0 1]] [Cw 1 bad, Ww 2 l.length, bw true 1 true (r8 l), Va sz R, Bx 0] (.tup [])
   [Cw 1 (bad || fO CW most xs), Ww 2 (l ++ cZ uR xs).length, bw true 1 true (r8 (l ++ cZ uR xs)), Va sz R, Bx 0] :=
 kJ (rw_ := En.row) Tryz.func123 low123 (by decide) (by decide) rfl (fun _ => rfl) rfl rfl (fun _ => rfl) (fun _ => rfl) (fun _ => rfl) (fun l bad a => BI l bad a) l bad sz R j most xs hR hm hxl hx hl
def nP (u : Us) : List UInt8 := ez (uI u.id) ++ (wW u.se ++ (ez (uI u.ver) ++ (cZ uR u.evs)))
def tp (u : Us) : Bool := CZ u.se || (fO CW 64 u.evs)
def AU (u : Us) : Prop := (0 ≤ u.id ∧ u.id ≤ 4294967295) ∧ (Cg u.se ∧ ((0 ≤ u.ver ∧ u.ver ≤ 18446744073709551615) ∧ ((u.evs.length ≤ 140737488351232 ∧ ∀ x ∈ u.evs, C6 x))))
set_option maxHeartbeats 2000000 in
theorem cUs_w (l : List UInt8) (bad : Bool) (sz : Nat) (R : List D) (j : Nat) (u : Us)  (hR0 : R[j]? = some (.int .u32 u.id)) (hR1 : R[j + 1]? = some (.int .i64 u.se.base)) (hR2 : R[j + 2]? = some (L (bz .i64 .i64 u.se.turns))) (hR3 : R[j + 3]? = some (L (ed u.se.shifts))) (hR4 : R[j + 4]? = some (L (ar .i64 u.se.off))) (hR5 : R[j + 5]? = some (.int .i64 u.se.before)) (hR6 : R[j + 6]? = some (.int .i64 u.se.after)) (hR7 : R[j + 7]? = some (.int .u64 u.ver)) (hR8 : R[j + 8]? = some (L (bA u.evs))) (hf : AU u) (hl : (l ++ nP u).length ≤ 1099511627776) :
  aa Tryz.prog 89 [.ptr 0 0 0 1, .ptr 3 0 j 1] [Cw 1 bad, Ww 2 l.length, bw true 1 true (r8 l), Va sz R] (.tup [])
   [Cw 1 (bad || tp u), Ww 2 (l ++ nP u).length, bw true 1 true (r8 (l ++ nP u)), Va sz R] := by
 refine aP Tryz.func89 low89 (by simp [c89]) ?_
 simp only [c89]
 unfold AU at hf
 obtain ⟨l1, e1⟩ : ∃ l1, l1 = l ++ ez (uI u.id) := ⟨_, rfl⟩
 obtain ⟨l2, e2⟩ : ∃ l2, l2 = l1 ++ wW u.se := ⟨_, rfl⟩
 obtain ⟨b2, d2⟩ : ∃ b2, b2 = (bad || CZ u.se) := ⟨_, rfl⟩
 obtain ⟨l3, e3⟩ : ∃ l3, l3 = l2 ++ ez (uI u.ver) := ⟨_, rfl⟩
 obtain ⟨l4, e4⟩ : ∃ l4, l4 = l3 ++ cZ uR u.evs := ⟨_, rfl⟩
 obtain ⟨b4, d4⟩ : ∃ b4, b4 = (b2 || fO CW 64 u.evs) := ⟨_, rfl⟩
 have el : l ++ nP u = l4 := by rw [e4, e3, e2, e1]; simp only [nP, List.append_assoc]
 have eb : (bad || tp u) = b4 := by rw [d4, d2]; simp only [tp, Bool.or_assoc]
 rw [el] at hl
 rw [el, eb]
 have g3 : l3.length ≤ l4.length := by rw [e4, List.length_append]; omega
 have g2 : l2.length ≤ l3.length := by rw [e3, List.length_append]; omega
 have g1 : l1.length ≤ l2.length := by rw [e2, List.length_append]; omega
 have g0 : l.length ≤ l1.length := by rw [e1, List.length_append]; omega
 have h1 := kg l bad sz R j u.id hR0 hf.1 (by omega)
 rw [← e1] at h1
 have h2 := cSe_w l1 bad sz R (j + 1) u.se hR1 hR2 hR3 hR4 hR5 hR6 hf.2.1 (by rw [← e2]; omega)
 rw [← e2, ← d2] at h2
 have h3 := wO l2 b2 sz R (j + 7) u.ver hR7 hf.2.2.1 (by omega)
 rw [← e3] at h3
 have h4 := zL l3 b2 sz R (j + 8) 64 u.evs hR8 (by omega) hf.2.2.2.1 hf.2.2.2.2 (by rw [← e4]; omega)
 rw [← e4, ← d4] at h4
 clear e1 e2 e3 e4 d2 d4 el eb
 refine wk [94, 122, 95] [(123, [], [0, 1, 2, 3, 4])] jj ?_
 exact fH [0, 1, 2, 3] jj
set_option maxHeartbeats 4000000 in
theorem Aj (l : List UInt8) (bad : Bool) (sz : Nat) (R : List D) (j most : Nat) (xs : List Us) (hR : R[j]? = some (L (dA xs))) (hm : most < 9223372036854775808) (hxl : xs.length ≤ 140737488351232) (hx : ∀ x ∈ xs, AU x) (hl : (l ++ cZ nP xs).length ≤ 1099511627776) :
  aa Tryz.prog 88 [.ptr 0 0 0 1, .ptr 3 0 j 1, .int .i64 most, .fn 4185 [.ptr 0 0 0 1]] [Cw 1 bad, Ww 2 l.length, bw true 1 true (r8 l), Va sz R] (.tup [])
   [Cw 1 (bad || fO tp most xs), Ww 2 (l ++ cZ nP xs).length, bw true 1 true (r8 (l ++ cZ nP xs)), Va sz R] := by
 refine aP Tryz.func88 low88 (by simp [c88, iN]) ?_
 simp only [c88, iN]
 have ui : uI (xs.length : Int) = xs.length := by unfold uI; omega
 have hll : l.length ≤ 1099511627776 := by rw [List.length_append] at hl; omega
 have hn := pk l bad 1 [.int .u64 xs.length] 0 most xs.length rfl (by omega) (by omega) hll
 rw [ui] at hn
 obtain ⟨l0, e0⟩ : ∃ l0, l0 = l ++ ez xs.length := ⟨_, rfl⟩
 obtain ⟨b0, f0⟩ : ∃ b0, b0 = (bad || decide (most < xs.length)) := ⟨_, rfl⟩
 have el : l ++ cZ nP xs = l0 ++ xs.flatMap nP := by rw [e0]; simp [cZ]
 have eb : (bad || fO tp most xs) = (b0 || xs.any tp) := by rw [f0]; simp [fO, Bool.or_assoc]
 rw [el] at hl
 rw [el, eb]
 rw [← e0, ← f0] at hn
 clear el eb f0
 refine wk [95] [] (an jj hR) ?_
 refine av (ι := {i : Nat // i ≤ xs.length}) (fun i => ([(1, .ptr 3 0 j 1), (3, .fn 4185 [.ptr 0 0 0 1]), (29, .int .i64 xs.length), (30, .int .i64 i.1)], [Cw 1 (b0 || (xs.take i.1).any tp), Ww 2 (l0 ++ (xs.take i.1).flatMap nP).length, bw true 1 true (r8 (l0 ++ (xs.take i.1).flatMap nP)), Va sz R])) (fun i => xs.length - i.1) ⟨0, by omega⟩ ?_ ?_
 ·simp only [List.take_zero, List.flatMap_nil, List.any_nil, Bool.or_false, List.append_nil]
  exact fx [0, 1, 2, 3] jj
  skip
 rintro ⟨i, hi⟩ hk
 dsimp only at hk ⊢
 by_cases hlt : i < xs.length
 ·have c1 : ((i : Int) < (xs.length : Int)) = True := by simp; omega
  obtain ⟨x, hg⟩ : ∃ x, xs[i]? = some x := ⟨_, List.getElem?_eq_getElem hlt⟩
  have hr := pC hg
  have hxf := hx x (List.mem_of_getElem? hg)
  have hfm := oA nP hg
  have han := mF tp hg
  have hle := u7 nP xs (i + 1)
  obtain ⟨li, ei⟩ : ∃ li, li = l0 ++ (xs.take i).flatMap nP := ⟨_, rfl⟩
  obtain ⟨bi, fi⟩ : ∃ bi, bi = (b0 || (xs.take i).any tp) := ⟨_, rfl⟩
  have ej : l0 ++ (xs.take (i + 1)).flatMap nP = li ++ nP x := by rw [ei, hfm, List.append_assoc]
  have fj : (b0 || (xs.take (i + 1)).any tp) = (bi || tp x) := by rw [fi, han, Bool.or_assoc]
  have hlj : (li ++ nP x).length ≤ 1099511627776 := by rw [← ej]; simp only [List.length_append] at hl ⊢; omega
  have hw := cUs_w li bi 9 x.row 0 x rfl rfl rfl rfl rfl rfl rfl rfl rfl hxf hlj
  rw [← ei, ← fi]
  obtain ⟨lj, el⟩ : ∃ lj, lj = li ++ nP x := ⟨_, rfl⟩
  obtain ⟨bj, fl⟩ : ∃ bj, bj = (bi || tp x) := ⟨_, rfl⟩
  rw [← el, ← fl] at hw
  rw [← el] at ej
  rw [← fl] at fj
  have g2 : lj.length ≤ 1099511627776 := by rw [el]; exact hlj
  have g1 : li.length ≤ lj.length := by rw [el, List.length_append]; omega
  clear el fl ei fi
  unfold Us.row at hr hw
  refine wk [20039] [] (an jj (an hR (an c1 hr))) ?_
  refine hk ⟨i + 1, by omega⟩ _ _ (by dsimp only; omega) ?_
  dsimp only
  rw [ej, fj]
  exact fx [0, 1, 2, 3] jj
  skip
 ·have c1 : ((i : Int) < (xs.length : Int)) = False := by simp; omega
  obtain rfl : i = xs.length := by omega
  rw [List.take_length]
  refine wk [] [] (an jj c1) ?_
  exact fH [0, 1, 2, 3] jj
  skip
set_option maxHeartbeats 4000000 in
theorem zZ (l : List UInt8) (bad : Bool) (sz : Nat) (R : List D) (j most : Nat) (xs : List Po) (hR : R[j]? = some (L (fF xs))) (hm : most < 9223372036854775808) (hxl : xs.length ≤ 140737488351232) (hx : ∀ x ∈ xs, AS x) (hl : (l ++ cZ nO xs).length ≤ 1099511627776) :
  aa Tryz.prog 90 [.ptr 0 0 0 1, .ptr 3 0 j 1, .int .i64 most, .fn 4187 [.ptr 0 0 0 1]] [Cw 1 bad, Ww 2 l.length, bw true 1 true (r8 l), Va sz R] (.tup [])
   [Cw 1 (bad || fO tn most xs), Ww 2 (l ++ cZ nO xs).length, bw true 1 true (r8 (l ++ cZ nO xs)), Va sz R] := by
 refine aP Tryz.func90 low90 (by simp [c90, iN]) ?_
 simp only [c90, iN]
 have ui : uI (xs.length : Int) = xs.length := by unfold uI; omega
 have hll : l.length ≤ 1099511627776 := by rw [List.length_append] at hl; omega
 have hn := pk l bad 1 [.int .u64 xs.length] 0 most xs.length rfl (by omega) (by omega) hll
 rw [ui] at hn
 obtain ⟨l0, e0⟩ : ∃ l0, l0 = l ++ ez xs.length := ⟨_, rfl⟩
 obtain ⟨b0, f0⟩ : ∃ b0, b0 = (bad || decide (most < xs.length)) := ⟨_, rfl⟩
 have el : l ++ cZ nO xs = l0 ++ xs.flatMap nO := by rw [e0]; simp [cZ]
 have eb : (bad || fO tn most xs) = (b0 || xs.any tn) := by rw [f0]; simp [fO, Bool.or_assoc]
 rw [el] at hl
 rw [el, eb]
 rw [← e0, ← f0] at hn
 clear el eb f0
 refine wk [95] [] (an jj hR) ?_
 refine av (ι := {i : Nat // i ≤ xs.length}) (fun i => ([(1, .ptr 3 0 j 1), (3, .fn 4187 [.ptr 0 0 0 1]), (29, .int .i64 xs.length), (30, .int .i64 i.1)], [Cw 1 (b0 || (xs.take i.1).any tn), Ww 2 (l0 ++ (xs.take i.1).flatMap nO).length, bw true 1 true (r8 (l0 ++ (xs.take i.1).flatMap nO)), Va sz R])) (fun i => xs.length - i.1) ⟨0, by omega⟩ ?_ ?_
 ·simp only [List.take_zero, List.flatMap_nil, List.any_nil, Bool.or_false, List.append_nil]
  exact fx [0, 1, 2, 3] jj
  skip
 rintro ⟨i, hi⟩ hk
 dsimp only at hk ⊢
 by_cases hlt : i < xs.length
 ·have c1 : ((i : Int) < (xs.length : Int)) = True := by simp; omega
  obtain ⟨x, hg⟩ : ∃ x, xs[i]? = some x := ⟨_, List.getElem?_eq_getElem hlt⟩
  have hr := pB hg
  have hxf := hx x (List.mem_of_getElem? hg)
  have hfm := oA nO hg
  have han := mF tn hg
  have hle := u7 nO xs (i + 1)
  obtain ⟨li, ei⟩ : ∃ li, li = l0 ++ (xs.take i).flatMap nO := ⟨_, rfl⟩
  obtain ⟨bi, fi⟩ : ∃ bi, bi = (b0 || (xs.take i).any tn) := ⟨_, rfl⟩
  have ej : l0 ++ (xs.take (i + 1)).flatMap nO = li ++ nO x := by rw [ei, hfm, List.append_assoc]
  have fj : (b0 || (xs.take (i + 1)).any tn) = (bi || tn x) := by rw [fi, han, Bool.or_assoc]
  have hlj : (li ++ nO x).length ≤ 1099511627776 := by rw [← ej]; simp only [List.length_append] at hl ⊢; omega
  have hw := cPo_w li bi 16 x.row 0 x rfl rfl rfl rfl rfl rfl rfl rfl rfl rfl rfl rfl rfl rfl rfl rfl hxf hlj
  rw [← ei, ← fi]
  obtain ⟨lj, el⟩ : ∃ lj, lj = li ++ nO x := ⟨_, rfl⟩
  obtain ⟨bj, fl⟩ : ∃ bj, bj = (bi || tn x) := ⟨_, rfl⟩
  rw [← el, ← fl] at hw
  rw [← el] at ej
  rw [← fl] at fj
  have g2 : lj.length ≤ 1099511627776 := by rw [el]; exact hlj
  have g1 : li.length ≤ lj.length := by rw [el, List.length_append]; omega
  clear el fl ei fi
  unfold Po.row at hr hw
  refine wk [20039] [] (an jj (an hR (an c1 hr))) ?_
  refine hk ⟨i + 1, by omega⟩ _ _ (by dsimp only; omega) ?_
  dsimp only
  rw [ej, fj]
  exact fx [0, 1, 2, 3] jj
  skip
 ·have c1 : ((i : Int) < (xs.length : Int)) = False := by simp; omega
  obtain rfl : i = xs.length := by omega
  rw [List.take_length]
  refine wk [] [] (an jj c1) ?_
  exact fH [0, 1, 2, 3] jj
  skip
structure Sq where
 t : Int
 us : List Us
 ps : List Po
 ds : List (Int × Int × Int)
def Sq.cells (s : Sq) : List D := [.int .i64 s.t, L (dA s.us), L (fF s.ps), L (nF s.ds)]
def rj (s : Sq) : List UInt8 := ez (zz s.t) ++ (cZ nP s.us ++ (cZ nO s.ps ++ (cZ tI s.ds)))
def C3 (s : Sq) : Bool := fO tp 100 s.us || (fO tn 50 s.ps || (fO CV 4096 s.ds))
def yu (s : Sq) : Prop := iY s.t ∧ ((s.us.length ≤ 140737488351232 ∧ ∀ x ∈ s.us, AU x) ∧ ((s.ps.length ≤ 140737488351232 ∧ ∀ x ∈ s.ps, AS x) ∧ ((s.ds.length ≤ 140737488351232 ∧ ∀ x ∈ s.ds, B9 x))))
set_option maxHeartbeats 2000000 in
theorem cSq_w (l : List UInt8) (bad : Bool) (sz : Nat) (R : List D) (j : Nat) (s : Sq)  (hR0 : R[j]? = some (.int .i64 s.t)) (hR1 : R[j + 1]? = some (L (dA s.us))) (hR2 : R[j + 2]? = some (L (fF s.ps))) (hR3 : R[j + 3]? = some (L (nF s.ds))) (hf : yu s) (hl : (l ++ rj s).length ≤ 1099511627776) :
  aa Tryz.prog 56 [.ptr 0 0 0 1, .ptr 3 0 j 1] [Cw 1 bad, Ww 2 l.length, bw true 1 true (r8 l), Va sz R] (.tup [])
   [Cw 1 (bad || C3 s), Ww 2 (l ++ rj s).length, bw true 1 true (r8 (l ++ rj s)), Va sz R] := by
 refine aP Tryz.func56 low56 (by simp [c56]) ?_
 simp only [c56]
 unfold yu at hf
 obtain ⟨l1, e1⟩ : ∃ l1, l1 = l ++ ez (zz s.t) := ⟨_, rfl⟩
 obtain ⟨l2, e2⟩ : ∃ l2, l2 = l1 ++ cZ nP s.us := ⟨_, rfl⟩
 obtain ⟨b2, d2⟩ : ∃ b2, b2 = (bad || fO tp 100 s.us) := ⟨_, rfl⟩
 obtain ⟨l3, e3⟩ : ∃ l3, l3 = l2 ++ cZ nO s.ps := ⟨_, rfl⟩
 obtain ⟨b3, d3⟩ : ∃ b3, b3 = (b2 || fO tn 50 s.ps) := ⟨_, rfl⟩
 obtain ⟨l4, e4⟩ : ∃ l4, l4 = l3 ++ cZ tI s.ds := ⟨_, rfl⟩
 obtain ⟨b4, d4⟩ : ∃ b4, b4 = (b3 || fO CV 4096 s.ds) := ⟨_, rfl⟩
 have el : l ++ rj s = l4 := by rw [e4, e3, e2, e1]; simp only [rj, List.append_assoc]
 have eb : (bad || C3 s) = b4 := by rw [d4, d3, d2]; simp only [C3, Bool.or_assoc]
 rw [el] at hl
 rw [el, eb]
 have g3 : l3.length ≤ l4.length := by rw [e4, List.length_append]; omega
 have g2 : l2.length ≤ l3.length := by rw [e3, List.length_append]; omega
 have g1 : l1.length ≤ l2.length := by rw [e2, List.length_append]; omega
 have g0 : l.length ≤ l1.length := by rw [e1, List.length_append]; omega
 have h1 := gJ l bad sz R j s.t hR0 hf.1 (by omega)
 rw [← e1] at h1
 have h2 := Aj l1 bad sz R (j + 1) 100 s.us hR1 (by omega) hf.2.1.1 hf.2.1.2 (by rw [← e2]; omega)
 rw [← e2, ← d2] at h2
 have h3 := zZ l2 b2 sz R (j + 2) 50 s.ps hR2 (by omega) hf.2.2.1.1 hf.2.2.1.2 (by rw [← e3]; omega)
 rw [← e3, ← d3] at h3
 have h4 := zJ l3 b3 sz R (j + 3) 4096 s.ds hR3 (by omega) hf.2.2.2.1 hf.2.2.2.2 (by rw [← e4]; omega)
 rw [← e4, ← d4] at h4
 clear e1 e2 e3 e4 d2 d3 d4 el eb
 refine wk [87, 88, 90] [(92, [], [0, 1, 2, 3, 4])] jj ?_
 exact fH [0, 1, 2, 3] jj
end Go.Proofs.YtapennlmboabeaaGreat

namespace Go.Proofs.YtapennlmboabeaaGreat
open Go Go.Vi
def Z17 : List D := [.int .u32 0, .int .i64 0, .int .i64 0, .bool false, .bool false, .int .i64 0, .int .i64 0, .int .i64 0, .int .i64 0, .list (some true) true [], .list (some true) true [], .list (some true) true [], .list (some true) true [], .int .i64 0, .list (some true) true [], .list (some true) true [], .list (some true) true []]
def qJ (s : Rs) : En × Rs :=
 match bx 4294967295 s with
 | (v1, s1) =>
 match oj s1 with
 | (v2, s2) =>
 (⟨v1, v2⟩, s2)
theorem t4 (s : Rs) : (qJ s).2.l.length ≤ s.l.length := by
 unfold qJ
 have g1 := (br 4294967295 (by omega) s).1
 generalize bx 4294967295 s = q1 at g1 ⊢
 obtain ⟨v1, s1⟩ := q1
 dsimp only at g1 ⊢
 have g2 := xM s1
 generalize oj s1 = q2 at g2 ⊢
 obtain ⟨v2, s2⟩ := q2
 dsimp only at g2 ⊢
 omega
theorem ig : type_of% (an @Wr.eq_1 (an @co (an @ab (an @ac (an @ae (an @dc (an @gD (an @gz @gy)))))))) := (an @Wr.eq_1 (an @co (an @ab (an @ac (an @ae (an @dc (an @gD (an @gz @gy))))))))
set_option maxHeartbeats 8000000 in
theorem BH (s : Rs) (hl : s.l.length ≤ 1099511627776) :
  aa Tryz.prog 124 [.ptr 0 0 0 1, .ptr 1 0 0 1] [Va 17 Z17, Bx 2, Cr 3 s.cb, Rd s.l s.rb] (.tup [])
   [Va 17 (qJ s).1.row, Bx 2, Cr 3 (qJ s).2.cb, Rd (qJ s).2.l (qJ s).2.rb] := by
 unfold qJ
 obtain ⟨R, eR⟩ : ∃ R, R = Z17 := ⟨_, rfl⟩
 rw [← eR]
 have hN9 : R[9]? = some (.list (some true) true []) := by subst eR; rfl
 have hN10 : R[10]? = some (.list (some true) true []) := by subst eR; rfl
 have hN11 : R[11]? = some (.list (some true) true []) := by subst eR; rfl
 have hN12 : R[12]? = some (.list (some true) true []) := by subst eR; rfl
 have hN14 : R[14]? = some (.list (some true) true []) := by subst eR; rfl
 have hN15 : R[15]? = some (.list (some true) true []) := by subst eR; rfl
 have hN16 : R[16]? = some (.list (some true) true []) := by subst eR; rfl
 have z0 : R.length = 17 := by subst eR; rfl
 have g1 := (br 4294967295 (by omega) s).1
 have h1 : aa Tryz.prog 94 [.ptr 0 0 0 1, .ptr 2 0 0 1] [Cr 1 s.cb, Rd s.l s.rb, Va 17 R] (.tup []) [Cr 1 (bx 4294967295 s).2.cb, Rd (bx 4294967295 s).2.l (bx 4294967295 s).2.rb, Va 17 (R.set 0 (.int .u32 (((bx 4294967295 s).1 : Nat) : Int)))] := kf s.l s.rb s.cb 17 R 0 (by omega) (by omega) (by omega)
 generalize bx 4294967295 s = q1 at h1 g1 ⊢
 obtain ⟨v1, s1⟩ := q1
 dsimp only at h1 g1 ⊢
 obtain ⟨R1, e1⟩ : ∃ R1, R1 = R.set 0 (.int .u32 ((v1 : Nat) : Int)) := ⟨_, rfl⟩
 rw [← e1] at h1
 have z1 : R1.length = 17 := by rw [e1, List.length_set] <;> exact z0
 have k1 : ∀ x : Nat, x ≠ 0 → R1[x]? = R[x]? := fun x hx => by rw [e1, List.getElem?_set_ne (by omega)]
 have g2 := xM s1
 have h2 : aa Tryz.prog 125 [.ptr 0 0 0 1, .ptr 2 0 1 1] [Cr 1 s1.cb, Rd s1.l s1.rb, Va 17 R1] (.tup []) [Cr 1 (oj s1).2.cb, Rd (oj s1).2.l (oj s1).2.rb, Va 17 (evR R1 1 (oj s1).1)] := cEv_r s1 17 R1 1 (by rw [k1 _ (by omega)]; exact hN9) (by rw [k1 _ (by omega)]; exact hN10) (by rw [k1 _ (by omega)]; exact hN11) (by rw [k1 _ (by omega)]; exact hN12) (by rw [k1 _ (by omega)]; exact hN14) (by rw [k1 _ (by omega)]; exact hN15) (by rw [k1 _ (by omega)]; exact hN16) (by omega) (by omega) (by omega)
 have f := xL s1
 generalize oj s1 = q2 at h2 g2 f ⊢
 obtain ⟨v2, s2⟩ := q2
 dsimp only at h2 g2 f ⊢
 obtain ⟨R2, e2⟩ : ∃ R2, R2 = evR R1 1 v2 := ⟨_, rfl⟩
 rw [← e2] at h2
 have hm : R2.map pS = (⟨v1, v2⟩ : En).row := by
  rw [e2, e1, eR]
  obtain ⟨w1, w2, w3, w4, w5, w6, w7, w8⟩ := v2
  dsimp only at f
  rcases f with ⟨rfl, rfl⟩ | ⟨rfl, rfl, rfl, rfl, rfl⟩ <;> rfl
 have key : aa Tryz.prog 124 [.ptr 0 0 0 1, .ptr 1 0 0 1] [Va 17 R, Bx 2, Cr 3 s.cb, Rd s.l s.rb] (.tup []) [Va 17 R2, Bx 2, Cr 3 s2.cb, Rd s2.l s2.rb] := by
  clear hm f eR e1 e2 z0 z1 k1
  refine aP Tryz.func124 low124 (by simp [c124]) ?_
  simp only [c124]
  refine wk [94, 125] [] ig ?_
  exact fH [0, 1, 2, 3] ig
 exact key.nlO 0 _ rfl rfl rfl rfl hm
theorem zK (s : Rs) (sz : Nat) (R : List D) (j most : Nat) (hR : R[j]? = some (.list (some true) true [])) (hz : R.length = sz) (hm : most < 1000000) (hl : s.l.length ≤ 1099511627776) :
  aa Tryz.prog 123 [.ptr 0 0 0 1, .ptr 2 0 j 1, .int .i64 most, .fn 124 [.ptr 3 0 0 1]] [Cr 1 s.cb, Rd s.l s.rb, Va sz R, Bx 0] (.tup [])
   [Cr 1 (ap qJ most s).2.cb, Rd (ap qJ most s).2.l (ap qJ most s).2.rb, Va sz (R.set j (L (bA (ap qJ most s).1))), Bx 0] :=
 kI (rw_ := En.row) Tryz.func123 low123 (by decide) (by decide) (by decide) rfl (fun _ => rfl) rfl rfl (fun _ => rfl) (fun _ => rfl) (fun _ => rfl) t4 BH s sz R j most hR hz hm hl
def lK (s : Rs) : (Us) × Rs :=
 match bx 4294967295 s with
 | (v1, s1) =>
 match nZ s1 with
 | (v2, s2) =>
 match bx 18446744073709551615 s2 with
 | (v3, s3) =>
 match ap qJ 64 s3 with
 | (v4, s4) =>
  (⟨v1, v2, v3, v4⟩, s4)
theorem xR (s : Rs) : (lK s).2.l.length ≤ s.l.length := by
 unfold lK
 have g1 := (br 4294967295 (by omega) s).1
 generalize bx 4294967295 s = q1 at g1 ⊢
 obtain ⟨v1, s1⟩ := q1
 dsimp only at g1 ⊢
 have g2 := xQ s1
 generalize nZ s1 = q2 at g2 ⊢
 obtain ⟨v2, s2⟩ := q2
 dsimp only at g2 ⊢
 have g3 := (br 18446744073709551615 (by omega) s2).1
 generalize bx 18446744073709551615 s2 = q3 at g3 ⊢
 obtain ⟨v3, s3⟩ := q3
 dsimp only at g3 ⊢
 have g4 := eg t4 64 (by omega) s3
 generalize ap qJ 64 s3 = q4 at g4 ⊢
 obtain ⟨v4, s4⟩ := q4
 dsimp only at g4 ⊢
 omega
set_option maxHeartbeats 4000000 in
theorem cUs_r (s : Rs) (sz : Nat) (R : List D) (j : Nat) (hN2 : R[j + 2]? = some (.list (some true) true [])) (hN3 : R[j + 3]? = some (.list (some true) true [])) (hN4 : R[j + 4]? = some (.list (some true) true [])) (hN8 : R[j + 8]? = some (.list (some true) true [])) (hz : R.length = sz) (hj : j + 9 ≤ sz) (hl : s.l.length ≤ 1099511627776) :
  aa Tryz.prog 89 [.ptr 0 0 0 1, .ptr 2 0 j 1] [Cr 1 s.cb, Rd s.l s.rb, Va sz R] (.tup [])
   [Cr 1 (lK s).2.cb, Rd (lK s).2.l (lK s).2.rb, Va sz (hI R j [.int .u32 (lK s).1.id, .int .i64 (lK s).1.se.base, L (bz .i64 .i64 (lK s).1.se.turns), L (ed (lK s).1.se.shifts), L (ar .i64 (lK s).1.se.off), .int .i64 (lK s).1.se.before, .int .i64 (lK s).1.se.after, .int .u64 (lK s).1.ver, L (bA (lK s).1.evs)])] := by
 refine aP Tryz.func89 low89 (by simp [c89]) ?_
 simp only [c89]
 unfold lK
 have z0 := hz
 have k0 : ∀ x, j + 0 ≤ x → R[x]? = R[x]? := fun _ _ => rfl
 have g1 := (br 4294967295 (by omega) s).1
 have h1 : aa Tryz.prog 94 [.ptr 0 0 0 1, .ptr 2 0 j 1] [Cr 1 s.cb, Rd s.l s.rb, Va sz R] (.tup []) [Cr 1 (bx 4294967295 s).2.cb, Rd (bx 4294967295 s).2.l (bx 4294967295 s).2.rb, Va sz (R.set j (.int .u32 (((bx 4294967295 s).1 : Nat) : Int)))] := kf s.l s.rb s.cb sz R j (by omega) (by omega) (by omega)
 generalize bx 4294967295 s = q1 at h1 g1 ⊢
 obtain ⟨v1, s1⟩ := q1
 dsimp only at h1 g1 ⊢
 obtain ⟨R1, e1⟩ : ∃ R1, R1 = R.set j (.int .u32 ((v1 : Nat) : Int)) := ⟨_, rfl⟩
 rw [← e1] at h1
 have z1 : R1.length = sz := by rw [e1, List.length_set]; exact z0
 have k1 : ∀ x, j + 1 ≤ x → R1[x]? = R[x]? := fun x hx => by rw [e1, List.getElem?_set_ne (by omega)] <;> exact k0 x (by omega)
 have g2 := xQ s1
 have h2 : aa Tryz.prog 122 [.ptr 0 0 0 1, .ptr 2 0 (j + 1) 1] [Cr 1 s1.cb, Rd s1.l s1.rb, Va sz R1] (.tup []) [Cr 1 (nZ s1).2.cb, Rd (nZ s1).2.l (nZ s1).2.rb, Va sz (hI R1 (j + 1) [.int .i64 (nZ s1).1.base, L (bz .i64 .i64 (nZ s1).1.turns), L (ed (nZ s1).1.shifts), L (ar .i64 (nZ s1).1.off), .int .i64 (nZ s1).1.before, .int .i64 (nZ s1).1.after])] := cSe_r s1 sz R1 (j + 1) (by rw [k1 _ (by omega)]; exact hN2) (by rw [k1 _ (by omega)]; exact hN3) (by rw [k1 _ (by omega)]; exact hN4) (by omega) (by omega) (by omega)
 generalize nZ s1 = q2 at h2 g2 ⊢
 obtain ⟨v2, s2⟩ := q2
 dsimp only at h2 g2 ⊢
 obtain ⟨R2, e2⟩ : ∃ R2, R2 = hI R1 (j + 1) [.int .i64 v2.base, L (bz .i64 .i64 v2.turns), L (ed v2.shifts), L (ar .i64 v2.off), .int .i64 v2.before, .int .i64 v2.after] := ⟨_, rfl⟩
 rw [← e2] at h2
 have z2 : R2.length = sz := by rw [e2, iV]; exact z1
 have k2 : ∀ x, j + 7 ≤ x → R2[x]? = R[x]? := fun x hx => by rw [e2, iU _ _ _ _ (by simp only [List.length_cons, List.length_nil]; omega)] <;> exact k1 x (by omega)
 have g3 := (br 18446744073709551615 (by omega) s2).1
 have h3 : aa Tryz.prog 95 [.ptr 0 0 0 1, .ptr 2 0 (j + 7) 1, .int .u64 18446744073709551615] [Cr 1 s2.cb, Rd s2.l s2.rb, Va sz R2] (.tup []) [Cr 1 (bx 18446744073709551615 s2).2.cb, Rd (bx 18446744073709551615 s2).2.l (bx 18446744073709551615 s2).2.rb, Va sz (R2.set (j + 7) (.int .u64 (((bx 18446744073709551615 s2).1 : Nat) : Int)))] := ml s2.l s2.rb s2.cb sz R2 (j + 7) 18446744073709551615 (by omega) (by omega) (by omega) (by omega)
 generalize bx 18446744073709551615 s2 = q3 at h3 g3 ⊢
 obtain ⟨v3, s3⟩ := q3
 dsimp only at h3 g3 ⊢
 obtain ⟨R3, e3⟩ : ∃ R3, R3 = R2.set (j + 7) (.int .u64 ((v3 : Nat) : Int)) := ⟨_, rfl⟩
 rw [← e3] at h3
 have z3 : R3.length = sz := by rw [e3, List.length_set]; exact z2
 have k3 : ∀ x, j + 8 ≤ x → R3[x]? = R[x]? := fun x hx => by rw [e3, List.getElem?_set_ne (by omega)] <;> exact k2 x (by omega)
 have g4 := eg t4 64 (by omega) s3
 have h4 : aa Tryz.prog 123 [.ptr 0 0 0 1, .ptr 2 0 (j + 8) 1, .int .i64 64, .fn 124 [.ptr 3 0 0 1]] [Cr 1 s3.cb, Rd s3.l s3.rb, Va sz R3, Bx 0] (.tup []) [Cr 1 (ap qJ 64 s3).2.cb, Rd (ap qJ 64 s3).2.l (ap qJ 64 s3).2.rb, Va sz (R3.set (j + 8) (L (bA (ap qJ 64 s3).1))), Bx 0] := zK s3 sz R3 (j + 8) 64 (by rw [k3 _ (by omega)]; exact hN8) (by omega) (by omega) (by omega)
 generalize ap qJ 64 s3 = q4 at h4 g4 ⊢
 obtain ⟨v4, s4⟩ := q4
 dsimp only at h4 g4 ⊢
 obtain ⟨R4, e4⟩ : ∃ R4, R4 = R3.set (j + 8) (L (bA v4)) := ⟨_, rfl⟩
 rw [← e4] at h4
 have z4 : R4.length = sz := by rw [e4, List.length_set]; exact z3
 have k4 : ∀ x, j + 9 ≤ x → R4[x]? = R[x]? := fun x hx => by rw [e4, List.getElem?_set_ne (by omega)] <;> exact k3 x (by omega)
 have eR : hI R j [.int .u32 (⟨v1, v2, v3, v4⟩ : Us).id, .int .i64 (⟨v1, v2, v3, v4⟩ : Us).se.base, L (bz .i64 .i64 (⟨v1, v2, v3, v4⟩ : Us).se.turns), L (ed (⟨v1, v2, v3, v4⟩ : Us).se.shifts), L (ar .i64 (⟨v1, v2, v3, v4⟩ : Us).se.off), .int .i64 (⟨v1, v2, v3, v4⟩ : Us).se.before, .int .i64 (⟨v1, v2, v3, v4⟩ : Us).se.after, .int .u64 (⟨v1, v2, v3, v4⟩ : Us).ver, L (bA (⟨v1, v2, v3, v4⟩ : Us).evs)] = R4 := by rw [e4, e3, e2, e1] <;> rfl
 rw [eR]
 clear eR e1 e2 e3 e4 k0 k1 k2 k3 k4 z1 z2 z3 z4
 refine wk [94, 122, 95] [(123, [], [0, 1, 2, 3])] ig ?_
 exact fH [0, 1, 2] ig
set_option maxHeartbeats 16000000 in
theorem Ai (s : Rs) (sz : Nat) (R : List D) (j most : Nat) (hR : R[j]? = some (.list (some true) true [])) (hz : R.length = sz) (hm : most < 1000000) (hl : s.l.length ≤ 1099511627776) :
  aa Tryz.prog 88 [.ptr 0 0 0 1, .ptr 2 0 j 1, .int .i64 most, .fn 4185 [.ptr 0 0 0 1]] [Cr 1 s.cb, Rd s.l s.rb, Va sz R] (.tup [])
   [Cr 1 (ap lK most s).2.cb, Rd (ap lK most s).2.l (ap lK most s).2.rb, Va sz (R.set j (L (dA (ap lK most s).1)))] := by
 refine aP Tryz.func88 low88 (by simp [c88, iN]) ?_
 simp only [c88, iN]
 have hn : aa Tryz.prog 95 [.ptr 0 0 0 1, .ptr 2 0 0 1, .int .u64 most] [Cr 1 s.cb, Rd s.l s.rb, Va 1 [.int .u64 0]] (.tup []) [Cr 1 (bx most s).2.cb, Rd (bx most s).2.l (bx most s).2.rb, Va 1 [.int .u64 (bx most s).1]] := ml s.l s.rb s.cb 1 [.int .u64 0] 0 most rfl (by omega) (by omega) hl
 obtain ⟨X, hX⟩ : ∃ X, ap lK most s = X := ⟨_, rfl⟩
 rw [hX]
 unfold ap at hX
 obtain ⟨g1, g2⟩ := br most (by omega) s
 generalize bx most s = q at hn hX g1 g2
 obtain ⟨n, s0⟩ := q
 dsimp only at hn hX g1 g2
 have hj : j < R.length := (List.getElem?_eq_some_iff.1 hR).1
 have z0 : (((0 : Nat) : Int)) = 0 := rfl
 refine mE 2 rfl rfl fun hpt => ?_
 have hpt : ∀ x ∈ R, x.pt1 = true := fun x hx => hpt R (by simp) x hx
 have own1 : ∀ d : D, (R.set j d)[j]? = some d := fun d => by rw [List.getElem?_set_self hj]
 have own2 : ∀ d e : D, (R.set j d).take j ++ [e] ++ (R.set j d).drop (j + 1) = R.set j e := fun d e => by
  rw [p9 (by rw [List.length_set]; exact hj), List.set_set]
 have pl5 : ∀ (σ : List Ob) (k n : Nat), cV (cr true [0, 1, 2, 4] σ) (R.set j (.own 4 0 k n 9 none)) = some (R.set j (.own 3 0 k n 9 none)) := fun σ k n => jv hpt rfl
 have pl4 : ∀ (σ : List Ob) (k n : Nat), cV (cr true [0, 1, 2, 3] σ) (R.set j (.own 3 0 k n 9 none)) = some (R.set j (.own 3 0 k n 9 none)) := fun σ k n => jv hpt rfl
 have plL : ∀ (σ : List Ob) (rows : List (List D)), cV (cr true [0, 1, 2] σ) (R.set j (.list none false rows)) = some (R.set j (.list none false rows)) := fun σ rows => oF hpt rfl
 have allL : ∀ rows : List (List D), (R.set j (.list none false rows)).all D.pt1 = true := fun rows => ou hpt rfl
 have hz' : (j + 1 ≤ sz) = True := eq_true (by omega)
 refine wk [95] [] (an ig (an hR z0)) ?_
 refine gn (kU (l := 2) (j := 0) (i := j) (b := true) 9 true (by decide) rfl rfl rfl rfl hR) ?_
 refine av (ι := {p : Nat × Rs × List Us // iP lK p.1 p.2.1 p.2.2 = X ∧ p.2.2.length + p.1 = n ∧ p.2.1.l.length ≤ s0.l.length}) (fun p => ([(0, .ptr 0 0 0 1), (1, .ptr 2 0 j 1), (3, .fn 4185 [.ptr 0 0 0 1]), (42, .int .u64 n), (43, .int .u64 p.1.2.2.length)],
  [Cr 1 p.1.2.1.cb, Rd p.1.2.1.l p.1.2.1.rb, ⟨true, false, false, false, sz, [R.set j (.own 3 0 p.1.2.2.length p.1.2.2.length 9 none)], some 0⟩, bw true 9 true (dA p.1.2.2)])) (fun p => p.1.1) ⟨(n, s0, []), hX, by simp, Nat.le_refl _⟩ ?_ ?_
 ·simp only [List.length_nil, show dA [] = [] from rfl]
  exact fx [0, 1, 2, 4] (an ig pl5)
  skip
 rintro ⟨⟨k, s1, xs⟩, hk1, hk2, hk3⟩ hk
 dsimp only at hk1 hk2 hk3 hk ⊢
 have fin : ∀ (env : fy) (ys : List Us) (s2 : Rs) (ex : List Ob), lV [Cr 1 s.cb, Rd s.l s.rb, Va sz R] env (Cr 1 s2.cb :: Rd s2.l s2.rb :: ⟨true, false, false, false, sz, [R.set j (.own 3 0 ys.length ys.length 9 none)], some 0⟩ :: bw true 9 true (dA ys) :: ex) env
   (Cr 1 s2.cb :: Rd s2.l s2.rb :: ⟨true, false, false, false, sz, [R.set j (L (dA ys))], some 0⟩ :: { bw true 9 true (dA ys) with fz := true } :: ex) := fun env ys s2 ex => by
  refine lV.trans (kz 3) ?_
  have := lE (base := [Cr 1 s.cb, Rd s.l s.rb, Va sz R]) (env := env) (σ := Cr 1 s2.cb :: Rd s2.l s2.rb :: ⟨true, false, false, false, sz, [R.set j (.own 3 0 ys.length ys.length 9 none)], some 0⟩ :: { bw true 9 true (dA ys) with fz := true } :: ex) (l := 2) (j := 0) (i := j) (m := 3) (rows := dA ys) rfl rfl rfl rfl (own1 _) rfl rfl (by
   rw [ao]
   show pP (some _) _ _ _ = _
   rw [am]
   simp [aL, aK, gz, aM])
  simp only [List.set_cons_zero, List.set_cons_succ, List.set_set] at this
  exact this
 by_cases hlt : 0 < k
 ·obtain ⟨k, rfl⟩ : ∃ k', k = k' + 1 := ⟨k - 1, by omega⟩
  have c1 : (((xs.length : Nat) : Int) < ((n : Nat) : Int)) = True := by simp; omega
  have he : aa Tryz.prog 89 [.ptr 0 0 0 1, .ptr 2 0 0 1] [Cr 1 s1.cb, Rd s1.l s1.rb, Va 9 [.int .u32 0, .int .i64 0, .list (some true) true [], .list (some true) true [], .list (some true) true [], .int .i64 0, .int .i64 0, .int .u64 0, .list (some true) true []]] (.tup []) [Cr 1 (lK s1).2.cb, Rd (lK s1).2.l (lK s1).2.rb, Va 9 (lK s1).1.row] := cUs_r s1 9 [.int .u32 0, .int .i64 0, .list (some true) true [], .list (some true) true [], .list (some true) true [], .int .i64 0, .int .i64 0, .int .u64 0, .list (some true) true []] 0 rfl rfl rfl rfl rfl (by omega) (by omega)
  have hle := xR s1
  unfold iP at hk1
  generalize lK s1 = q at he hk1 hle
  obtain ⟨v, s2⟩ := q
  dsimp only at he hk1 hle
  have hcell : v.row = [.int .u32 v.id, .int .i64 v.se.base, L (bz .i64 .i64 v.se.turns), L (ed v.se.shifts), L (ar .i64 v.se.off), .int .i64 v.se.before, .int .i64 v.se.after, .int .u64 v.ver, L (bA v.evs)] := rfl
  rw [hcell] at he
  by_cases hb : s2.rb = true ∨ s2.cb = true
  ·rw [if_pos hb] at hk1
   rw [← hk1]
   obtain ⟨l2, rb2, cb2⟩ := s2
   dsimp only at he hb ⊢
   cases rb2
   ·obtain rfl : cb2 = true := by simpa using hb
    repeat' ((first | refine dV ?_ | refine cY ?_ | refine ci ?_ | refine dS ?_ | refine cW rfl ?_ | refine dT ?_ | refine cj ?_ | refine dU mixed ?_ | refine cX mixed ?_ | with_reducible refine bp ?_ | with_reducible refine bn ?_ | with_reducible refine bo ?_ | with_reducible refine lv (f := .t 45) ?_ | with_reducible refine kv (f := .t 45) ?_ | with_reducible refine da ?_ | with_reducible refine ck ?_ | with_reducible refine db (he) (by simp) ?_ | refine az (iA _ _) ?_ ?_ | simp (disch := omega) only [kL, il, iM, iL, lD, Int.tdiv_eq_ediv_of_nonneg, Int.tmod_eq_emod_of_nonneg] | (with_reducible refine bq rfl rfl ?_ ?_; (focus ((try simp only [Wr, co, ab, ac, ae, dc, gD, gz, gy, reduceIte, Int.natCast_nonneg, Int.le_refl, List.length_append, List.length_map, Nat.sub_zero]) <;> ((repeat' (with_reducible refine And.intro ?_ ?_)) <;> first | exact trivial | assumption | (simp; done) | (simp only [List.length_map] at *; omega) | omega | (simp [D.cells, D.ok, D.one, D.pt, D.pt1]; done) | exact gH)))) | (refine ax (fun hc => ?_) (fun hc => ?_) <;> (try simp only [hc]) <;> (try simp at hc)) | (refine aN (fun hc => ?_) (fun hc => ?_) <;> (try simp only [hc]) <;> (try simp at hc)) | (with_reducible refine And.intro ?_ ?_; (focus ((repeat' (with_reducible refine And.intro ?_ ?_)) <;> first | exact trivial | assumption | (simp; done) | (simp only [List.length_map] at *; omega) | omega | (simp [D.cells, D.ok, D.one, D.pt, D.pt1]; done) | exact gH))) | (with_reducible intro x hx) | omega) <;> (try simp only [Wr, co, ab, ac, ae, dc, gD, gz, gy, c1, ft, eT, eQ, eP, eN, eS, eO, eI, eH, eF, eK, eM, eG, eL, eJ, eU, eV, fq, dN, dO, cL, dQ, dF, dE, fe, eY, gr, gw, dK, dP, eX, cO, fg, fh, ff, fk, gu, gt, cR, aX, aG, cf, dM, bL, bM, aW, aB, bN, eZ, cK, cS, aY, aH, aI, cQ, aF, aU, aw, aV, eW, dJ, bg, bZ, bY, bh, bf, bX, bW, aJ, bE, cy, cw, cx, cv, fc, cz, im, fu, cB, bO, dL, bF, aT, cM, aS, aE, aR, fm, cA, aM, aq, ao, am, dH, cD, cE, dI, cF, dG, bS, fv, dR, bU, bc, bT, ba, bV, be, D.names, D.namesL, aO, dg, aK, df, dh, aL, ay, cP, bK, bI, bG, bJ, bH, dD, dC, aZ, dj, di, cg, Nat.reduceBEq, cH, cG, iF, iE, dq, reduceIte, Nat.reduceEqDiff, Nat.reduceAdd, Nat.reduceSub, Nat.reduceMul, Nat.reduceLT, Nat.reduceLeDiff, reduceCtorEq, ia, em, eo, jA, dY, cT, kM, gf, kR, io, ky, gh, ip, gg, gi, iy, eu, ir, iu, iq, iv, kQ, kP, ee, dp, gb, fE, fN, splice, D.cells, D.ok, D.one, D.pt, D.pt1, D.pt0, D.norm1, D.norm, cond_true, cond_false, true_and, and_true, and_self, Bool.true_and, Bool.and_true, Bool.false_and, Bool.and_false, Bool.not_true, Bool.not_false, Bool.true_or, Bool.false_or, Bool.or_true, Bool.or_false, List.getElem?_cons_zero, List.getElem?_cons_succ, List.getElem?_nil, List.length_cons, List.length_nil, List.length_map, List.length_append, List.length_set, List.length_take, List.length_drop, List.length_replicate, List.take_succ_cons, List.take_zero, List.take_nil, List.drop_succ_cons, List.drop_zero, List.drop_nil, List.cons_append, List.nil_append, List.append_nil, List.map_cons, List.map_nil, List.all_cons, List.all_nil, List.set_cons_zero, List.set_cons_succ, List.isEmpty_cons, List.isEmpty_nil, List.forall_mem_cons, List.not_mem_nil, List.forall_mem_nil, false_imp_iff, implies_true, ne_eq, not_false_eq_true, Option.map_some, Option.map_none, Nat.zero_add, Nat.add_zero, Nat.sub_self, Int.toNat_natCast, Int.reduceToNat, Int.reduceLT, Int.reduceLE, Int.reduceEq, Int.reduceBEq, beq_self_eq_true, Int.reduceNeg, decide_true, decide_false, IntKind.bits, Nat.min_eq_left, Int.reducePow, Nat.reducePow, Int.fdiv_eq_ediv_of_nonneg, Nat.lt_irrefl, Int.le_refl, Nat.le_refl, Int.natCast_nonneg, Nat.lt_add_one, Nat.zero_lt_succ, fJ, dX, dW, du, cV, aQ, D.sc, D.sc1, D.sc2, dZ, ek, cr, dm, cm, bk, cn, aD, aC, gA, ct, c0, Go.Vi.freeze, Go.Vi.bu, bv, bv.captL, au, dk, gC, List.flatten_cons, List.flatten_nil, dv, fM, dl, fr, D.ren, D.renL, List.getD_cons_zero, List.getD_cons_succ, List.nodup_cons, List.nodup_nil, List.mem_cons, or_false, false_or, cI, cJ, cd, cC, bQ, bR, bP, eA, List.reverse_nil, Option.some.injEq, D.bool.injEq, D.int.injEq, D.str.injEq, D.agg.injEq, D.tup.injEq, D.list.injEq, D.ptr.injEq, D.own.injEq, List.cons.injEq, dB]))
    refine gn (fin _ xs ⟨l2, false, true⟩ [Va 9 [.int .u32 v.id, .int .i64 v.se.base, L (bz .i64 .i64 v.se.turns), L (ed v.se.shifts), L (ar .i64 v.se.off), .int .i64 v.se.before, .int .i64 v.se.after, .int .u64 v.ver, L (bA v.evs)]]) ?_
    refine wk [] [] ig ?_
    exact fH [0, 1, 2] (an ig (an plL allL))
   ·repeat' ((first | refine dV ?_ | refine cY ?_ | refine ci ?_ | refine dS ?_ | refine cW rfl ?_ | refine dT ?_ | refine cj ?_ | refine dU mixed ?_ | refine cX mixed ?_ | with_reducible refine bp ?_ | with_reducible refine bn ?_ | with_reducible refine bo ?_ | with_reducible refine lv (f := .t 45) ?_ | with_reducible refine kv (f := .t 45) ?_ | with_reducible refine da ?_ | with_reducible refine ck ?_ | with_reducible refine db (he) (by simp) ?_ | refine az (iA _ _) ?_ ?_ | simp (disch := omega) only [kL, il, iM, iL, lD, Int.tdiv_eq_ediv_of_nonneg, Int.tmod_eq_emod_of_nonneg] | (with_reducible refine bq rfl rfl ?_ ?_; (focus ((try simp only [Wr, co, ab, ac, ae, dc, gD, gz, gy, reduceIte, Int.natCast_nonneg, Int.le_refl, List.length_append, List.length_map, Nat.sub_zero]) <;> ((repeat' (with_reducible refine And.intro ?_ ?_)) <;> first | exact trivial | assumption | (simp; done) | (simp only [List.length_map] at *; omega) | omega | (simp [D.cells, D.ok, D.one, D.pt, D.pt1]; done) | exact gH)))) | (refine ax (fun hc => ?_) (fun hc => ?_) <;> (try simp only [hc]) <;> (try simp at hc)) | (refine aN (fun hc => ?_) (fun hc => ?_) <;> (try simp only [hc]) <;> (try simp at hc)) | (with_reducible refine And.intro ?_ ?_; (focus ((repeat' (with_reducible refine And.intro ?_ ?_)) <;> first | exact trivial | assumption | (simp; done) | (simp only [List.length_map] at *; omega) | omega | (simp [D.cells, D.ok, D.one, D.pt, D.pt1]; done) | exact gH))) | (with_reducible intro x hx) | omega) <;> (try simp only [Wr, co, ab, ac, ae, dc, gD, gz, gy, c1, ft, eT, eQ, eP, eN, eS, eO, eI, eH, eF, eK, eM, eG, eL, eJ, eU, eV, fq, dN, dO, cL, dQ, dF, dE, fe, eY, gr, gw, dK, dP, eX, cO, fg, fh, ff, fk, gu, gt, cR, aX, aG, cf, dM, bL, bM, aW, aB, bN, eZ, cK, cS, aY, aH, aI, cQ, aF, aU, aw, aV, eW, dJ, bg, bZ, bY, bh, bf, bX, bW, aJ, bE, cy, cw, cx, cv, fc, cz, im, fu, cB, bO, dL, bF, aT, cM, aS, aE, aR, fm, cA, aM, aq, ao, am, dH, cD, cE, dI, cF, dG, bS, fv, dR, bU, bc, bT, ba, bV, be, D.names, D.namesL, aO, dg, aK, df, dh, aL, ay, cP, bK, bI, bG, bJ, bH, dD, dC, aZ, dj, di, cg, Nat.reduceBEq, cH, cG, iF, iE, dq, reduceIte, Nat.reduceEqDiff, Nat.reduceAdd, Nat.reduceSub, Nat.reduceMul, Nat.reduceLT, Nat.reduceLeDiff, reduceCtorEq, ia, em, eo, jA, dY, cT, kM, gf, kR, io, ky, gh, ip, gg, gi, iy, eu, ir, iu, iq, iv, kQ, kP, ee, dp, gb, fE, fN, splice, D.cells, D.ok, D.one, D.pt, D.pt1, D.pt0, D.norm1, D.norm, cond_true, cond_false, true_and, and_true, and_self, Bool.true_and, Bool.and_true, Bool.false_and, Bool.and_false, Bool.not_true, Bool.not_false, Bool.true_or, Bool.false_or, Bool.or_true, Bool.or_false, List.getElem?_cons_zero, List.getElem?_cons_succ, List.getElem?_nil, List.length_cons, List.length_nil, List.length_map, List.length_append, List.length_set, List.length_take, List.length_drop, List.length_replicate, List.take_succ_cons, List.take_zero, List.take_nil, List.drop_succ_cons, List.drop_zero, List.drop_nil, List.cons_append, List.nil_append, List.append_nil, List.map_cons, List.map_nil, List.all_cons, List.all_nil, List.set_cons_zero, List.set_cons_succ, List.isEmpty_cons, List.isEmpty_nil, List.forall_mem_cons, List.not_mem_nil, List.forall_mem_nil, false_imp_iff, implies_true, ne_eq, not_false_eq_true, Option.map_some, Option.map_none, Nat.zero_add, Nat.add_zero, Nat.sub_self, Int.toNat_natCast, Int.reduceToNat, Int.reduceLT, Int.reduceLE, Int.reduceEq, Int.reduceBEq, beq_self_eq_true, Int.reduceNeg, decide_true, decide_false, IntKind.bits, Nat.min_eq_left, Int.reducePow, Nat.reducePow, Int.fdiv_eq_ediv_of_nonneg, Nat.lt_irrefl, Int.le_refl, Nat.le_refl, Int.natCast_nonneg, Nat.lt_add_one, Nat.zero_lt_succ, fJ, dX, dW, du, cV, aQ, D.sc, D.sc1, D.sc2, dZ, ek, cr, dm, cm, bk, cn, aD, aC, gA, ct, c0, Go.Vi.freeze, Go.Vi.bu, bv, bv.captL, au, dk, gC, List.flatten_cons, List.flatten_nil, dv, fM, dl, fr, D.ren, D.renL, List.getD_cons_zero, List.getD_cons_succ, List.nodup_cons, List.nodup_nil, List.mem_cons, or_false, false_or, cI, cJ, cd, cC, bQ, bR, bP, eA, List.reverse_nil, Option.some.injEq, D.bool.injEq, D.int.injEq, D.str.injEq, D.agg.injEq, D.tup.injEq, D.list.injEq, D.ptr.injEq, D.own.injEq, List.cons.injEq, dB]))
    refine gn (fin _ xs ⟨l2, true, cb2⟩ [Va 9 [.int .u32 v.id, .int .i64 v.se.base, L (bz .i64 .i64 v.se.turns), L (ed v.se.shifts), L (ar .i64 v.se.off), .int .i64 v.se.before, .int .i64 v.se.after, .int .u64 v.ver, L (bA v.evs)]]) ?_
    refine wk [] [] ig ?_
    exact fH [0, 1, 2] (an ig (an plL allL))
  ·rw [if_neg hb] at hk1
   obtain ⟨l2, rb2, cb2⟩ := s2
   dsimp only at he hb hle hk1 ⊢
   obtain ⟨rfl, rfl⟩ : rb2 = false ∧ cb2 = false := by simpa using hb
   have hu : dA xs ++ [[.int .u32 v.id, .int .i64 v.se.base, L (bz .i64 .i64 v.se.turns), L (ed v.se.shifts), L (ar .i64 v.se.off), .int .i64 v.se.before, .int .i64 v.se.after, .int .u64 v.ver, L (bA v.evs)]] = dA (xs ++ [v]) := by simp [dA, Us.row]
   have uc1 := @iA
   refine wk [20045] [] (an ig (an c1 (an own1 (an own2 (an hz' hu))))) ?_
   refine hk ⟨(k, ⟨l2, false, false⟩, xs ++ [v]), hk1, by rw [List.length_append, List.length_cons, List.length_nil]; omega, by dsimp only; omega⟩ _ _ (by dsimp only; omega) ?_
   dsimp only
   simp only [List.length_append, List.length_cons, List.length_nil]
   exact fx [0, 1, 2, 3] (an ig pl4)
   skip
 ·obtain rfl : k = 0 := by omega
  have c1 : (((xs.length : Nat) : Int) < ((n : Nat) : Int)) = False := by simp; omega
  unfold iP at hk1
  rw [← hk1]
  dsimp only
  refine gn (fin _ xs s1 []) ?_
  refine wk [] [] (an ig c1) ?_
  exact fH [0, 1, 2] (an ig (an plL allL))
  skip
set_option maxHeartbeats 16000000 in
theorem zY (s : Rs) (sz : Nat) (R : List D) (j most : Nat) (hR : R[j]? = some (.list (some true) true [])) (hz : R.length = sz) (hm : most < 1000000) (hl : s.l.length ≤ 1099511627776) :
  aa Tryz.prog 90 [.ptr 0 0 0 1, .ptr 2 0 j 1, .int .i64 most, .fn 4187 [.ptr 0 0 0 1]] [Cr 1 s.cb, Rd s.l s.rb, Va sz R] (.tup [])
   [Cr 1 (ap ku most s).2.cb, Rd (ap ku most s).2.l (ap ku most s).2.rb, Va sz (R.set j (L (fF (ap ku most s).1)))] := by
 refine aP Tryz.func90 low90 (by simp [c90, iN]) ?_
 simp only [c90, iN]
 have hn : aa Tryz.prog 95 [.ptr 0 0 0 1, .ptr 2 0 0 1, .int .u64 most] [Cr 1 s.cb, Rd s.l s.rb, Va 1 [.int .u64 0]] (.tup []) [Cr 1 (bx most s).2.cb, Rd (bx most s).2.l (bx most s).2.rb, Va 1 [.int .u64 (bx most s).1]] := ml s.l s.rb s.cb 1 [.int .u64 0] 0 most rfl (by omega) (by omega) hl
 obtain ⟨X, hX⟩ : ∃ X, ap ku most s = X := ⟨_, rfl⟩
 rw [hX]
 unfold ap at hX
 obtain ⟨g1, g2⟩ := br most (by omega) s
 generalize bx most s = q at hn hX g1 g2
 obtain ⟨n, s0⟩ := q
 dsimp only at hn hX g1 g2
 have hj : j < R.length := (List.getElem?_eq_some_iff.1 hR).1
 have z0 : (((0 : Nat) : Int)) = 0 := rfl
 refine mE 2 rfl rfl fun hpt => ?_
 have hpt : ∀ x ∈ R, x.pt1 = true := fun x hx => hpt R (by simp) x hx
 have own1 : ∀ d : D, (R.set j d)[j]? = some d := fun d => by rw [List.getElem?_set_self hj]
 have own2 : ∀ d e : D, (R.set j d).take j ++ [e] ++ (R.set j d).drop (j + 1) = R.set j e := fun d e => by
  rw [p9 (by rw [List.length_set]; exact hj), List.set_set]
 have pl5 : ∀ (σ : List Ob) (k n : Nat), cV (cr true [0, 1, 2, 4] σ) (R.set j (.own 4 0 k n 16 none)) = some (R.set j (.own 3 0 k n 16 none)) := fun σ k n => jv hpt rfl
 have pl4 : ∀ (σ : List Ob) (k n : Nat), cV (cr true [0, 1, 2, 3] σ) (R.set j (.own 3 0 k n 16 none)) = some (R.set j (.own 3 0 k n 16 none)) := fun σ k n => jv hpt rfl
 have plL : ∀ (σ : List Ob) (rows : List (List D)), cV (cr true [0, 1, 2] σ) (R.set j (.list none false rows)) = some (R.set j (.list none false rows)) := fun σ rows => oF hpt rfl
 have allL : ∀ rows : List (List D), (R.set j (.list none false rows)).all D.pt1 = true := fun rows => ou hpt rfl
 have hz' : (j + 1 ≤ sz) = True := eq_true (by omega)
 refine wk [95] [] (an ig (an hR z0)) ?_
 refine gn (kU (l := 2) (j := 0) (i := j) (b := true) 16 true (by decide) rfl rfl rfl rfl hR) ?_
 refine av (ι := {p : Nat × Rs × List Po // iP ku p.1 p.2.1 p.2.2 = X ∧ p.2.2.length + p.1 = n ∧ p.2.1.l.length ≤ s0.l.length}) (fun p => ([(0, .ptr 0 0 0 1), (1, .ptr 2 0 j 1), (3, .fn 4187 [.ptr 0 0 0 1]), (42, .int .u64 n), (43, .int .u64 p.1.2.2.length)],
  [Cr 1 p.1.2.1.cb, Rd p.1.2.1.l p.1.2.1.rb, ⟨true, false, false, false, sz, [R.set j (.own 3 0 p.1.2.2.length p.1.2.2.length 16 none)], some 0⟩, bw true 16 true (fF p.1.2.2)])) (fun p => p.1.1) ⟨(n, s0, []), hX, by simp, Nat.le_refl _⟩ ?_ ?_
 ·simp only [List.length_nil, show fF [] = [] from rfl]
  exact fx [0, 1, 2, 4] (an ig pl5)
  skip
 rintro ⟨⟨k, s1, xs⟩, hk1, hk2, hk3⟩ hk
 dsimp only at hk1 hk2 hk3 hk ⊢
 have fin : ∀ (env : fy) (ys : List Po) (s2 : Rs) (ex : List Ob), lV [Cr 1 s.cb, Rd s.l s.rb, Va sz R] env (Cr 1 s2.cb :: Rd s2.l s2.rb :: ⟨true, false, false, false, sz, [R.set j (.own 3 0 ys.length ys.length 16 none)], some 0⟩ :: bw true 16 true (fF ys) :: ex) env
   (Cr 1 s2.cb :: Rd s2.l s2.rb :: ⟨true, false, false, false, sz, [R.set j (L (fF ys))], some 0⟩ :: { bw true 16 true (fF ys) with fz := true } :: ex) := fun env ys s2 ex => by
  refine lV.trans (kz 3) ?_
  have := lE (base := [Cr 1 s.cb, Rd s.l s.rb, Va sz R]) (env := env) (σ := Cr 1 s2.cb :: Rd s2.l s2.rb :: ⟨true, false, false, false, sz, [R.set j (.own 3 0 ys.length ys.length 16 none)], some 0⟩ :: { bw true 16 true (fF ys) with fz := true } :: ex) (l := 2) (j := 0) (i := j) (m := 3) (rows := fF ys) rfl rfl rfl rfl (own1 _) rfl rfl (by
   rw [ao]
   show pP (some _) _ _ _ = _
   rw [am]
   simp [aL, aK, gy, aM])
  simp only [List.set_cons_zero, List.set_cons_succ, List.set_set] at this
  exact this
 by_cases hlt : 0 < k
 ·obtain ⟨k, rfl⟩ : ∃ k', k = k' + 1 := ⟨k - 1, by omega⟩
  have c1 : (((xs.length : Nat) : Int) < ((n : Nat) : Int)) = True := by simp; omega
  have he : aa Tryz.prog 91 [.ptr 0 0 0 1, .ptr 2 0 0 1] [Cr 1 s1.cb, Rd s1.l s1.rb, Va 16 [.int .u32 0, .int .u32 0, .int .i64 0, .int .i64 0, .int .i64 0, .int .i64 0, .list (some true) true [], .list (some true) true [], .int .i64 0, .list (some true) true [], .list (some true) true [], .list (some true) true [], .list (some true) true [], .int .i64 0, .int .i64 0, .int .i64 0]] (.tup []) [Cr 1 (ku s1).2.cb, Rd (ku s1).2.l (ku s1).2.rb, Va 16 (ku s1).1.row] := cPo_r s1 16 [.int .u32 0, .int .u32 0, .int .i64 0, .int .i64 0, .int .i64 0, .int .i64 0, .list (some true) true [], .list (some true) true [], .int .i64 0, .list (some true) true [], .list (some true) true [], .list (some true) true [], .list (some true) true [], .int .i64 0, .int .i64 0, .int .i64 0] 0 rfl rfl rfl rfl rfl rfl rfl (by omega) (by omega)
  have hle := xN s1
  unfold iP at hk1
  generalize ku s1 = q at he hk1 hle
  obtain ⟨v, s2⟩ := q
  dsimp only at he hk1 hle
  have hcell : v.row = [.int .u32 v.id, .int .u32 v.owner, .int .i64 v.qu.a, .int .i64 v.qu.b, .int .i64 v.qu.long, .int .i64 v.qu.grid, L (ar .u32 v.qu.must), L (bz .u32 .i64 v.qu.may), .int .i64 v.qu.seats, L (bz .u32 .u32 v.qu.apart), L (ed v.qu.prefer), L (ar .i64 v.slots), L (bz .u32 .i64 v.votes), .int .i64 v.til, .int .i64 v.state, .int .i64 v.winner] := rfl
  rw [hcell] at he
  by_cases hb : s2.rb = true ∨ s2.cb = true
  ·rw [if_pos hb] at hk1
   rw [← hk1]
   obtain ⟨l2, rb2, cb2⟩ := s2
   dsimp only at he hb ⊢
   cases rb2
   ·obtain rfl : cb2 = true := by simpa using hb
    repeat' ((first | refine dV ?_ | refine cY ?_ | refine ci ?_ | refine dS ?_ | refine cW rfl ?_ | refine dT ?_ | refine cj ?_ | refine dU mixed ?_ | refine cX mixed ?_ | with_reducible refine bp ?_ | with_reducible refine bn ?_ | with_reducible refine bo ?_ | with_reducible refine lv (f := .t 45) ?_ | with_reducible refine kv (f := .t 45) ?_ | with_reducible refine da ?_ | with_reducible refine ck ?_ | with_reducible refine db (he) (by simp) ?_ | refine az (iA _ _) ?_ ?_ | simp (disch := omega) only [kL, il, iM, iL, lD, Int.tdiv_eq_ediv_of_nonneg, Int.tmod_eq_emod_of_nonneg] | (with_reducible refine bq rfl rfl ?_ ?_; (focus ((try simp only [Wr, co, ab, ac, ae, dc, gD, gz, gy, reduceIte, Int.natCast_nonneg, Int.le_refl, List.length_append, List.length_map, Nat.sub_zero]) <;> ((repeat' (with_reducible refine And.intro ?_ ?_)) <;> first | exact trivial | assumption | (simp; done) | (simp only [List.length_map] at *; omega) | omega | (simp [D.cells, D.ok, D.one, D.pt, D.pt1]; done) | exact gH)))) | (refine ax (fun hc => ?_) (fun hc => ?_) <;> (try simp only [hc]) <;> (try simp at hc)) | (refine aN (fun hc => ?_) (fun hc => ?_) <;> (try simp only [hc]) <;> (try simp at hc)) | (with_reducible refine And.intro ?_ ?_; (focus ((repeat' (with_reducible refine And.intro ?_ ?_)) <;> first | exact trivial | assumption | (simp; done) | (simp only [List.length_map] at *; omega) | omega | (simp [D.cells, D.ok, D.one, D.pt, D.pt1]; done) | exact gH))) | (with_reducible intro x hx) | omega) <;> (try simp only [Wr, co, ab, ac, ae, dc, gD, gz, gy, c1, ft, eT, eQ, eP, eN, eS, eO, eI, eH, eF, eK, eM, eG, eL, eJ, eU, eV, fq, dN, dO, cL, dQ, dF, dE, fe, eY, gr, gw, dK, dP, eX, cO, fg, fh, ff, fk, gu, gt, cR, aX, aG, cf, dM, bL, bM, aW, aB, bN, eZ, cK, cS, aY, aH, aI, cQ, aF, aU, aw, aV, eW, dJ, bg, bZ, bY, bh, bf, bX, bW, aJ, bE, cy, cw, cx, cv, fc, cz, im, fu, cB, bO, dL, bF, aT, cM, aS, aE, aR, fm, cA, aM, aq, ao, am, dH, cD, cE, dI, cF, dG, bS, fv, dR, bU, bc, bT, ba, bV, be, D.names, D.namesL, aO, dg, aK, df, dh, aL, ay, cP, bK, bI, bG, bJ, bH, dD, dC, aZ, dj, di, cg, Nat.reduceBEq, cH, cG, iF, iE, dq, reduceIte, Nat.reduceEqDiff, Nat.reduceAdd, Nat.reduceSub, Nat.reduceMul, Nat.reduceLT, Nat.reduceLeDiff, reduceCtorEq, ia, em, eo, jA, dY, cT, kM, gf, kR, io, ky, gh, ip, gg, gi, iy, eu, ir, iu, iq, iv, kQ, kP, ee, dp, gb, fE, fN, splice, D.cells, D.ok, D.one, D.pt, D.pt1, D.pt0, D.norm1, D.norm, cond_true, cond_false, true_and, and_true, and_self, Bool.true_and, Bool.and_true, Bool.false_and, Bool.and_false, Bool.not_true, Bool.not_false, Bool.true_or, Bool.false_or, Bool.or_true, Bool.or_false, List.getElem?_cons_zero, List.getElem?_cons_succ, List.getElem?_nil, List.length_cons, List.length_nil, List.length_map, List.length_append, List.length_set, List.length_take, List.length_drop, List.length_replicate, List.take_succ_cons, List.take_zero, List.take_nil, List.drop_succ_cons, List.drop_zero, List.drop_nil, List.cons_append, List.nil_append, List.append_nil, List.map_cons, List.map_nil, List.all_cons, List.all_nil, List.set_cons_zero, List.set_cons_succ, List.isEmpty_cons, List.isEmpty_nil, List.forall_mem_cons, List.not_mem_nil, List.forall_mem_nil, false_imp_iff, implies_true, ne_eq, not_false_eq_true, Option.map_some, Option.map_none, Nat.zero_add, Nat.add_zero, Nat.sub_self, Int.toNat_natCast, Int.reduceToNat, Int.reduceLT, Int.reduceLE, Int.reduceEq, Int.reduceBEq, beq_self_eq_true, Int.reduceNeg, decide_true, decide_false, IntKind.bits, Nat.min_eq_left, Int.reducePow, Nat.reducePow, Int.fdiv_eq_ediv_of_nonneg, Nat.lt_irrefl, Int.le_refl, Nat.le_refl, Int.natCast_nonneg, Nat.lt_add_one, Nat.zero_lt_succ, fJ, dX, dW, du, cV, aQ, D.sc, D.sc1, D.sc2, dZ, ek, cr, dm, cm, bk, cn, aD, aC, gA, ct, c0, Go.Vi.freeze, Go.Vi.bu, bv, bv.captL, au, dk, gC, List.flatten_cons, List.flatten_nil, dv, fM, dl, fr, D.ren, D.renL, List.getD_cons_zero, List.getD_cons_succ, List.nodup_cons, List.nodup_nil, List.mem_cons, or_false, false_or, cI, cJ, cd, cC, bQ, bR, bP, eA, List.reverse_nil, Option.some.injEq, D.bool.injEq, D.int.injEq, D.str.injEq, D.agg.injEq, D.tup.injEq, D.list.injEq, D.ptr.injEq, D.own.injEq, List.cons.injEq, dB]))
    refine gn (fin _ xs ⟨l2, false, true⟩ [Va 16 [.int .u32 v.id, .int .u32 v.owner, .int .i64 v.qu.a, .int .i64 v.qu.b, .int .i64 v.qu.long, .int .i64 v.qu.grid, L (ar .u32 v.qu.must), L (bz .u32 .i64 v.qu.may), .int .i64 v.qu.seats, L (bz .u32 .u32 v.qu.apart), L (ed v.qu.prefer), L (ar .i64 v.slots), L (bz .u32 .i64 v.votes), .int .i64 v.til, .int .i64 v.state, .int .i64 v.winner]]) ?_
    refine wk [] [] ig ?_
    exact fH [0, 1, 2] (an ig (an plL allL))
   ·repeat' ((first | refine dV ?_ | refine cY ?_ | refine ci ?_ | refine dS ?_ | refine cW rfl ?_ | refine dT ?_ | refine cj ?_ | refine dU mixed ?_ | refine cX mixed ?_ | with_reducible refine bp ?_ | with_reducible refine bn ?_ | with_reducible refine bo ?_ | with_reducible refine lv (f := .t 45) ?_ | with_reducible refine kv (f := .t 45) ?_ | with_reducible refine da ?_ | with_reducible refine ck ?_ | with_reducible refine db (he) (by simp) ?_ | refine az (iA _ _) ?_ ?_ | simp (disch := omega) only [kL, il, iM, iL, lD, Int.tdiv_eq_ediv_of_nonneg, Int.tmod_eq_emod_of_nonneg] | (with_reducible refine bq rfl rfl ?_ ?_; (focus ((try simp only [Wr, co, ab, ac, ae, dc, gD, gz, gy, reduceIte, Int.natCast_nonneg, Int.le_refl, List.length_append, List.length_map, Nat.sub_zero]) <;> ((repeat' (with_reducible refine And.intro ?_ ?_)) <;> first | exact trivial | assumption | (simp; done) | (simp only [List.length_map] at *; omega) | omega | (simp [D.cells, D.ok, D.one, D.pt, D.pt1]; done) | exact gH)))) | (refine ax (fun hc => ?_) (fun hc => ?_) <;> (try simp only [hc]) <;> (try simp at hc)) | (refine aN (fun hc => ?_) (fun hc => ?_) <;> (try simp only [hc]) <;> (try simp at hc)) | (with_reducible refine And.intro ?_ ?_; (focus ((repeat' (with_reducible refine And.intro ?_ ?_)) <;> first | exact trivial | assumption | (simp; done) | (simp only [List.length_map] at *; omega) | omega | (simp [D.cells, D.ok, D.one, D.pt, D.pt1]; done) | exact gH))) | (with_reducible intro x hx) | omega) <;> (try simp only [Wr, co, ab, ac, ae, dc, gD, gz, gy, c1, ft, eT, eQ, eP, eN, eS, eO, eI, eH, eF, eK, eM, eG, eL, eJ, eU, eV, fq, dN, dO, cL, dQ, dF, dE, fe, eY, gr, gw, dK, dP, eX, cO, fg, fh, ff, fk, gu, gt, cR, aX, aG, cf, dM, bL, bM, aW, aB, bN, eZ, cK, cS, aY, aH, aI, cQ, aF, aU, aw, aV, eW, dJ, bg, bZ, bY, bh, bf, bX, bW, aJ, bE, cy, cw, cx, cv, fc, cz, im, fu, cB, bO, dL, bF, aT, cM, aS, aE, aR, fm, cA, aM, aq, ao, am, dH, cD, cE, dI, cF, dG, bS, fv, dR, bU, bc, bT, ba, bV, be, D.names, D.namesL, aO, dg, aK, df, dh, aL, ay, cP, bK, bI, bG, bJ, bH, dD, dC, aZ, dj, di, cg, Nat.reduceBEq, cH, cG, iF, iE, dq, reduceIte, Nat.reduceEqDiff, Nat.reduceAdd, Nat.reduceSub, Nat.reduceMul, Nat.reduceLT, Nat.reduceLeDiff, reduceCtorEq, ia, em, eo, jA, dY, cT, kM, gf, kR, io, ky, gh, ip, gg, gi, iy, eu, ir, iu, iq, iv, kQ, kP, ee, dp, gb, fE, fN, splice, D.cells, D.ok, D.one, D.pt, D.pt1, D.pt0, D.norm1, D.norm, cond_true, cond_false, true_and, and_true, and_self, Bool.true_and, Bool.and_true, Bool.false_and, Bool.and_false, Bool.not_true, Bool.not_false, Bool.true_or, Bool.false_or, Bool.or_true, Bool.or_false, List.getElem?_cons_zero, List.getElem?_cons_succ, List.getElem?_nil, List.length_cons, List.length_nil, List.length_map, List.length_append, List.length_set, List.length_take, List.length_drop, List.length_replicate, List.take_succ_cons, List.take_zero, List.take_nil, List.drop_succ_cons, List.drop_zero, List.drop_nil, List.cons_append, List.nil_append, List.append_nil, List.map_cons, List.map_nil, List.all_cons, List.all_nil, List.set_cons_zero, List.set_cons_succ, List.isEmpty_cons, List.isEmpty_nil, List.forall_mem_cons, List.not_mem_nil, List.forall_mem_nil, false_imp_iff, implies_true, ne_eq, not_false_eq_true, Option.map_some, Option.map_none, Nat.zero_add, Nat.add_zero, Nat.sub_self, Int.toNat_natCast, Int.reduceToNat, Int.reduceLT, Int.reduceLE, Int.reduceEq, Int.reduceBEq, beq_self_eq_true, Int.reduceNeg, decide_true, decide_false, IntKind.bits, Nat.min_eq_left, Int.reducePow, Nat.reducePow, Int.fdiv_eq_ediv_of_nonneg, Nat.lt_irrefl, Int.le_refl, Nat.le_refl, Int.natCast_nonneg, Nat.lt_add_one, Nat.zero_lt_succ, fJ, dX, dW, du, cV, aQ, D.sc, D.sc1, D.sc2, dZ, ek, cr, dm, cm, bk, cn, aD, aC, gA, ct, c0, Go.Vi.freeze, Go.Vi.bu, bv, bv.captL, au, dk, gC, List.flatten_cons, List.flatten_nil, dv, fM, dl, fr, D.ren, D.renL, List.getD_cons_zero, List.getD_cons_succ, List.nodup_cons, List.nodup_nil, List.mem_cons, or_false, false_or, cI, cJ, cd, cC, bQ, bR, bP, eA, List.reverse_nil, Option.some.injEq, D.bool.injEq, D.int.injEq, D.str.injEq, D.agg.injEq, D.tup.injEq, D.list.injEq, D.ptr.injEq, D.own.injEq, List.cons.injEq, dB]))
    refine gn (fin _ xs ⟨l2, true, cb2⟩ [Va 16 [.int .u32 v.id, .int .u32 v.owner, .int .i64 v.qu.a, .int .i64 v.qu.b, .int .i64 v.qu.long, .int .i64 v.qu.grid, L (ar .u32 v.qu.must), L (bz .u32 .i64 v.qu.may), .int .i64 v.qu.seats, L (bz .u32 .u32 v.qu.apart), L (ed v.qu.prefer), L (ar .i64 v.slots), L (bz .u32 .i64 v.votes), .int .i64 v.til, .int .i64 v.state, .int .i64 v.winner]]) ?_
    refine wk [] [] ig ?_
    exact fH [0, 1, 2] (an ig (an plL allL))
  ·rw [if_neg hb] at hk1
   obtain ⟨l2, rb2, cb2⟩ := s2
   dsimp only at he hb hle hk1 ⊢
   obtain ⟨rfl, rfl⟩ : rb2 = false ∧ cb2 = false := by simpa using hb
   have hu : fF xs ++ [[.int .u32 v.id, .int .u32 v.owner, .int .i64 v.qu.a, .int .i64 v.qu.b, .int .i64 v.qu.long, .int .i64 v.qu.grid, L (ar .u32 v.qu.must), L (bz .u32 .i64 v.qu.may), .int .i64 v.qu.seats, L (bz .u32 .u32 v.qu.apart), L (ed v.qu.prefer), L (ar .i64 v.slots), L (bz .u32 .i64 v.votes), .int .i64 v.til, .int .i64 v.state, .int .i64 v.winner]] = fF (xs ++ [v]) := by simp [fF, Po.row]
   have uc1 := @iA
   refine wk [20045] [] (an ig (an c1 (an own1 (an own2 (an hz' hu))))) ?_
   refine hk ⟨(k, ⟨l2, false, false⟩, xs ++ [v]), hk1, by rw [List.length_append, List.length_cons, List.length_nil]; omega, by dsimp only; omega⟩ _ _ (by dsimp only; omega) ?_
   dsimp only
   simp only [List.length_append, List.length_cons, List.length_nil]
   exact fx [0, 1, 2, 3] (an ig pl4)
   skip
 ·obtain rfl : k = 0 := by omega
  have c1 : (((xs.length : Nat) : Int) < ((n : Nat) : Int)) = False := by simp; omega
  unfold iP at hk1
  rw [← hk1]
  dsimp only
  refine gn (fin _ xs s1 []) ?_
  refine wk [] [] (an ig c1) ?_
  exact fH [0, 1, 2] (an ig (an plL allL))
  skip
def sb (s : Rs) : (Sq) × Rs :=
 match gT s with
 | (v1, s1) =>
 match ap lK 100 s1 with
 | (v2, s2) =>
 match ap ku 50 s2 with
 | (v3, s3) =>
 match ap r9 4096 s3 with
 | (v4, s4) =>
  (⟨v1, v2, v3, v4⟩, s4)
set_option maxHeartbeats 4000000 in
theorem cSq_r (s : Rs) (sz : Nat) (R : List D) (j : Nat) (hN1 : R[j + 1]? = some (.list (some true) true [])) (hN2 : R[j + 2]? = some (.list (some true) true [])) (hN3 : R[j + 3]? = some (.list (some true) true [])) (hz : R.length = sz) (hj : j + 4 ≤ sz) (hl : s.l.length ≤ 1099511627776) :
  aa Tryz.prog 56 [.ptr 0 0 0 1, .ptr 2 0 j 1] [Cr 1 s.cb, Rd s.l s.rb, Va sz R] (.tup [])
   [Cr 1 (sb s).2.cb, Rd (sb s).2.l (sb s).2.rb, Va sz (hI R j [.int .i64 (sb s).1.t, L (dA (sb s).1.us), L (fF (sb s).1.ps), L (nF (sb s).1.ds)])] := by
 refine aP Tryz.func56 low56 (by simp [c56]) ?_
 simp only [c56]
 unfold sb
 have z0 := hz
 have k0 : ∀ x, j + 0 ≤ x → R[x]? = R[x]? := fun _ _ => rfl
 have g1 := gQ s
 have h1 : aa Tryz.prog 87 [.ptr 0 0 0 1, .ptr 2 0 j 1] [Cr 1 s.cb, Rd s.l s.rb, Va sz R] (.tup []) [Cr 1 (gT s).2.cb, Rd (gT s).2.l (gT s).2.rb, Va sz (R.set j (.int .i64 ((gT s).1 : Int)))] := gU s.l s.rb s.cb sz R j (by omega) (by omega) (by omega)
 generalize gT s = q1 at h1 g1 ⊢
 obtain ⟨v1, s1⟩ := q1
 dsimp only at h1 g1 ⊢
 obtain ⟨R1, e1⟩ : ∃ R1, R1 = R.set j (.int .i64 (v1 : Int)) := ⟨_, rfl⟩
 rw [← e1] at h1
 have z1 : R1.length = sz := by rw [e1, List.length_set]; exact z0
 have k1 : ∀ x, j + 1 ≤ x → R1[x]? = R[x]? := fun x hx => by rw [e1, List.getElem?_set_ne (by omega)] <;> exact k0 x (by omega)
 have g2 := eg xR 100 (by omega) s1
 have h2 : aa Tryz.prog 88 [.ptr 0 0 0 1, .ptr 2 0 (j + 1) 1, .int .i64 100, .fn 4185 [.ptr 0 0 0 1]] [Cr 1 s1.cb, Rd s1.l s1.rb, Va sz R1] (.tup []) [Cr 1 (ap lK 100 s1).2.cb, Rd (ap lK 100 s1).2.l (ap lK 100 s1).2.rb, Va sz (R1.set (j + 1) (L (dA (ap lK 100 s1).1)))] := Ai s1 sz R1 (j + 1) 100 (by rw [k1 _ (by omega)]; exact hN1) (by omega) (by omega) (by omega)
 generalize ap lK 100 s1 = q2 at h2 g2 ⊢
 obtain ⟨v2, s2⟩ := q2
 dsimp only at h2 g2 ⊢
 obtain ⟨R2, e2⟩ : ∃ R2, R2 = R1.set (j + 1) (L (dA v2)) := ⟨_, rfl⟩
 rw [← e2] at h2
 have z2 : R2.length = sz := by rw [e2, List.length_set]; exact z1
 have k2 : ∀ x, j + 2 ≤ x → R2[x]? = R[x]? := fun x hx => by rw [e2, List.getElem?_set_ne (by omega)] <;> exact k1 x (by omega)
 have g3 := eg xN 50 (by omega) s2
 have h3 : aa Tryz.prog 90 [.ptr 0 0 0 1, .ptr 2 0 (j + 2) 1, .int .i64 50, .fn 4187 [.ptr 0 0 0 1]] [Cr 1 s2.cb, Rd s2.l s2.rb, Va sz R2] (.tup []) [Cr 1 (ap ku 50 s2).2.cb, Rd (ap ku 50 s2).2.l (ap ku 50 s2).2.rb, Va sz (R2.set (j + 2) (L (fF (ap ku 50 s2).1)))] := zY s2 sz R2 (j + 2) 50 (by rw [k2 _ (by omega)]; exact hN2) (by omega) (by omega) (by omega)
 generalize ap ku 50 s2 = q3 at h3 g3 ⊢
 obtain ⟨v3, s3⟩ := q3
 dsimp only at h3 g3 ⊢
 obtain ⟨R3, e3⟩ : ∃ R3, R3 = R2.set (j + 2) (L (fF v3)) := ⟨_, rfl⟩
 rw [← e3] at h3
 have z3 : R3.length = sz := by rw [e3, List.length_set]; exact z2
 have k3 : ∀ x, j + 3 ≤ x → R3[x]? = R[x]? := fun x hx => by rw [e3, List.getElem?_set_ne (by omega)] <;> exact k2 x (by omega)
 have g4 := eg xI 4096 (by omega) s3
 have h4 : aa Tryz.prog 92 [.ptr 0 0 0 1, .ptr 2 0 (j + 3) 1, .int .i64 4096, .fn 93 [.ptr 3 0 0 1]] [Cr 1 s3.cb, Rd s3.l s3.rb, Va sz R3, Bx 0] (.tup []) [Cr 1 (ap r9 4096 s3).2.cb, Rd (ap r9 4096 s3).2.l (ap r9 4096 s3).2.rb, Va sz (R3.set (j + 3) (L (nF (ap r9 4096 s3).1))), Bx 0] := zI s3 sz R3 (j + 3) 4096 (by rw [k3 _ (by omega)]; exact hN3) (by omega) (by omega) (by omega)
 generalize ap r9 4096 s3 = q4 at h4 g4 ⊢
 obtain ⟨v4, s4⟩ := q4
 dsimp only at h4 g4 ⊢
 obtain ⟨R4, e4⟩ : ∃ R4, R4 = R3.set (j + 3) (L (nF v4)) := ⟨_, rfl⟩
 rw [← e4] at h4
 have z4 : R4.length = sz := by rw [e4, List.length_set]; exact z3
 have k4 : ∀ x, j + 4 ≤ x → R4[x]? = R[x]? := fun x hx => by rw [e4, List.getElem?_set_ne (by omega)] <;> exact k3 x (by omega)
 have eR : hI R j [.int .i64 (⟨v1, v2, v3, v4⟩ : Sq).t, L (dA (⟨v1, v2, v3, v4⟩ : Sq).us), L (fF (⟨v1, v2, v3, v4⟩ : Sq).ps), L (nF (⟨v1, v2, v3, v4⟩ : Sq).ds)] = R4 := by rw [e4, e3, e2, e1] <;> rfl
 rw [eR]
 clear eR e1 e2 e3 e4 k0 k1 k2 k3 k4 z1 z2 z3 z4
 refine wk [87, 88, 90] [(92, [], [0, 1, 2, 3])] ig ?_
 exact fH [0, 1, 2] ig
end Go.Proofs.YtapennlmboabeaaGreat
