import Derived.Test.YtgefljdclekadaaGreatWMG
import Derived.Test.YtgefljdclekadaaGreatVi25
import Derived.Test.YtgefljdclekadaaGreatVi32
set_option linter.unusedVariables false
set_option linter.unusedSimpArgs false
namespace Go.Proofs.YtgefljdclekadaaGreat
open Go Go.Vi
theorem fq {l : List En} : (cW l).length = l.length := by simp [cW]
theorem dE {l : List Us} : (bP l).length = l.length := by simp [bP]
theorem dD {l : List Po} : (bO l).length = l.length := by simp [bO]
theorem kQ {l : List En} {i : Nat} {x : En} (h : l[i]? = some x) : (cW l)[i]? = some x.row := by simp [cW, h]
theorem iS {l : List Us} {i : Nat} {x : Us} (h : l[i]? = some x) : (bP l)[i]? = some x.row := by simp [bP, h]
theorem iR {l : List Po} {i : Nat} {x : Po} (h : l[i]? = some x) : (bO l)[i]? = some x.row := by simp [bO, h]
def lr (x : En) : List UInt8 := bl (uI x.id) ++ pE x.ev
def nU (x : En) : Bool := vE x.ev
def yR (x : En) : Prop := (0 ≤ x.id ∧ x.id ≤ 4294967295) ∧ zw x.ev
theorem yt (l : List UInt8) (bad : Bool) (x : En) (hx : yR x) (hl : (l ++ lr x).length ≤ 1099511627776) :
  az Tryz.prog 110 [.ptr 0 0 0 1, .ptr 1 0 0 1] [Va 17 x.row, Bx 2, Cw 3 bad, Ww 4 l.length, ba true 1 true (r8 l)] (.tup [])
   [Va 17 x.row, Bx 2, Cw 3 (bad || nU x), Ww 4 (l ++ lr x).length, ba true 1 true (r8 (l ++ lr x))] := by
 refine aS Tryz.func110 low110 (by simp [c110]) ?_
 simp only [c110]
 obtain ⟨l1, e1⟩ : ∃ l1, l1 = l ++ bl (uI x.id) := ⟨_, rfl⟩
 obtain ⟨l2, e2⟩ : ∃ l2, l2 = l1 ++ pE x.ev := ⟨_, rfl⟩
 obtain ⟨b2, d2⟩ : ∃ b2, b2 = (bad || vE x.ev) := ⟨_, rfl⟩
 have el : l ++ lr x = l2 := by rw [e2, e1]; simp only [lr, zJ]
 have eb : (bad || nU x) = b2 := by rw [d2]; rfl
 rw [el] at hl
 rw [el, eb]
 have g1 : l1.length ≤ l2.length := by rw [e2, zB]; omega
 have g0 : l.length ≤ l1.length := by rw [e1, zB]; omega
 have h1 := fh l bad 17 x.row 0 x.id rfl hx.1 (by omega)
 rw [← e1] at h1
 have h2 := cEv_w l1 bad 17 x.row 1 x.ev rfl rfl rfl rfl rfl rfl rfl rfl rfl rfl rfl rfl rfl rfl rfl rfl hx.2 (by rw [← e2]; omega)
 rw [← e2, ← d2] at h2
 clear e1 e2 d2 el eb
 generalize x.row = R at *
 repeat' ((first | apply ah | apply ai | apply af | apply ap mixed | (with_reducible first | refine au ?_ | refine aA (f := .c (.fn 78 [])) ?_ | refine aA (f := .c (.fn 94 [])) ?_ | refine aw ?_ | refine am (h1) (by simp) ?_ | refine am (h2) (by simp) ?_) | (with_reducible refine ⟨?_, ?_⟩; (focus ((repeat' with_reducible refine ⟨?_, ?_⟩) <;> first | exact trivial | assumption | (simp; done) | (simp only [zA] at *; omega) | omega | (simp [fs]; done) | exact ax))) | (with_reducible intro x hx) | omega) <;> (try simp only [Nat.reduceBEq, reduceIte, Nat.reduceEqDiff, Nat.reduceAdd, Nat.reduceSub, Nat.reduceLT, reduceCtorEq, fw, fd]))
 refine ay [0, 1, 2, 3, 4] (by rfl) (by simp) (by simp [fg])
theorem wI (l : List UInt8) (bad : Bool) (sz : Nat) (R : List D) (j most : Nat) (xs : List En) (hR : R[j]? = some (L (cW xs))) (hm : most < 9223372036854775808) (hxl : xs.length ≤ 140737488351232) (hx : ∀ x ∈ xs, yR x) (hl : (l ++ aY lr xs).length ≤ 1099511627776) :
  az Tryz.prog 109 [.ptr 0 0 0 1, .ptr 3 0 j 1, .int .i64 most, .fn 110 [.ptr 4 0 0 1]] [Cw 1 bad, Ww 2 l.length, ba true 1 true (r8 l), Va sz R, Bx 0] (.tup [])
   [Cw 1 (bad || bn nU most xs), Ww 2 (l ++ aY lr xs).length, ba true 1 true (r8 (l ++ aY lr xs)), Va sz R, Bx 0] :=
 f8 (rw_ := En.row) Tryz.func109 low109 (by decide) (by decide) rfl (fun _ => rfl) rfl rfl (fun _ => rfl) (fun _ => rfl) (fun _ => rfl) (fun l bad a => yt l bad a) l bad sz R j most xs hR hm hxl hx hl
def hU (u : Us) : List UInt8 := bl (uI u.id) ++ (pk u.se ++ (bl (uI u.ver) ++ (aY lr u.evs)))
def iW (u : Us) : Bool := mI u.se || (bn nU 64 u.evs)
def tz (u : Us) : Prop := (0 ≤ u.id ∧ u.id ≤ 4294967295) ∧ (wb u.se ∧ ((0 ≤ u.ver ∧ u.ver ≤ 18446744073709551615) ∧ ((u.evs.length ≤ 140737488351232 ∧ ∀ x ∈ u.evs, yR x))))
set_option maxHeartbeats 2000000 in
theorem cUs_w (l : List UInt8) (bad : Bool) (sz : Nat) (R : List D) (j : Nat) (u : Us)  (hR0 : R[j]? = some (.int .u32 u.id)) (hR1 : R[j + 1]? = some (.int .i64 u.se.base)) (hR2 : R[j + 2]? = some (L (aV .i64 .i64 u.se.turns))) (hR3 : R[j + 3]? = some (L (bo u.se.shifts))) (hR4 : R[j + 4]? = some (L (aJ .i64 u.se.off))) (hR5 : R[j + 5]? = some (.int .i64 u.se.before)) (hR6 : R[j + 6]? = some (.int .i64 u.se.after)) (hR7 : R[j + 7]? = some (.int .u64 u.ver)) (hR8 : R[j + 8]? = some (L (cW u.evs))) (hf : tz u) (hl : (l ++ hU u).length ≤ 1099511627776) :
  az Tryz.prog 74 [.ptr 0 0 0 1, .ptr 3 0 j 1] [Cw 1 bad, Ww 2 l.length, ba true 1 true (r8 l), Va sz R] (.tup [])
   [Cw 1 (bad || iW u), Ww 2 (l ++ hU u).length, ba true 1 true (r8 (l ++ hU u)), Va sz R] := by
 refine aS Tryz.func74 low74 (by simp [c74]) ?_
 simp only [c74]
 unfold tz at hf
 obtain ⟨l1, e1⟩ : ∃ l1, l1 = l ++ bl (uI u.id) := ⟨_, rfl⟩
 obtain ⟨l2, e2⟩ : ∃ l2, l2 = l1 ++ pk u.se := ⟨_, rfl⟩
 obtain ⟨b2, d2⟩ : ∃ b2, b2 = (bad || mI u.se) := ⟨_, rfl⟩
 obtain ⟨l3, e3⟩ : ∃ l3, l3 = l2 ++ bl (uI u.ver) := ⟨_, rfl⟩
 obtain ⟨l4, e4⟩ : ∃ l4, l4 = l3 ++ aY lr u.evs := ⟨_, rfl⟩
 obtain ⟨b4, d4⟩ : ∃ b4, b4 = (b2 || bn nU 64 u.evs) := ⟨_, rfl⟩
 have el : l ++ hU u = l4 := by rw [e4, e3, e2, e1]; simp only [hU, zJ]
 have eb : (bad || iW u) = b4 := by rw [d4, d2]; simp only [iW, zQ]
 rw [el] at hl
 rw [el, eb]
 have g3 : l3.length ≤ l4.length := by rw [e4, zB]; omega
 have g2 : l2.length ≤ l3.length := by rw [e3, zB]; omega
 have g1 : l1.length ≤ l2.length := by rw [e2, zB]; omega
 have g0 : l.length ≤ l1.length := by rw [e1, zB]; omega
 have h1 := fh l bad sz R j u.id hR0 hf.1 (by omega)
 rw [← e1] at h1
 have h2 := cSe_w l1 bad sz R (j + 1) u.se hR1 hR2 hR3 hR4 hR5 hR6 hf.2.1 (by rw [← e2]; omega)
 rw [← e2, ← d2] at h2
 have h3 := qO l2 b2 sz R (j + 7) u.ver hR7 hf.2.2.1 (by omega)
 rw [← e3] at h3
 have h4 := wI l3 b2 sz R (j + 8) 64 u.evs hR8 (by omega) hf.2.2.2.1 hf.2.2.2.2 (by rw [← e4]; omega)
 rw [← e4, ← d4] at h4
 clear e1 e2 e3 e4 d2 d4 el eb
 repeat' ((first | apply ah | apply ai | apply af | apply ak mixed | apply ap mixed | (with_reducible first | refine au ?_ | refine aA (f := .c (.fn 78 [])) ?_ | refine aA (f := .c (.fn 93 [])) ?_ | refine aA (f := .c (.fn 53 [])) ?_ | refine aT (f := .c (.fn 109 [])) (z := []) (q := [0, 1, 2, 3, 4]) ?_ | refine aO (f := .c (.fn 109 [])) (z := []) (q := [0, 1, 2, 3, 4]) ?_ | refine aw ?_ | refine am (h1) (by simp) ?_ | refine am (h2) (by simp) ?_ | refine am (h3) (by simp) ?_ | refine am (h4) (by simp) ?_) | (with_reducible refine ⟨?_, ?_⟩; (focus ((repeat' with_reducible refine ⟨?_, ?_⟩) <;> first | exact trivial | assumption | (simp; done) | (simp only [zA] at *; omega) | omega | (simp [fs]; done) | exact ax))) | (with_reducible intro x hx) | omega) <;> (try simp only [Nat.reduceBEq, reduceIte, Nat.reduceEqDiff, Nat.reduceAdd, Nat.reduceSub, Nat.reduceLT, reduceCtorEq, ne_eq, fw, fd]))
 refine ay [0, 1, 2, 3] (by rfl) (by simp) (by simp [fg])
set_option maxHeartbeats 4000000 in
theorem xe (l : List UInt8) (bad : Bool) (sz : Nat) (R : List D) (j most : Nat) (xs : List Us) (hR : R[j]? = some (L (bP xs))) (hm : most < 9223372036854775808) (hxl : xs.length ≤ 140737488351232) (hx : ∀ x ∈ xs, tz x) (hl : (l ++ aY hU xs).length ≤ 1099511627776) :
  az Tryz.prog 73 [.ptr 0 0 0 1, .ptr 3 0 j 1, .int .i64 most, .fn 4170 [.ptr 0 0 0 1]] [Cw 1 bad, Ww 2 l.length, ba true 1 true (r8 l), Va sz R] (.tup [])
   [Cw 1 (bad || bn iW most xs), Ww 2 (l ++ aY hU xs).length, ba true 1 true (r8 (l ++ aY hU xs)), Va sz R] := by
 refine aS Tryz.func73 low73 (by simp [c73, du]) ?_
 simp only [c73, du]
 have ui : uI (xs.length : Int) = xs.length := by unfold uI; omega
 have hll : l.length ≤ 1099511627776 := by rw [zB] at hl; omega
 have hn := kJ l bad 1 [.int .u64 xs.length] 0 most xs.length rfl (by omega) (by omega) hll
 rw [ui] at hn
 obtain ⟨l0, e0⟩ : ∃ l0, l0 = l ++ bl xs.length := ⟨_, rfl⟩
 obtain ⟨b0, f0⟩ : ∃ b0, b0 = (bad || decide (most < xs.length)) := ⟨_, rfl⟩
 have el : l ++ aY hU xs = l0 ++ xs.flatMap hU := by rw [e0]; simp [aY]
 have eb : (bad || bn iW most xs) = (b0 || xs.any iW) := by rw [f0]; simp [bn, zQ]
 rw [el] at hl
 rw [el, eb]
 rw [← e0, ← f0] at hn
 clear el eb f0
 repeat' ((first | apply ah | apply al | apply ao | apply av | refine aq rfl ?_ | apply ai | apply af | apply ab | apply ak mixed | apply ap mixed | (with_reducible first | refine au ?_ | refine aB (f := .c (.fn 53 [])) ?_ | refine ar ?_ | refine am (hn) (by simp) ?_) | simp (disch := omega) only [aF] | ((first | refine aj ?_ ?_ | refine aa ?_ ?_) <;> intro hc <;> (try simp only [hc]) <;> try simp at hc) | (with_reducible refine ⟨?_, ?_⟩; (focus ((repeat' with_reducible refine ⟨?_, ?_⟩) <;> first | exact trivial | assumption | (simp; done) | (simp only [zA] at *; omega) | omega | (simp [fs]; done) | exact ax))) | (with_reducible intro x hx) | omega) <;> (try simp only [dE, hR, Nat.reduceBEq, reduceIte, Nat.reduceEqDiff, Nat.reduceAdd, Nat.reduceSub, Nat.reduceLT, reduceCtorEq, cond_false, ne_eq, fw, fd]))
 refine aM (ι := {i : Nat // i ≤ xs.length}) (fun i => ([(1, .ptr 3 0 j 1), (3, .fn 4170 [.ptr 0 0 0 1]), (29, .int .i64 xs.length), (30, .int .i64 i.1)], [Cw 1 (b0 || (xs.take i.1).any iW), Ww 2 (l0 ++ (xs.take i.1).flatMap hU).length, ba true 1 true (r8 (l0 ++ (xs.take i.1).flatMap hU)), Va sz R])) (fun i => xs.length - i.1) ⟨0, by omega⟩ ?_ ?_
 ·simp only [List.take_zero, List.flatMap_nil, List.any_nil, zR, List.append_nil]
  refine aC [0, 1, 2, 3] (by rfl) (by simp) (by simp [fg]) (by simp [fg])
  skip
 rintro ⟨i, hi⟩ hk
 dsimp only at hk ⊢
 by_cases hlt : i < xs.length
 ·have c1 : ((i : Int) < (xs.length : Int)) = True := by simp; omega
  obtain ⟨x, hg⟩ : ∃ x, xs[i]? = some x := ⟨_, zD hlt⟩
  have hr := iS hg
  have hxf := hx x (zE hg)
  have hfm := fS hU hg
  have han := gw iW hg
  have hle := lV hU xs (i + 1)
  obtain ⟨li, ei⟩ : ∃ li, li = l0 ++ (xs.take i).flatMap hU := ⟨_, rfl⟩
  obtain ⟨bi, fi⟩ : ∃ bi, bi = (b0 || (xs.take i).any iW) := ⟨_, rfl⟩
  have ej : l0 ++ (xs.take (i + 1)).flatMap hU = li ++ hU x := by rw [ei, hfm, zJ]
  have fj : (b0 || (xs.take (i + 1)).any iW) = (bi || iW x) := by rw [fi, han, zQ]
  have hlj : (li ++ hU x).length ≤ 1099511627776 := by rw [← ej]; simp only [zB] at hl ⊢; omega
  have hw := cUs_w li bi 9 x.row 0 x rfl rfl rfl rfl rfl rfl rfl rfl rfl hxf hlj
  rw [← ei, ← fi]
  obtain ⟨lj, el⟩ : ∃ lj, lj = li ++ hU x := ⟨_, rfl⟩
  obtain ⟨bj, fl⟩ : ∃ bj, bj = (bi || iW x) := ⟨_, rfl⟩
  rw [← el, ← fl] at hw
  rw [← el] at ej
  rw [← fl] at fj
  have g2 : lj.length ≤ 1099511627776 := by rw [el]; exact hlj
  have g1 : li.length ≤ lj.length := by rw [el, zB]; omega
  clear el fl ei fi
  unfold Us.row at hr hw
  repeat' ((first | apply ah | apply al | apply ao | apply av | refine aq rfl ?_ | apply ai | apply af | apply ab | apply ak mixed | apply ap mixed | (with_reducible first | refine au ?_ | refine eD (f := .t 39) ?_ | refine dO (f := .t 39) ?_ | refine ar ?_ | refine am (hw) (by simp) ?_) | simp (disch := omega) only [aW] | ((first | refine aj ?_ ?_ | refine aa ?_ ?_) <;> intro hc <;> (try simp only [hc]) <;> try simp at hc) | (with_reducible refine ⟨?_, ?_⟩; (focus ((repeat' with_reducible refine ⟨?_, ?_⟩) <;> first | exact trivial | assumption | (simp; done) | (simp only [zA] at *; omega) | omega | (simp [fs]; done) | exact ax))) | (with_reducible intro x hx) | omega) <;> (try simp only [dE, hR, c1, hr, Nat.reduceBEq, reduceIte, Nat.reduceEqDiff, Nat.reduceAdd, Nat.reduceSub, Nat.reduceLT, Nat.reduceLeDiff, reduceCtorEq, ne_eq, fv, fw, fd]))
  refine hk ⟨i + 1, by omega⟩ _ _ (by dsimp only; omega) ?_
  dsimp only
  rw [ej, fj]
  refine aC [0, 1, 2, 3] (by rfl) (by simp) (by simp [fg]) (by simp [fg])
  skip
 ·have c1 : ((i : Int) < (xs.length : Int)) = False := by simp; omega
  obtain rfl : i = xs.length := by omega
  rw [List.take_length]
  repeat' ((first | apply ah | apply al | apply ao | apply av | refine aq rfl ?_ | apply ai | apply af | apply ab | apply ak mixed | apply ap mixed | (with_reducible first | refine au ?_ | refine ar ?_) | simp (disch := omega) only [aW, aF, aK, aL, bg, zI, zH] | ((first | refine aj ?_ ?_ | refine aa ?_ ?_) <;> intro hc <;> (try simp only [hc]) <;> try simp at hc) | (with_reducible refine ⟨?_, ?_⟩; (focus ((repeat' with_reducible refine ⟨?_, ?_⟩) <;> first | exact trivial | assumption | (simp; done) | (simp only [zA] at *; omega) | omega | (simp [fs]; done) | exact ax))) | (with_reducible intro x hx) | omega) <;> (try simp only [c1, Nat.reduceBEq, reduceIte, fH, bh, cf, fw]))
  refine ay [0, 1, 2, 3] (by rfl) (by simp) (by simp [fg])
  skip
set_option maxHeartbeats 4000000 in
theorem wV (l : List UInt8) (bad : Bool) (sz : Nat) (R : List D) (j most : Nat) (xs : List Po) (hR : R[j]? = some (L (bO xs))) (hm : most < 9223372036854775808) (hxl : xs.length ≤ 140737488351232) (hx : ∀ x ∈ xs, tw x) (hl : (l ++ aY gz xs).length ≤ 1099511627776) :
  az Tryz.prog 75 [.ptr 0 0 0 1, .ptr 3 0 j 1, .int .i64 most, .fn 4156 [.ptr 0 0 0 1]] [Cw 1 bad, Ww 2 l.length, ba true 1 true (r8 l), Va sz R] (.tup [])
   [Cw 1 (bad || bn im most xs), Ww 2 (l ++ aY gz xs).length, ba true 1 true (r8 (l ++ aY gz xs)), Va sz R] := by
 refine aS Tryz.func75 low75 (by simp [c75, du]) ?_
 simp only [c75, du]
 have ui : uI (xs.length : Int) = xs.length := by unfold uI; omega
 have hll : l.length ≤ 1099511627776 := by rw [zB] at hl; omega
 have hn := kJ l bad 1 [.int .u64 xs.length] 0 most xs.length rfl (by omega) (by omega) hll
 rw [ui] at hn
 obtain ⟨l0, e0⟩ : ∃ l0, l0 = l ++ bl xs.length := ⟨_, rfl⟩
 obtain ⟨b0, f0⟩ : ∃ b0, b0 = (bad || decide (most < xs.length)) := ⟨_, rfl⟩
 have el : l ++ aY gz xs = l0 ++ xs.flatMap gz := by rw [e0]; simp [aY]
 have eb : (bad || bn im most xs) = (b0 || xs.any im) := by rw [f0]; simp [bn, zQ]
 rw [el] at hl
 rw [el, eb]
 rw [← e0, ← f0] at hn
 clear el eb f0
 repeat' ((first | apply ah | apply al | apply ao | apply av | refine aq rfl ?_ | apply ai | apply af | apply ab | apply ak mixed | apply ap mixed | (with_reducible first | refine au ?_ | refine aB (f := .c (.fn 53 [])) ?_ | refine ar ?_ | refine am (hn) (by simp) ?_) | simp (disch := omega) only [aF] | ((first | refine aj ?_ ?_ | refine aa ?_ ?_) <;> intro hc <;> (try simp only [hc]) <;> try simp at hc) | (with_reducible refine ⟨?_, ?_⟩; (focus ((repeat' with_reducible refine ⟨?_, ?_⟩) <;> first | exact trivial | assumption | (simp; done) | (simp only [zA] at *; omega) | omega | (simp [fs]; done) | exact ax))) | (with_reducible intro x hx) | omega) <;> (try simp only [dD, hR, Nat.reduceBEq, reduceIte, Nat.reduceEqDiff, Nat.reduceAdd, Nat.reduceSub, Nat.reduceLT, reduceCtorEq, cond_false, ne_eq, fw, fd]))
 refine aM (ι := {i : Nat // i ≤ xs.length}) (fun i => ([(1, .ptr 3 0 j 1), (3, .fn 4156 [.ptr 0 0 0 1]), (29, .int .i64 xs.length), (30, .int .i64 i.1)], [Cw 1 (b0 || (xs.take i.1).any im), Ww 2 (l0 ++ (xs.take i.1).flatMap gz).length, ba true 1 true (r8 (l0 ++ (xs.take i.1).flatMap gz)), Va sz R])) (fun i => xs.length - i.1) ⟨0, by omega⟩ ?_ ?_
 ·simp only [List.take_zero, List.flatMap_nil, List.any_nil, zR, List.append_nil]
  refine aC [0, 1, 2, 3] (by rfl) (by simp) (by simp [fg]) (by simp [fg])
  skip
 rintro ⟨i, hi⟩ hk
 dsimp only at hk ⊢
 by_cases hlt : i < xs.length
 ·have c1 : ((i : Int) < (xs.length : Int)) = True := by simp; omega
  obtain ⟨x, hg⟩ : ∃ x, xs[i]? = some x := ⟨_, zD hlt⟩
  have hr := iR hg
  have hxf := hx x (zE hg)
  have hfm := fS gz hg
  have han := gw im hg
  have hle := lV gz xs (i + 1)
  obtain ⟨li, ei⟩ : ∃ li, li = l0 ++ (xs.take i).flatMap gz := ⟨_, rfl⟩
  obtain ⟨bi, fi⟩ : ∃ bi, bi = (b0 || (xs.take i).any im) := ⟨_, rfl⟩
  have ej : l0 ++ (xs.take (i + 1)).flatMap gz = li ++ gz x := by rw [ei, hfm, zJ]
  have fj : (b0 || (xs.take (i + 1)).any im) = (bi || im x) := by rw [fi, han, zQ]
  have hlj : (li ++ gz x).length ≤ 1099511627776 := by rw [← ej]; simp only [zB] at hl ⊢; omega
  have hw := cPo_w li bi 16 x.row 0 x rfl rfl rfl rfl rfl rfl rfl rfl rfl rfl rfl rfl rfl rfl rfl rfl hxf hlj
  rw [← ei, ← fi]
  obtain ⟨lj, el⟩ : ∃ lj, lj = li ++ gz x := ⟨_, rfl⟩
  obtain ⟨bj, fl⟩ : ∃ bj, bj = (bi || im x) := ⟨_, rfl⟩
  rw [← el, ← fl] at hw
  rw [← el] at ej
  rw [← fl] at fj
  have g2 : lj.length ≤ 1099511627776 := by rw [el]; exact hlj
  have g1 : li.length ≤ lj.length := by rw [el, zB]; omega
  clear el fl ei fi
  unfold Po.row at hr hw
  repeat' ((first | apply ah | apply al | apply ao | apply av | refine aq rfl ?_ | apply ai | apply af | apply ab | apply ak mixed | apply ap mixed | (with_reducible first | refine au ?_ | refine eD (f := .t 39) ?_ | refine dO (f := .t 39) ?_ | refine ar ?_ | refine am (hw) (by simp) ?_) | simp (disch := omega) only [aW] | ((first | refine aj ?_ ?_ | refine aa ?_ ?_) <;> intro hc <;> (try simp only [hc]) <;> try simp at hc) | (with_reducible refine ⟨?_, ?_⟩; (focus ((repeat' with_reducible refine ⟨?_, ?_⟩) <;> first | exact trivial | assumption | (simp; done) | (simp only [zA] at *; omega) | omega | (simp [fs]; done) | exact ax))) | (with_reducible intro x hx) | omega) <;> (try simp only [dD, hR, c1, hr, Nat.reduceBEq, reduceIte, Nat.reduceEqDiff, Nat.reduceAdd, Nat.reduceSub, Nat.reduceLT, Nat.reduceLeDiff, reduceCtorEq, ne_eq, fv, fw, fd]))
  refine hk ⟨i + 1, by omega⟩ _ _ (by dsimp only; omega) ?_
  dsimp only
  rw [ej, fj]
  refine aC [0, 1, 2, 3] (by rfl) (by simp) (by simp [fg]) (by simp [fg])
  skip
 ·have c1 : ((i : Int) < (xs.length : Int)) = False := by simp; omega
  obtain rfl : i = xs.length := by omega
  rw [List.take_length]
  repeat' ((first | apply ah | apply al | apply ao | apply av | refine aq rfl ?_ | apply ai | apply af | apply ab | apply ak mixed | apply ap mixed | (with_reducible first | refine au ?_ | refine ar ?_) | simp (disch := omega) only [aW, aF, aK, aL, bg, zI, zH] | ((first | refine aj ?_ ?_ | refine aa ?_ ?_) <;> intro hc <;> (try simp only [hc]) <;> try simp at hc) | (with_reducible refine ⟨?_, ?_⟩; (focus ((repeat' with_reducible refine ⟨?_, ?_⟩) <;> first | exact trivial | assumption | (simp; done) | (simp only [zA] at *; omega) | omega | (simp [fs]; done) | exact ax))) | (with_reducible intro x hx) | omega) <;> (try simp only [c1, Nat.reduceBEq, reduceIte, fH, bh, cf, fw]))
  refine ay [0, 1, 2, 3] (by rfl) (by simp) (by simp [fg])
  skip
structure Sq where
 t : Int
 us : List Us
 ps : List Po
 ds : List (Int × Int × Int)
def Sq.cells (s : Sq) : List D := [.int .i64 s.t, L (bP s.us), L (bO s.ps), L (fY s.ds)]
def gA (s : Sq) : List UInt8 := bl (zz s.t) ++ (aY hU s.us ++ (aY gz s.ps ++ (aY lQ s.ds)))
def sY (s : Sq) : Bool := bn iW 100 s.us || (bn im 50 s.ps || (bn mH 4096 s.ds))
def sW (s : Sq) : Prop := dv s.t ∧ ((s.us.length ≤ 140737488351232 ∧ ∀ x ∈ s.us, tz x) ∧ ((s.ps.length ≤ 140737488351232 ∧ ∀ x ∈ s.ps, tw x) ∧ ((s.ds.length ≤ 140737488351232 ∧ ∀ x ∈ s.ds, vq x))))
set_option maxHeartbeats 2000000 in
theorem cSq_w (l : List UInt8) (bad : Bool) (sz : Nat) (R : List D) (j : Nat) (s : Sq)  (hR0 : R[j]? = some (.int .i64 s.t)) (hR1 : R[j + 1]? = some (L (bP s.us))) (hR2 : R[j + 2]? = some (L (bO s.ps))) (hR3 : R[j + 3]? = some (L (fY s.ds))) (hf : sW s) (hl : (l ++ gA s).length ≤ 1099511627776) :
  az Tryz.prog 34 [.ptr 0 0 0 1, .ptr 3 0 j 1] [Cw 1 bad, Ww 2 l.length, ba true 1 true (r8 l), Va sz R] (.tup [])
   [Cw 1 (bad || sY s), Ww 2 (l ++ gA s).length, ba true 1 true (r8 (l ++ gA s)), Va sz R] := by
 refine aS Tryz.func34 low34 (by simp [c34]) ?_
 simp only [c34]
 unfold sW at hf
 obtain ⟨l1, e1⟩ : ∃ l1, l1 = l ++ bl (zz s.t) := ⟨_, rfl⟩
 obtain ⟨l2, e2⟩ : ∃ l2, l2 = l1 ++ aY hU s.us := ⟨_, rfl⟩
 obtain ⟨b2, d2⟩ : ∃ b2, b2 = (bad || bn iW 100 s.us) := ⟨_, rfl⟩
 obtain ⟨l3, e3⟩ : ∃ l3, l3 = l2 ++ aY gz s.ps := ⟨_, rfl⟩
 obtain ⟨b3, d3⟩ : ∃ b3, b3 = (b2 || bn im 50 s.ps) := ⟨_, rfl⟩
 obtain ⟨l4, e4⟩ : ∃ l4, l4 = l3 ++ aY lQ s.ds := ⟨_, rfl⟩
 obtain ⟨b4, d4⟩ : ∃ b4, b4 = (b3 || bn mH 4096 s.ds) := ⟨_, rfl⟩
 have el : l ++ gA s = l4 := by rw [e4, e3, e2, e1]; simp only [gA, zJ]
 have eb : (bad || sY s) = b4 := by rw [d4, d3, d2]; simp only [sY, zQ]
 rw [el] at hl
 rw [el, eb]
 have g3 : l3.length ≤ l4.length := by rw [e4, zB]; omega
 have g2 : l2.length ≤ l3.length := by rw [e3, zB]; omega
 have g1 : l1.length ≤ l2.length := by rw [e2, zB]; omega
 have g0 : l.length ≤ l1.length := by rw [e1, zB]; omega
 have h1 := cr l bad sz R j s.t hR0 hf.1 (by omega)
 rw [← e1] at h1
 have h2 := xe l1 bad sz R (j + 1) 100 s.us hR1 (by omega) hf.2.1.1 hf.2.1.2 (by rw [← e2]; omega)
 rw [← e2, ← d2] at h2
 have h3 := wV l2 b2 sz R (j + 2) 50 s.ps hR2 (by omega) hf.2.2.1.1 hf.2.2.1.2 (by rw [← e3]; omega)
 rw [← e3, ← d3] at h3
 have h4 := wG l3 b3 sz R (j + 3) 4096 s.ds hR3 (by omega) hf.2.2.2.1 hf.2.2.2.2 (by rw [← e4]; omega)
 rw [← e4, ← d4] at h4
 clear e1 e2 e3 e4 d2 d3 d4 el eb
 repeat' ((first | apply ah | apply ai | apply af | apply ak mixed | apply ap mixed | (with_reducible first | refine au ?_ | refine aA (f := .c (.fn 56 [])) ?_ | refine aA (f := .c (.fn 73 [])) ?_ | refine aA (f := .c (.fn 75 [])) ?_ | refine aT (f := .c (.fn 76 [])) (z := []) (q := [0, 1, 2, 3, 4]) ?_ | refine aO (f := .c (.fn 76 [])) (z := []) (q := [0, 1, 2, 3, 4]) ?_ | refine aw ?_ | refine am (h1) (by simp) ?_ | refine am (h2) (by simp) ?_ | refine am (h3) (by simp) ?_ | refine am (h4) (by simp) ?_) | (with_reducible refine ⟨?_, ?_⟩; (focus ((repeat' with_reducible refine ⟨?_, ?_⟩) <;> first | exact trivial | assumption | (simp; done) | (simp only [zA] at *; omega) | omega | (simp [fs]; done) | exact ax))) | (with_reducible intro x hx) | omega) <;> (try simp only [Nat.reduceBEq, reduceIte, Nat.reduceEqDiff, Nat.reduceAdd, Nat.reduceSub, Nat.reduceLT, reduceCtorEq, ne_eq, fw, fd]))
 refine ay [0, 1, 2, 3] (by rfl) (by simp) (by simp [fg])
end Go.Proofs.YtgefljdclekadaaGreat

namespace Go.Proofs.YtgefljdclekadaaGreat
open Go Go.Vi
def Z17 : List D := [.int .u32 0, .int .i64 0, .int .i64 0, .bool false, .bool false, .int .i64 0, .int .i64 0, .int .i64 0, .int .i64 0, .list (some true) true [], .list (some true) true [], .list (some true) true [], .list (some true) true [], .int .i64 0, .list (some true) true [], .list (some true) true [], .list (some true) true []]
def mw (s : Rs) : En × Rs :=
 match aN 4294967295 s with
 | (v1, s1) =>
 match jJ s1 with
 | (v2, s2) =>
 (⟨v1, v2⟩, s2)
theorem pY (s : Rs) : (mw s).2.l.length ≤ s.l.length := by
 unfold mw
 have g1 := (aQ 4294967295 (by omega) s).1
 generalize aN 4294967295 s = q1 at g1 ⊢
 obtain ⟨v1, s1⟩ := q1
 dsimp only at g1 ⊢
 have g2 := ut s1
 generalize jJ s1 = q2 at g2 ⊢
 obtain ⟨v2, s2⟩ := q2
 dsimp only at g2 ⊢
 omega
set_option maxHeartbeats 8000000 in
theorem yr (s : Rs) (hl : s.l.length ≤ 1099511627776) :
  az Tryz.prog 110 [.ptr 0 0 0 1, .ptr 1 0 0 1] [Va 17 Z17, Bx 2, Cr 3 s.cb, Rd s.l s.rb] (.tup [])
   [Va 17 (mw s).1.row, Bx 2, Cr 3 (mw s).2.cb, Rd (mw s).2.l (mw s).2.rb] := by
 unfold mw
 obtain ⟨R, eR⟩ : ∃ R, R = Z17 := ⟨_, rfl⟩
 rw [← eR]
 have hN9 : R[9]? = some (.list (some true) true []) := by subst eR; rfl
 have hN10 : R[10]? = some (.list (some true) true []) := by subst eR; rfl
 have hN11 : R[11]? = some (.list (some true) true []) := by subst eR; rfl
 have hN12 : R[12]? = some (.list (some true) true []) := by subst eR; rfl
 have hN14 : R[14]? = some (.list (some true) true []) := by subst eR; rfl
 have hN15 : R[15]? = some (.list (some true) true []) := by subst eR; rfl
 have hN16 : R[16]? = some (.list (some true) true []) := by subst eR; rfl
 have z0 : R.length = 17 := by subst eR; rfl
 have g1 := (aQ 4294967295 (by omega) s).1
 have h1 : az Tryz.prog 78 [.ptr 0 0 0 1, .ptr 2 0 0 1] [Cr 1 s.cb, Rd s.l s.rb, Va 17 R] (.tup []) [Cr 1 (aN 4294967295 s).2.cb, Rd (aN 4294967295 s).2.l (aN 4294967295 s).2.rb, Va 17 (R.set 0 (.int .u32 (((aN 4294967295 s).1 : Nat) : Int)))] := ff s.l s.rb s.cb 17 R 0 (by omega) (by omega) (by omega)
 generalize aN 4294967295 s = q1 at h1 g1 ⊢
 obtain ⟨v1, s1⟩ := q1
 dsimp only at h1 g1 ⊢
 obtain ⟨R1, e1⟩ : ∃ R1, R1 = R.set 0 (.int .u32 ((v1 : Nat) : Int)) := ⟨_, rfl⟩
 rw [← e1] at h1
 have z1 : R1.length = 17 := by rw [e1, zF] <;> exact z0
 have k1 : ∀ x : Nat, x ≠ 0 → R1[x]? = R[x]? := fun x hx => by rw [e1, zC (by omega)]
 have g2 := ut s1
 have h2 : az Tryz.prog 94 [.ptr 0 0 0 1, .ptr 2 0 1 1] [Cr 1 s1.cb, Rd s1.l s1.rb, Va 17 R1] (.tup []) [Cr 1 (jJ s1).2.cb, Rd (jJ s1).2.l (jJ s1).2.rb, Va 17 (evR R1 1 (jJ s1).1)] := cEv_r s1 17 R1 1 (by rw [k1 _ (by omega)]; exact hN9) (by rw [k1 _ (by omega)]; exact hN10) (by rw [k1 _ (by omega)]; exact hN11) (by rw [k1 _ (by omega)]; exact hN12) (by rw [k1 _ (by omega)]; exact hN14) (by rw [k1 _ (by omega)]; exact hN15) (by rw [k1 _ (by omega)]; exact hN16) (by omega) (by omega) (by omega)
 have f := ur s1
 generalize jJ s1 = q2 at h2 g2 f ⊢
 obtain ⟨v2, s2⟩ := q2
 dsimp only at h2 g2 f ⊢
 obtain ⟨R2, e2⟩ : ∃ R2, R2 = evR R1 1 v2 := ⟨_, rfl⟩
 rw [← e2] at h2
 have hm : R2.map fW = (⟨v1, v2⟩ : En).row := by
  rw [e2, e1, eR]
  obtain ⟨w1, w2, w3, w4, w5, w6, w7, w8⟩ := v2
  dsimp only at f
  rcases f with ⟨rfl, rfl⟩ | ⟨rfl, rfl, rfl, rfl, rfl⟩ <;> rfl
 have key : az Tryz.prog 110 [.ptr 0 0 0 1, .ptr 1 0 0 1] [Va 17 R, Bx 2, Cr 3 s.cb, Rd s.l s.rb] (.tup []) [Va 17 R2, Bx 2, Cr 3 s2.cb, Rd s2.l s2.rb] := by
  clear hm f eR e1 e2 z0 z1 k1
  refine aS Tryz.func110 low110 (by simp [c110]) ?_
  simp only [c110]
  repeat' ((first | apply ah | apply ai | apply af | apply ap mixed | (with_reducible first | refine au ?_ | refine aA (f := .c (.fn 78 [])) ?_ | refine aA (f := .c (.fn 94 [])) ?_ | refine aw ?_ | refine am (h1) (by simp) ?_ | refine am (h2) (by simp) ?_) | (with_reducible refine ⟨?_, ?_⟩; (focus ((repeat' with_reducible refine ⟨?_, ?_⟩) <;> first | exact trivial | assumption | (simp; done) | (simp only [zA] at *; omega) | omega | (simp [fs]; done) | exact ax))) | (with_reducible intro x hx) | omega) <;> (try simp only [Nat.reduceBEq, reduceIte, Nat.reduceEqDiff, Nat.reduceAdd, Nat.reduceSub, Nat.reduceLT, reduceCtorEq, fw, fd]))
  refine ay [0, 1, 2, 3] (by rfl) (by simp) (by simp [fg])
 exact key.nlO 0 _ rfl rfl rfl rfl hm
theorem wH (s : Rs) (sz : Nat) (R : List D) (j most : Nat) (hR : R[j]? = some (.list (some true) true [])) (hz : R.length = sz) (hm : most < 1000000) (hl : s.l.length ≤ 1099511627776) :
  az Tryz.prog 109 [.ptr 0 0 0 1, .ptr 2 0 j 1, .int .i64 most, .fn 110 [.ptr 3 0 0 1]] [Cr 1 s.cb, Rd s.l s.rb, Va sz R, Bx 0] (.tup [])
   [Cr 1 (aG mw most s).2.cb, Rd (aG mw most s).2.l (aG mw most s).2.rb, Va sz (R.set j (L (cW (aG mw most s).1))), Bx 0] :=
 fZ (rw_ := En.row) Tryz.func109 low109 (by decide) (by decide) (by decide) rfl (fun _ => rfl) rfl rfl (fun _ => rfl) (fun _ => rfl) (fun _ => rfl) pY yr s sz R j most hR hz hm hl
def gW (s : Rs) : (Us) × Rs :=
 match aN 4294967295 s with
 | (v1, s1) =>
 match jE s1 with
 | (v2, s2) =>
 match aN 18446744073709551615 s2 with
 | (v3, s3) =>
 match aG mw 64 s3 with
 | (v4, s4) =>
  (⟨v1, v2, v3, v4⟩, s4)
theorem uy (s : Rs) : (gW s).2.l.length ≤ s.l.length := by
 unfold gW
 have g1 := (aQ 4294967295 (by omega) s).1
 generalize aN 4294967295 s = q1 at g1 ⊢
 obtain ⟨v1, s1⟩ := q1
 dsimp only at g1 ⊢
 have g2 := ux s1
 generalize jE s1 = q2 at g2 ⊢
 obtain ⟨v2, s2⟩ := q2
 dsimp only at g2 ⊢
 have g3 := (aQ 18446744073709551615 (by omega) s2).1
 generalize aN 18446744073709551615 s2 = q3 at g3 ⊢
 obtain ⟨v3, s3⟩ := q3
 dsimp only at g3 ⊢
 have g4 := br pY 64 (by omega) s3
 generalize aG mw 64 s3 = q4 at g4 ⊢
 obtain ⟨v4, s4⟩ := q4
 dsimp only at g4 ⊢
 omega
set_option maxHeartbeats 4000000 in
theorem cUs_r (s : Rs) (sz : Nat) (R : List D) (j : Nat) (hN2 : R[j + 2]? = some (.list (some true) true [])) (hN3 : R[j + 3]? = some (.list (some true) true [])) (hN4 : R[j + 4]? = some (.list (some true) true [])) (hN8 : R[j + 8]? = some (.list (some true) true [])) (hz : R.length = sz) (hj : j + 9 ≤ sz) (hl : s.l.length ≤ 1099511627776) :
  az Tryz.prog 74 [.ptr 0 0 0 1, .ptr 2 0 j 1] [Cr 1 s.cb, Rd s.l s.rb, Va sz R] (.tup [])
   [Cr 1 (gW s).2.cb, Rd (gW s).2.l (gW s).2.rb, Va sz (cJ R j [.int .u32 (gW s).1.id, .int .i64 (gW s).1.se.base, L (aV .i64 .i64 (gW s).1.se.turns), L (bo (gW s).1.se.shifts), L (aJ .i64 (gW s).1.se.off), .int .i64 (gW s).1.se.before, .int .i64 (gW s).1.se.after, .int .u64 (gW s).1.ver, L (cW (gW s).1.evs)])] := by
 refine aS Tryz.func74 low74 (by simp [c74]) ?_
 simp only [c74]
 unfold gW
 have z0 := hz
 have k0 : ∀ x, j + 0 ≤ x → R[x]? = R[x]? := fun _ _ => rfl
 have g1 := (aQ 4294967295 (by omega) s).1
 have h1 : az Tryz.prog 78 [.ptr 0 0 0 1, .ptr 2 0 j 1] [Cr 1 s.cb, Rd s.l s.rb, Va sz R] (.tup []) [Cr 1 (aN 4294967295 s).2.cb, Rd (aN 4294967295 s).2.l (aN 4294967295 s).2.rb, Va sz (R.set j (.int .u32 (((aN 4294967295 s).1 : Nat) : Int)))] := ff s.l s.rb s.cb sz R j (by omega) (by omega) (by omega)
 generalize aN 4294967295 s = q1 at h1 g1 ⊢
 obtain ⟨v1, s1⟩ := q1
 dsimp only at h1 g1 ⊢
 obtain ⟨R1, e1⟩ : ∃ R1, R1 = R.set j (.int .u32 ((v1 : Nat) : Int)) := ⟨_, rfl⟩
 rw [← e1] at h1
 have z1 : R1.length = sz := by rw [e1, zF]; exact z0
 have k1 : ∀ x, j + 1 ≤ x → R1[x]? = R[x]? := fun x hx => by rw [e1, zC (by omega)] <;> exact k0 x (by omega)
 have g2 := ux s1
 have h2 : az Tryz.prog 93 [.ptr 0 0 0 1, .ptr 2 0 (j + 1) 1] [Cr 1 s1.cb, Rd s1.l s1.rb, Va sz R1] (.tup []) [Cr 1 (jE s1).2.cb, Rd (jE s1).2.l (jE s1).2.rb, Va sz (cJ R1 (j + 1) [.int .i64 (jE s1).1.base, L (aV .i64 .i64 (jE s1).1.turns), L (bo (jE s1).1.shifts), L (aJ .i64 (jE s1).1.off), .int .i64 (jE s1).1.before, .int .i64 (jE s1).1.after])] := cSe_r s1 sz R1 (j + 1) (by rw [k1 _ (by omega)]; exact hN2) (by rw [k1 _ (by omega)]; exact hN3) (by rw [k1 _ (by omega)]; exact hN4) (by omega) (by omega) (by omega)
 generalize jE s1 = q2 at h2 g2 ⊢
 obtain ⟨v2, s2⟩ := q2
 dsimp only at h2 g2 ⊢
 obtain ⟨R2, e2⟩ : ∃ R2, R2 = cJ R1 (j + 1) [.int .i64 v2.base, L (aV .i64 .i64 v2.turns), L (bo v2.shifts), L (aJ .i64 v2.off), .int .i64 v2.before, .int .i64 v2.after] := ⟨_, rfl⟩
 rw [← e2] at h2
 have z2 : R2.length = sz := by rw [e2, dG]; exact z1
 have k2 : ∀ x, j + 7 ≤ x → R2[x]? = R[x]? := fun x hx => by rw [e2, dF _ _ _ _ (by simp only [zK, zL]; omega)] <;> exact k1 x (by omega)
 have g3 := (aQ 18446744073709551615 (by omega) s2).1
 have h3 : az Tryz.prog 53 [.ptr 0 0 0 1, .ptr 2 0 (j + 7) 1, .int .u64 18446744073709551615] [Cr 1 s2.cb, Rd s2.l s2.rb, Va sz R2] (.tup []) [Cr 1 (aN 18446744073709551615 s2).2.cb, Rd (aN 18446744073709551615 s2).2.l (aN 18446744073709551615 s2).2.rb, Va sz (R2.set (j + 7) (.int .u64 (((aN 18446744073709551615 s2).1 : Nat) : Int)))] := gI s2.l s2.rb s2.cb sz R2 (j + 7) 18446744073709551615 (by omega) (by omega) (by omega) (by omega)
 generalize aN 18446744073709551615 s2 = q3 at h3 g3 ⊢
 obtain ⟨v3, s3⟩ := q3
 dsimp only at h3 g3 ⊢
 obtain ⟨R3, e3⟩ : ∃ R3, R3 = R2.set (j + 7) (.int .u64 ((v3 : Nat) : Int)) := ⟨_, rfl⟩
 rw [← e3] at h3
 have z3 : R3.length = sz := by rw [e3, zF]; exact z2
 have k3 : ∀ x, j + 8 ≤ x → R3[x]? = R[x]? := fun x hx => by rw [e3, zC (by omega)] <;> exact k2 x (by omega)
 have g4 := br pY 64 (by omega) s3
 have h4 : az Tryz.prog 109 [.ptr 0 0 0 1, .ptr 2 0 (j + 8) 1, .int .i64 64, .fn 110 [.ptr 3 0 0 1]] [Cr 1 s3.cb, Rd s3.l s3.rb, Va sz R3, Bx 0] (.tup []) [Cr 1 (aG mw 64 s3).2.cb, Rd (aG mw 64 s3).2.l (aG mw 64 s3).2.rb, Va sz (R3.set (j + 8) (L (cW (aG mw 64 s3).1))), Bx 0] := wH s3 sz R3 (j + 8) 64 (by rw [k3 _ (by omega)]; exact hN8) (by omega) (by omega) (by omega)
 generalize aG mw 64 s3 = q4 at h4 g4 ⊢
 obtain ⟨v4, s4⟩ := q4
 dsimp only at h4 g4 ⊢
 obtain ⟨R4, e4⟩ : ∃ R4, R4 = R3.set (j + 8) (L (cW v4)) := ⟨_, rfl⟩
 rw [← e4] at h4
 have z4 : R4.length = sz := by rw [e4, zF]; exact z3
 have k4 : ∀ x, j + 9 ≤ x → R4[x]? = R[x]? := fun x hx => by rw [e4, zC (by omega)] <;> exact k3 x (by omega)
 have eR : cJ R j [.int .u32 (⟨v1, v2, v3, v4⟩ : Us).id, .int .i64 (⟨v1, v2, v3, v4⟩ : Us).se.base, L (aV .i64 .i64 (⟨v1, v2, v3, v4⟩ : Us).se.turns), L (bo (⟨v1, v2, v3, v4⟩ : Us).se.shifts), L (aJ .i64 (⟨v1, v2, v3, v4⟩ : Us).se.off), .int .i64 (⟨v1, v2, v3, v4⟩ : Us).se.before, .int .i64 (⟨v1, v2, v3, v4⟩ : Us).se.after, .int .u64 (⟨v1, v2, v3, v4⟩ : Us).ver, L (cW (⟨v1, v2, v3, v4⟩ : Us).evs)] = R4 := by rw [e4, e3, e2, e1] <;> rfl
 rw [eR]
 clear eR e1 e2 e3 e4 k0 k1 k2 k3 k4 z1 z2 z3 z4
 repeat' ((first | apply ah | apply ai | apply af | apply ak mixed | apply ap mixed | (with_reducible first | refine au ?_ | refine aA (f := .c (.fn 78 [])) ?_ | refine aA (f := .c (.fn 93 [])) ?_ | refine aA (f := .c (.fn 53 [])) ?_ | refine aT (f := .c (.fn 109 [])) (z := []) (q := [0, 1, 2, 3]) ?_ | refine aO (f := .c (.fn 109 [])) (z := []) (q := [0, 1, 2, 3]) ?_ | refine aw ?_ | refine am (h1) (by simp) ?_ | refine am (h2) (by simp) ?_ | refine am (h3) (by simp) ?_ | refine am (h4) (by simp) ?_) | (with_reducible refine ⟨?_, ?_⟩; (focus ((repeat' with_reducible refine ⟨?_, ?_⟩) <;> first | exact trivial | assumption | (simp; done) | (simp only [zA] at *; omega) | omega | (simp [fs]; done) | exact ax))) | (with_reducible intro x hx) | omega) <;> (try simp only [Nat.reduceBEq, reduceIte, Nat.reduceEqDiff, Nat.reduceAdd, Nat.reduceSub, Nat.reduceLT, reduceCtorEq, ne_eq, fw, fd]))
 refine ay [0, 1, 2] (by rfl) (by simp) (by simp [fg])
set_option maxHeartbeats 16000000 in
theorem xd (s : Rs) (sz : Nat) (R : List D) (j most : Nat) (hR : R[j]? = some (.list (some true) true [])) (hz : R.length = sz) (hm : most < 1000000) (hl : s.l.length ≤ 1099511627776) :
  az Tryz.prog 73 [.ptr 0 0 0 1, .ptr 2 0 j 1, .int .i64 most, .fn 4170 [.ptr 0 0 0 1]] [Cr 1 s.cb, Rd s.l s.rb, Va sz R] (.tup [])
   [Cr 1 (aG gW most s).2.cb, Rd (aG gW most s).2.l (aG gW most s).2.rb, Va sz (R.set j (L (bP (aG gW most s).1)))] := by
 refine aS Tryz.func73 low73 (by simp [c73, du]) ?_
 simp only [c73, du]
 have hn : az Tryz.prog 53 [.ptr 0 0 0 1, .ptr 2 0 0 1, .int .u64 most] [Cr 1 s.cb, Rd s.l s.rb, Va 1 [.int .u64 0]] (.tup []) [Cr 1 (aN most s).2.cb, Rd (aN most s).2.l (aN most s).2.rb, Va 1 [.int .u64 (aN most s).1]] := gI s.l s.rb s.cb 1 [.int .u64 0] 0 most rfl (by omega) (by omega) hl
 obtain ⟨X, hX⟩ : ∃ X, aG gW most s = X := ⟨_, rfl⟩
 rw [hX]
 unfold aG at hX
 obtain ⟨g1, g2⟩ := aQ most (by omega) s
 generalize aN most s = q at hn hX g1 g2
 obtain ⟨n, s0⟩ := q
 dsimp only at hn hX g1 g2
 have hj : j < R.length := (zG.1 hR).1
 have z0 : (((0 : Nat) : Int)) = 0 := rfl
 refine iA 2 rfl rfl fun hpt => ?_
 have hpt : ∀ x ∈ R, x.pt1 = true := fun x hx => hpt R (by simp) x hx
 have own1 : ∀ d : D, (R.set j d)[j]? = some d := fun d => by rw [List.getElem?_set_self hj]
 have own2 : ∀ d e : D, (R.set j d).take j ++ [e] ++ (R.set j d).drop (j + 1) = R.set j e := fun d e => by
  rw [kU (by rw [zF]; exact hj), List.set_set]
 have pl5 : ∀ (σ : List Ob) (k n : Nat), bV (cg true [0, 1, 2, 4] σ) (R.set j (.own 4 0 k n 9 none)) = some (R.set j (.own 3 0 k n 9 none)) := fun σ k n => eC hpt rfl
 have pl4 : ∀ (σ : List Ob) (k n : Nat), bV (cg true [0, 1, 2, 3] σ) (R.set j (.own 3 0 k n 9 none)) = some (R.set j (.own 3 0 k n 9 none)) := fun σ k n => eC hpt rfl
 have plL : ∀ (σ : List Ob) (rows : List (List D)), bV (cg true [0, 1, 2] σ) (R.set j (.list none false rows)) = some (R.set j (.list none false rows)) := fun σ rows => jW hpt rfl
 have allL : ∀ rows : List (List D), (R.set j (.list none false rows)).all D.pt1 = true := fun rows => jM hpt rfl
 have hz' : (j + 1 ≤ sz) = True := eq_true (by omega)
 repeat' ((first | apply ah | apply al | apply ao | apply av | refine aq rfl ?_ | apply ai | apply af | apply ab | apply ak mixed | apply ap mixed | (with_reducible first | refine au ?_ | refine aB (f := .c (.fn 53 [])) ?_ | refine ar ?_ | refine am (hn) (by simp) ?_) | simp (disch := omega) only [aF] | ((first | refine aj ?_ ?_ | refine aa ?_ ?_) <;> intro hc <;> (try simp only [hc]) <;> try simp at hc) | (with_reducible refine ⟨?_, ?_⟩; (focus ((repeat' with_reducible refine ⟨?_, ?_⟩) <;> first | exact trivial | assumption | (simp; done) | (simp only [zA] at *; omega) | omega | (simp [fs]; done) | exact ax))) | (with_reducible intro x hx) | omega) <;> (try simp only [hR, z0, Nat.reduceBEq, reduceIte, Nat.reduceEqDiff, Nat.reduceAdd, Nat.reduceSub, Nat.reduceLT, reduceCtorEq, cond_false, ne_eq, fw, fd]))
 refine ck (gq (l := 2) (j := 0) (i := j) (b := true) 9 true (by decide) rfl rfl rfl rfl hR) ?_
 refine aM (ι := {p : Nat × Rs × List Us // dz gW p.1 p.2.1 p.2.2 = X ∧ p.2.2.length + p.1 = n ∧ p.2.1.l.length ≤ s0.l.length}) (fun p => ([(0, .ptr 0 0 0 1), (1, .ptr 2 0 j 1), (3, .fn 4170 [.ptr 0 0 0 1]), (42, .int .u64 n), (43, .int .u64 p.1.2.2.length)],
  [Cr 1 p.1.2.1.cb, Rd p.1.2.1.l p.1.2.1.rb, ⟨true, false, false, false, sz, [R.set j (.own 3 0 p.1.2.2.length p.1.2.2.length 9 none)], some 0⟩, ba true 9 true (bP p.1.2.2)])) (fun p => p.1.1) ⟨(n, s0, []), hX, by simp, Nat.le_refl _⟩ ?_ ?_
 ·simp only [zL, show bP [] = [] from rfl]
  refine aC [0, 1, 2, 4] (by rfl) (by simp) (by simp [pl5, fg]) (by simp [fg])
  skip
 rintro ⟨⟨k, s1, xs⟩, hk1, hk2, hk3⟩ hk
 dsimp only at hk1 hk2 hk3 hk ⊢
 have fin : ∀ (env : bK) (ys : List Us) (s2 : Rs) (ex : List Ob), iz [Cr 1 s.cb, Rd s.l s.rb, Va sz R] env (Cr 1 s2.cb :: Rd s2.l s2.rb :: ⟨true, false, false, false, sz, [R.set j (.own 3 0 ys.length ys.length 9 none)], some 0⟩ :: ba true 9 true (bP ys) :: ex) env
   (Cr 1 s2.cb :: Rd s2.l s2.rb :: ⟨true, false, false, false, sz, [R.set j (L (bP ys))], some 0⟩ :: { ba true 9 true (bP ys) with fz := true } :: ex) := fun env ys s2 ex => by
  refine iz.trans (fQ 3) ?_
  have := gO (base := [Cr 1 s.cb, Rd s.l s.rb, Va sz R]) (env := env) (σ := Cr 1 s2.cb :: Rd s2.l s2.rb :: ⟨true, false, false, false, sz, [R.set j (.own 3 0 ys.length ys.length 9 none)], some 0⟩ :: { ba true 9 true (bP ys) with fz := true } :: ex) (l := 2) (j := 0) (i := j) (m := 3) (rows := bP ys) rfl rfl rfl rfl (own1 _) rfl rfl (by
   rw [dl]
   show lg (some _) _ _ _ = _
   rw [dk]
   simp [ep, eo, dE, eH])
  simp only [List.set_cons_zero, List.set_cons_succ, List.set_set] at this
  exact this
 by_cases hlt : 0 < k
 ·obtain ⟨k, rfl⟩ : ∃ k', k = k' + 1 := ⟨k - 1, by omega⟩
  have c1 : (((xs.length : Nat) : Int) < ((n : Nat) : Int)) = True := by simp; omega
  have he : az Tryz.prog 74 [.ptr 0 0 0 1, .ptr 2 0 0 1] [Cr 1 s1.cb, Rd s1.l s1.rb, Va 9 [.int .u32 0, .int .i64 0, .list (some true) true [], .list (some true) true [], .list (some true) true [], .int .i64 0, .int .i64 0, .int .u64 0, .list (some true) true []]] (.tup []) [Cr 1 (gW s1).2.cb, Rd (gW s1).2.l (gW s1).2.rb, Va 9 (gW s1).1.row] := cUs_r s1 9 [.int .u32 0, .int .i64 0, .list (some true) true [], .list (some true) true [], .list (some true) true [], .int .i64 0, .int .i64 0, .int .u64 0, .list (some true) true []] 0 rfl rfl rfl rfl rfl (by omega) (by omega)
  have hle := uy s1
  unfold dz at hk1
  generalize gW s1 = q at he hk1 hle
  obtain ⟨v, s2⟩ := q
  dsimp only at he hk1 hle
  have hcell : v.row = [.int .u32 v.id, .int .i64 v.se.base, L (aV .i64 .i64 v.se.turns), L (bo v.se.shifts), L (aJ .i64 v.se.off), .int .i64 v.se.before, .int .i64 v.se.after, .int .u64 v.ver, L (cW v.evs)] := rfl
  rw [hcell] at he
  by_cases hb : s2.rb = true ∨ s2.cb = true
  ·rw [if_pos hb] at hk1
   rw [← hk1]
   obtain ⟨l2, rb2, cb2⟩ := s2
   dsimp only at he hb ⊢
   cases rb2
   ·obtain rfl : cb2 = true := by simpa using hb
    repeat' ((first | apply ah | apply al | apply ao | apply av | refine aq rfl ?_ | apply af | apply ab | apply ak mixed | apply ap mixed | (with_reducible first | refine au ?_ | refine eD (f := .t 45) ?_ | refine dO (f := .t 45) ?_ | refine ar ?_ | refine am (he) (by simp) ?_) | refine ae (cZ _ _) ?_ ?_ | simp (disch := omega) only [aW, aF, aK, aL, bg, zI, zH] | ((first | refine aj ?_ ?_ | refine aa ?_ ?_) <;> intro hc <;> (try simp only [hc]) <;> try simp at hc) | (with_reducible refine ⟨?_, ?_⟩; (focus ((repeat' with_reducible refine ⟨?_, ?_⟩) <;> first | exact trivial | assumption | (simp; done) | (simp only [zA] at *; omega) | omega | (simp [fs]; done) | exact ax))) | (with_reducible intro x hx) | omega) <;> (try simp only [c1, Nat.reduceBEq, reduceIte, Nat.reduceEqDiff, Nat.reduceAdd, Nat.reduceSub, Nat.reduceLT, Nat.reduceLeDiff, reduceCtorEq, cond_false, ne_eq, fv, fw, fd]))
    refine ck (fin _ xs ⟨l2, false, true⟩ [Va 9 [.int .u32 v.id, .int .i64 v.se.base, L (aV .i64 .i64 v.se.turns), L (bo v.se.shifts), L (aJ .i64 v.se.off), .int .i64 v.se.before, .int .i64 v.se.after, .int .u64 v.ver, L (cW v.evs)]]) ?_
    repeat' ((first | apply ah | apply al | apply ao | apply av | refine aq rfl ?_ | apply ai | apply af | apply ab | apply ak mixed | apply ap mixed | (with_reducible first | refine au ?_ | refine ar ?_) | simp (disch := omega) only [aW, aF, aK, aL, bg, zI, zH] | ((first | refine aj ?_ ?_ | refine aa ?_ ?_) <;> intro hc <;> (try simp only [hc]) <;> try simp at hc) | (with_reducible refine ⟨?_, ?_⟩; (focus ((repeat' with_reducible refine ⟨?_, ?_⟩) <;> first | exact trivial | assumption | (simp; done) | (simp only [zA] at *; omega) | omega | (simp [fs]; done) | exact ax))) | (with_reducible intro x hx) | omega) <;> (try simp only [cf, fw]))
    refine ay [0, 1, 2] (by rfl) (by simp) (by simp [plL, allL, fg])
   ·repeat' ((first | apply ah | apply al | apply ao | apply av | refine aq rfl ?_ | apply af | apply ab | apply ak mixed | apply ap mixed | (with_reducible first | refine au ?_ | refine eD (f := .t 45) ?_ | refine dO (f := .t 45) ?_ | refine ar ?_ | refine am (he) (by simp) ?_) | refine ae (cZ _ _) ?_ ?_ | simp (disch := omega) only [aW, aF, aK, aL, bg, zI, zH] | ((first | refine aj ?_ ?_ | refine aa ?_ ?_) <;> intro hc <;> (try simp only [hc]) <;> try simp at hc) | (with_reducible refine ⟨?_, ?_⟩; (focus ((repeat' with_reducible refine ⟨?_, ?_⟩) <;> first | exact trivial | assumption | (simp; done) | (simp only [zA] at *; omega) | omega | (simp [fs]; done) | exact ax))) | (with_reducible intro x hx) | omega) <;> (try simp only [c1, Nat.reduceBEq, reduceIte, Nat.reduceEqDiff, Nat.reduceAdd, Nat.reduceSub, Nat.reduceLT, Nat.reduceLeDiff, reduceCtorEq, cond_true, ne_eq, fv, fw, fd]))
    refine ck (fin _ xs ⟨l2, true, cb2⟩ [Va 9 [.int .u32 v.id, .int .i64 v.se.base, L (aV .i64 .i64 v.se.turns), L (bo v.se.shifts), L (aJ .i64 v.se.off), .int .i64 v.se.before, .int .i64 v.se.after, .int .u64 v.ver, L (cW v.evs)]]) ?_
    repeat' ((first | apply ah | apply al | apply ao | apply av | refine aq rfl ?_ | apply ai | apply af | apply ab | apply ak mixed | apply ap mixed | (with_reducible first | refine au ?_ | refine ar ?_) | simp (disch := omega) only [aW, aF, aK, aL, bg, zI, zH] | ((first | refine aj ?_ ?_ | refine aa ?_ ?_) <;> intro hc <;> (try simp only [hc]) <;> try simp at hc) | (with_reducible refine ⟨?_, ?_⟩; (focus ((repeat' with_reducible refine ⟨?_, ?_⟩) <;> first | exact trivial | assumption | (simp; done) | (simp only [zA] at *; omega) | omega | (simp [fs]; done) | exact ax))) | (with_reducible intro x hx) | omega) <;> (try simp only [cf, fw]))
    refine ay [0, 1, 2] (by rfl) (by simp) (by simp [plL, allL, fg])
  ·rw [if_neg hb] at hk1
   obtain ⟨l2, rb2, cb2⟩ := s2
   dsimp only at he hb hle hk1 ⊢
   obtain ⟨rfl, rfl⟩ : rb2 = false ∧ cb2 = false := by simpa using hb
   have hu : bP xs ++ [[.int .u32 v.id, .int .i64 v.se.base, L (aV .i64 .i64 v.se.turns), L (bo v.se.shifts), L (aJ .i64 v.se.off), .int .i64 v.se.before, .int .i64 v.se.after, .int .u64 v.ver, L (cW v.evs)]] = bP (xs ++ [v]) := by simp [bP, Us.row]
   repeat' ((first | apply ah | apply al | apply ao | apply av | refine aq rfl ?_ | apply ai | apply af | apply ab | apply ak mixed | apply ap mixed | (with_reducible first | refine au ?_ | refine eD (f := .t 45) ?_ | refine dO (f := .t 45) ?_ | refine ar ?_ | refine am (he) (by simp) ?_) | refine ae (cZ _ _) ?_ ?_ | simp (disch := omega) only [aF] | ((first | refine aj ?_ ?_ | refine aa ?_ ?_) <;> intro hc <;> (try simp only [hc]) <;> try simp at hc) | (with_reducible refine ⟨?_, ?_⟩; (focus ((repeat' with_reducible refine ⟨?_, ?_⟩) <;> first | exact trivial | assumption | (simp; done) | omega | (simp [fs]; done) | exact ax))) | (with_reducible intro x hx) | omega) <;> (try simp only [dE, c1, own1, own2, hz', hu, Nat.reduceBEq, reduceIte, Nat.reduceEqDiff, Nat.reduceAdd, Nat.reduceSub, Nat.reduceLT, Nat.reduceLeDiff, reduceCtorEq, cond_false, ne_eq, fv, fw, fd]))
   refine hk ⟨(k, ⟨l2, false, false⟩, xs ++ [v]), hk1, by rw [zB, zK, zL]; omega, by dsimp only; omega⟩ _ _ (by dsimp only; omega) ?_
   dsimp only
   simp only [zB, zK, zL]
   refine aC [0, 1, 2, 3] (by rfl) (by simp) (by simp [pl4, fg]) (by simp [fg])
   skip
 ·obtain rfl : k = 0 := by omega
  have c1 : (((xs.length : Nat) : Int) < ((n : Nat) : Int)) = False := by simp; omega
  unfold dz at hk1
  rw [← hk1]
  dsimp only
  refine ck (fin _ xs s1 []) ?_
  repeat' ((first | apply ah | apply al | apply ao | apply av | refine aq rfl ?_ | apply ai | apply af | apply ab | apply ak mixed | apply ap mixed | (with_reducible first | refine au ?_ | refine ar ?_) | simp (disch := omega) only [aW, aF, aK, aL, bg, zI, zH] | ((first | refine aj ?_ ?_ | refine aa ?_ ?_) <;> intro hc <;> (try simp only [hc]) <;> try simp at hc) | (with_reducible refine ⟨?_, ?_⟩; (focus ((repeat' with_reducible refine ⟨?_, ?_⟩) <;> first | exact trivial | assumption | (simp; done) | (simp only [zA] at *; omega) | omega | (simp [fs]; done) | exact ax))) | (with_reducible intro x hx) | omega) <;> (try simp only [c1, Nat.reduceBEq, reduceIte, fH, bh, cf, fw]))
  refine ay [0, 1, 2] (by rfl) (by simp) (by simp [plL, allL, fg])
  skip
set_option maxHeartbeats 16000000 in
theorem wU (s : Rs) (sz : Nat) (R : List D) (j most : Nat) (hR : R[j]? = some (.list (some true) true [])) (hz : R.length = sz) (hm : most < 1000000) (hl : s.l.length ≤ 1099511627776) :
  az Tryz.prog 75 [.ptr 0 0 0 1, .ptr 2 0 j 1, .int .i64 most, .fn 4156 [.ptr 0 0 0 1]] [Cr 1 s.cb, Rd s.l s.rb, Va sz R] (.tup [])
   [Cr 1 (aG fO most s).2.cb, Rd (aG fO most s).2.l (aG fO most s).2.rb, Va sz (R.set j (L (bO (aG fO most s).1)))] := by
 refine aS Tryz.func75 low75 (by simp [c75, du]) ?_
 simp only [c75, du]
 have hn : az Tryz.prog 53 [.ptr 0 0 0 1, .ptr 2 0 0 1, .int .u64 most] [Cr 1 s.cb, Rd s.l s.rb, Va 1 [.int .u64 0]] (.tup []) [Cr 1 (aN most s).2.cb, Rd (aN most s).2.l (aN most s).2.rb, Va 1 [.int .u64 (aN most s).1]] := gI s.l s.rb s.cb 1 [.int .u64 0] 0 most rfl (by omega) (by omega) hl
 obtain ⟨X, hX⟩ : ∃ X, aG fO most s = X := ⟨_, rfl⟩
 rw [hX]
 unfold aG at hX
 obtain ⟨g1, g2⟩ := aQ most (by omega) s
 generalize aN most s = q at hn hX g1 g2
 obtain ⟨n, s0⟩ := q
 dsimp only at hn hX g1 g2
 have hj : j < R.length := (zG.1 hR).1
 have z0 : (((0 : Nat) : Int)) = 0 := rfl
 refine iA 2 rfl rfl fun hpt => ?_
 have hpt : ∀ x ∈ R, x.pt1 = true := fun x hx => hpt R (by simp) x hx
 have own1 : ∀ d : D, (R.set j d)[j]? = some d := fun d => by rw [List.getElem?_set_self hj]
 have own2 : ∀ d e : D, (R.set j d).take j ++ [e] ++ (R.set j d).drop (j + 1) = R.set j e := fun d e => by
  rw [kU (by rw [zF]; exact hj), List.set_set]
 have pl5 : ∀ (σ : List Ob) (k n : Nat), bV (cg true [0, 1, 2, 4] σ) (R.set j (.own 4 0 k n 16 none)) = some (R.set j (.own 3 0 k n 16 none)) := fun σ k n => eC hpt rfl
 have pl4 : ∀ (σ : List Ob) (k n : Nat), bV (cg true [0, 1, 2, 3] σ) (R.set j (.own 3 0 k n 16 none)) = some (R.set j (.own 3 0 k n 16 none)) := fun σ k n => eC hpt rfl
 have plL : ∀ (σ : List Ob) (rows : List (List D)), bV (cg true [0, 1, 2] σ) (R.set j (.list none false rows)) = some (R.set j (.list none false rows)) := fun σ rows => jW hpt rfl
 have allL : ∀ rows : List (List D), (R.set j (.list none false rows)).all D.pt1 = true := fun rows => jM hpt rfl
 have hz' : (j + 1 ≤ sz) = True := eq_true (by omega)
 repeat' ((first | apply ah | apply al | apply ao | apply av | refine aq rfl ?_ | apply ai | apply af | apply ab | apply ak mixed | apply ap mixed | (with_reducible first | refine au ?_ | refine aB (f := .c (.fn 53 [])) ?_ | refine ar ?_ | refine am (hn) (by simp) ?_) | simp (disch := omega) only [aF] | ((first | refine aj ?_ ?_ | refine aa ?_ ?_) <;> intro hc <;> (try simp only [hc]) <;> try simp at hc) | (with_reducible refine ⟨?_, ?_⟩; (focus ((repeat' with_reducible refine ⟨?_, ?_⟩) <;> first | exact trivial | assumption | (simp; done) | (simp only [zA] at *; omega) | omega | (simp [fs]; done) | exact ax))) | (with_reducible intro x hx) | omega) <;> (try simp only [hR, z0, Nat.reduceBEq, reduceIte, Nat.reduceEqDiff, Nat.reduceAdd, Nat.reduceSub, Nat.reduceLT, reduceCtorEq, cond_false, ne_eq, fw, fd]))
 refine ck (gq (l := 2) (j := 0) (i := j) (b := true) 16 true (by decide) rfl rfl rfl rfl hR) ?_
 refine aM (ι := {p : Nat × Rs × List Po // dz fO p.1 p.2.1 p.2.2 = X ∧ p.2.2.length + p.1 = n ∧ p.2.1.l.length ≤ s0.l.length}) (fun p => ([(0, .ptr 0 0 0 1), (1, .ptr 2 0 j 1), (3, .fn 4156 [.ptr 0 0 0 1]), (42, .int .u64 n), (43, .int .u64 p.1.2.2.length)],
  [Cr 1 p.1.2.1.cb, Rd p.1.2.1.l p.1.2.1.rb, ⟨true, false, false, false, sz, [R.set j (.own 3 0 p.1.2.2.length p.1.2.2.length 16 none)], some 0⟩, ba true 16 true (bO p.1.2.2)])) (fun p => p.1.1) ⟨(n, s0, []), hX, by simp, Nat.le_refl _⟩ ?_ ?_
 ·simp only [zL, show bO [] = [] from rfl]
  refine aC [0, 1, 2, 4] (by rfl) (by simp) (by simp [pl5, fg]) (by simp [fg])
  skip
 rintro ⟨⟨k, s1, xs⟩, hk1, hk2, hk3⟩ hk
 dsimp only at hk1 hk2 hk3 hk ⊢
 have fin : ∀ (env : bK) (ys : List Po) (s2 : Rs) (ex : List Ob), iz [Cr 1 s.cb, Rd s.l s.rb, Va sz R] env (Cr 1 s2.cb :: Rd s2.l s2.rb :: ⟨true, false, false, false, sz, [R.set j (.own 3 0 ys.length ys.length 16 none)], some 0⟩ :: ba true 16 true (bO ys) :: ex) env
   (Cr 1 s2.cb :: Rd s2.l s2.rb :: ⟨true, false, false, false, sz, [R.set j (L (bO ys))], some 0⟩ :: { ba true 16 true (bO ys) with fz := true } :: ex) := fun env ys s2 ex => by
  refine iz.trans (fQ 3) ?_
  have := gO (base := [Cr 1 s.cb, Rd s.l s.rb, Va sz R]) (env := env) (σ := Cr 1 s2.cb :: Rd s2.l s2.rb :: ⟨true, false, false, false, sz, [R.set j (.own 3 0 ys.length ys.length 16 none)], some 0⟩ :: { ba true 16 true (bO ys) with fz := true } :: ex) (l := 2) (j := 0) (i := j) (m := 3) (rows := bO ys) rfl rfl rfl rfl (own1 _) rfl rfl (by
   rw [dl]
   show lg (some _) _ _ _ = _
   rw [dk]
   simp [ep, eo, dD, eH])
  simp only [List.set_cons_zero, List.set_cons_succ, List.set_set] at this
  exact this
 by_cases hlt : 0 < k
 ·obtain ⟨k, rfl⟩ : ∃ k', k = k' + 1 := ⟨k - 1, by omega⟩
  have c1 : (((xs.length : Nat) : Int) < ((n : Nat) : Int)) = True := by simp; omega
  have he : az Tryz.prog 60 [.ptr 0 0 0 1, .ptr 2 0 0 1] [Cr 1 s1.cb, Rd s1.l s1.rb, Va 16 [.int .u32 0, .int .u32 0, .int .i64 0, .int .i64 0, .int .i64 0, .int .i64 0, .list (some true) true [], .list (some true) true [], .int .i64 0, .list (some true) true [], .list (some true) true [], .list (some true) true [], .list (some true) true [], .int .i64 0, .int .i64 0, .int .i64 0]] (.tup []) [Cr 1 (fO s1).2.cb, Rd (fO s1).2.l (fO s1).2.rb, Va 16 (fO s1).1.row] := cPo_r s1 16 [.int .u32 0, .int .u32 0, .int .i64 0, .int .i64 0, .int .i64 0, .int .i64 0, .list (some true) true [], .list (some true) true [], .int .i64 0, .list (some true) true [], .list (some true) true [], .list (some true) true [], .list (some true) true [], .int .i64 0, .int .i64 0, .int .i64 0] 0 rfl rfl rfl rfl rfl rfl rfl (by omega) (by omega)
  have hle := uu s1
  unfold dz at hk1
  generalize fO s1 = q at he hk1 hle
  obtain ⟨v, s2⟩ := q
  dsimp only at he hk1 hle
  have hcell : v.row = [.int .u32 v.id, .int .u32 v.owner, .int .i64 v.qu.a, .int .i64 v.qu.b, .int .i64 v.qu.long, .int .i64 v.qu.grid, L (aJ .u32 v.qu.must), L (aV .u32 .i64 v.qu.may), .int .i64 v.qu.seats, L (aV .u32 .u32 v.qu.apart), L (bo v.qu.prefer), L (aJ .i64 v.slots), L (aV .u32 .i64 v.votes), .int .i64 v.til, .int .i64 v.state, .int .i64 v.winner] := rfl
  rw [hcell] at he
  by_cases hb : s2.rb = true ∨ s2.cb = true
  ·rw [if_pos hb] at hk1
   rw [← hk1]
   obtain ⟨l2, rb2, cb2⟩ := s2
   dsimp only at he hb ⊢
   cases rb2
   ·obtain rfl : cb2 = true := by simpa using hb
    repeat' ((first | apply ah | apply al | apply ao | apply av | refine aq rfl ?_ | apply af | apply ab | apply ak mixed | apply ap mixed | (with_reducible first | refine au ?_ | refine eD (f := .t 45) ?_ | refine dO (f := .t 45) ?_ | refine ar ?_ | refine am (he) (by simp) ?_) | refine ae (cZ _ _) ?_ ?_ | simp (disch := omega) only [aW, aF, aK, aL, bg, zI, zH] | ((first | refine aj ?_ ?_ | refine aa ?_ ?_) <;> intro hc <;> (try simp only [hc]) <;> try simp at hc) | (with_reducible refine ⟨?_, ?_⟩; (focus ((repeat' with_reducible refine ⟨?_, ?_⟩) <;> first | exact trivial | assumption | (simp; done) | (simp only [zA] at *; omega) | omega | (simp [fs]; done) | exact ax))) | (with_reducible intro x hx) | omega) <;> (try simp only [c1, Nat.reduceBEq, reduceIte, Nat.reduceEqDiff, Nat.reduceAdd, Nat.reduceSub, Nat.reduceLT, Nat.reduceLeDiff, reduceCtorEq, cond_false, ne_eq, fv, fw, fd]))
    refine ck (fin _ xs ⟨l2, false, true⟩ [Va 16 [.int .u32 v.id, .int .u32 v.owner, .int .i64 v.qu.a, .int .i64 v.qu.b, .int .i64 v.qu.long, .int .i64 v.qu.grid, L (aJ .u32 v.qu.must), L (aV .u32 .i64 v.qu.may), .int .i64 v.qu.seats, L (aV .u32 .u32 v.qu.apart), L (bo v.qu.prefer), L (aJ .i64 v.slots), L (aV .u32 .i64 v.votes), .int .i64 v.til, .int .i64 v.state, .int .i64 v.winner]]) ?_
    repeat' ((first | apply ah | apply al | apply ao | apply av | refine aq rfl ?_ | apply ai | apply af | apply ab | apply ak mixed | apply ap mixed | (with_reducible first | refine au ?_ | refine ar ?_) | simp (disch := omega) only [aW, aF, aK, aL, bg, zI, zH] | ((first | refine aj ?_ ?_ | refine aa ?_ ?_) <;> intro hc <;> (try simp only [hc]) <;> try simp at hc) | (with_reducible refine ⟨?_, ?_⟩; (focus ((repeat' with_reducible refine ⟨?_, ?_⟩) <;> first | exact trivial | assumption | (simp; done) | (simp only [zA] at *; omega) | omega | (simp [fs]; done) | exact ax))) | (with_reducible intro x hx) | omega) <;> (try simp only [cf, fw]))
    refine ay [0, 1, 2] (by rfl) (by simp) (by simp [plL, allL, fg])
   ·repeat' ((first | apply ah | apply al | apply ao | apply av | refine aq rfl ?_ | apply af | apply ab | apply ak mixed | apply ap mixed | (with_reducible first | refine au ?_ | refine eD (f := .t 45) ?_ | refine dO (f := .t 45) ?_ | refine ar ?_ | refine am (he) (by simp) ?_) | refine ae (cZ _ _) ?_ ?_ | simp (disch := omega) only [aW, aF, aK, aL, bg, zI, zH] | ((first | refine aj ?_ ?_ | refine aa ?_ ?_) <;> intro hc <;> (try simp only [hc]) <;> try simp at hc) | (with_reducible refine ⟨?_, ?_⟩; (focus ((repeat' with_reducible refine ⟨?_, ?_⟩) <;> first | exact trivial | assumption | (simp; done) | (simp only [zA] at *; omega) | omega | (simp [fs]; done) | exact ax))) | (with_reducible intro x hx) | omega) <;> (try simp only [c1, Nat.reduceBEq, reduceIte, Nat.reduceEqDiff, Nat.reduceAdd, Nat.reduceSub, Nat.reduceLT, Nat.reduceLeDiff, reduceCtorEq, cond_true, ne_eq, fv, fw, fd]))
    refine ck (fin _ xs ⟨l2, true, cb2⟩ [Va 16 [.int .u32 v.id, .int .u32 v.owner, .int .i64 v.qu.a, .int .i64 v.qu.b, .int .i64 v.qu.long, .int .i64 v.qu.grid, L (aJ .u32 v.qu.must), L (aV .u32 .i64 v.qu.may), .int .i64 v.qu.seats, L (aV .u32 .u32 v.qu.apart), L (bo v.qu.prefer), L (aJ .i64 v.slots), L (aV .u32 .i64 v.votes), .int .i64 v.til, .int .i64 v.state, .int .i64 v.winner]]) ?_
    repeat' ((first | apply ah | apply al | apply ao | apply av | refine aq rfl ?_ | apply ai | apply af | apply ab | apply ak mixed | apply ap mixed | (with_reducible first | refine au ?_ | refine ar ?_) | simp (disch := omega) only [aW, aF, aK, aL, bg, zI, zH] | ((first | refine aj ?_ ?_ | refine aa ?_ ?_) <;> intro hc <;> (try simp only [hc]) <;> try simp at hc) | (with_reducible refine ⟨?_, ?_⟩; (focus ((repeat' with_reducible refine ⟨?_, ?_⟩) <;> first | exact trivial | assumption | (simp; done) | (simp only [zA] at *; omega) | omega | (simp [fs]; done) | exact ax))) | (with_reducible intro x hx) | omega) <;> (try simp only [cf, fw]))
    refine ay [0, 1, 2] (by rfl) (by simp) (by simp [plL, allL, fg])
  ·rw [if_neg hb] at hk1
   obtain ⟨l2, rb2, cb2⟩ := s2
   dsimp only at he hb hle hk1 ⊢
   obtain ⟨rfl, rfl⟩ : rb2 = false ∧ cb2 = false := by simpa using hb
   have hu : bO xs ++ [[.int .u32 v.id, .int .u32 v.owner, .int .i64 v.qu.a, .int .i64 v.qu.b, .int .i64 v.qu.long, .int .i64 v.qu.grid, L (aJ .u32 v.qu.must), L (aV .u32 .i64 v.qu.may), .int .i64 v.qu.seats, L (aV .u32 .u32 v.qu.apart), L (bo v.qu.prefer), L (aJ .i64 v.slots), L (aV .u32 .i64 v.votes), .int .i64 v.til, .int .i64 v.state, .int .i64 v.winner]] = bO (xs ++ [v]) := by simp [bO, Po.row]
   repeat' ((first | apply ah | apply al | apply ao | apply av | refine aq rfl ?_ | apply ai | apply af | apply ab | apply ak mixed | apply ap mixed | (with_reducible first | refine au ?_ | refine eD (f := .t 45) ?_ | refine dO (f := .t 45) ?_ | refine ar ?_ | refine am (he) (by simp) ?_) | refine ae (cZ _ _) ?_ ?_ | simp (disch := omega) only [aF] | ((first | refine aj ?_ ?_ | refine aa ?_ ?_) <;> intro hc <;> (try simp only [hc]) <;> try simp at hc) | (with_reducible refine ⟨?_, ?_⟩; (focus ((repeat' with_reducible refine ⟨?_, ?_⟩) <;> first | exact trivial | assumption | (simp; done) | omega | (simp [fs]; done) | exact ax))) | (with_reducible intro x hx) | omega) <;> (try simp only [dD, c1, own1, own2, hz', hu, Nat.reduceBEq, reduceIte, Nat.reduceEqDiff, Nat.reduceAdd, Nat.reduceSub, Nat.reduceLT, Nat.reduceLeDiff, reduceCtorEq, cond_false, ne_eq, fv, fw, fd]))
   refine hk ⟨(k, ⟨l2, false, false⟩, xs ++ [v]), hk1, by rw [zB, zK, zL]; omega, by dsimp only; omega⟩ _ _ (by dsimp only; omega) ?_
   dsimp only
   simp only [zB, zK, zL]
   refine aC [0, 1, 2, 3] (by rfl) (by simp) (by simp [pl4, fg]) (by simp [fg])
   skip
 ·obtain rfl : k = 0 := by omega
  have c1 : (((xs.length : Nat) : Int) < ((n : Nat) : Int)) = False := by simp; omega
  unfold dz at hk1
  rw [← hk1]
  dsimp only
  refine ck (fin _ xs s1 []) ?_
  repeat' ((first | apply ah | apply al | apply ao | apply av | refine aq rfl ?_ | apply ai | apply af | apply ab | apply ak mixed | apply ap mixed | (with_reducible first | refine au ?_ | refine ar ?_) | simp (disch := omega) only [aW, aF, aK, aL, bg, zI, zH] | ((first | refine aj ?_ ?_ | refine aa ?_ ?_) <;> intro hc <;> (try simp only [hc]) <;> try simp at hc) | (with_reducible refine ⟨?_, ?_⟩; (focus ((repeat' with_reducible refine ⟨?_, ?_⟩) <;> first | exact trivial | assumption | (simp; done) | (simp only [zA] at *; omega) | omega | (simp [fs]; done) | exact ax))) | (with_reducible intro x hx) | omega) <;> (try simp only [c1, Nat.reduceBEq, reduceIte, fH, bh, cf, fw]))
  refine ay [0, 1, 2] (by rfl) (by simp) (by simp [plL, allL, fg])
  skip
def nS (s : Rs) : (Sq) × Rs :=
 match cB s with
 | (v1, s1) =>
 match aG gW 100 s1 with
 | (v2, s2) =>
 match aG fO 50 s2 with
 | (v3, s3) =>
 match aG nR 4096 s3 with
 | (v4, s4) =>
  (⟨v1, v2, v3, v4⟩, s4)
set_option maxHeartbeats 4000000 in
theorem cSq_r (s : Rs) (sz : Nat) (R : List D) (j : Nat) (hN1 : R[j + 1]? = some (.list (some true) true [])) (hN2 : R[j + 2]? = some (.list (some true) true [])) (hN3 : R[j + 3]? = some (.list (some true) true [])) (hz : R.length = sz) (hj : j + 4 ≤ sz) (hl : s.l.length ≤ 1099511627776) :
  az Tryz.prog 34 [.ptr 0 0 0 1, .ptr 2 0 j 1] [Cr 1 s.cb, Rd s.l s.rb, Va sz R] (.tup [])
   [Cr 1 (nS s).2.cb, Rd (nS s).2.l (nS s).2.rb, Va sz (cJ R j [.int .i64 (nS s).1.t, L (bP (nS s).1.us), L (bO (nS s).1.ps), L (fY (nS s).1.ds)])] := by
 refine aS Tryz.func34 low34 (by simp [c34]) ?_
 simp only [c34]
 unfold nS
 have z0 := hz
 have k0 : ∀ x, j + 0 ≤ x → R[x]? = R[x]? := fun _ _ => rfl
 have g1 := cv s
 have h1 : az Tryz.prog 56 [.ptr 0 0 0 1, .ptr 2 0 j 1] [Cr 1 s.cb, Rd s.l s.rb, Va sz R] (.tup []) [Cr 1 (cB s).2.cb, Rd (cB s).2.l (cB s).2.rb, Va sz (R.set j (.int .i64 ((cB s).1 : Int)))] := cC s.l s.rb s.cb sz R j (by omega) (by omega) (by omega)
 generalize cB s = q1 at h1 g1 ⊢
 obtain ⟨v1, s1⟩ := q1
 dsimp only at h1 g1 ⊢
 obtain ⟨R1, e1⟩ : ∃ R1, R1 = R.set j (.int .i64 (v1 : Int)) := ⟨_, rfl⟩
 rw [← e1] at h1
 have z1 : R1.length = sz := by rw [e1, zF]; exact z0
 have k1 : ∀ x, j + 1 ≤ x → R1[x]? = R[x]? := fun x hx => by rw [e1, zC (by omega)] <;> exact k0 x (by omega)
 have g2 := br uy 100 (by omega) s1
 have h2 : az Tryz.prog 73 [.ptr 0 0 0 1, .ptr 2 0 (j + 1) 1, .int .i64 100, .fn 4170 [.ptr 0 0 0 1]] [Cr 1 s1.cb, Rd s1.l s1.rb, Va sz R1] (.tup []) [Cr 1 (aG gW 100 s1).2.cb, Rd (aG gW 100 s1).2.l (aG gW 100 s1).2.rb, Va sz (R1.set (j + 1) (L (bP (aG gW 100 s1).1)))] := xd s1 sz R1 (j + 1) 100 (by rw [k1 _ (by omega)]; exact hN1) (by omega) (by omega) (by omega)
 generalize aG gW 100 s1 = q2 at h2 g2 ⊢
 obtain ⟨v2, s2⟩ := q2
 dsimp only at h2 g2 ⊢
 obtain ⟨R2, e2⟩ : ∃ R2, R2 = R1.set (j + 1) (L (bP v2)) := ⟨_, rfl⟩
 rw [← e2] at h2
 have z2 : R2.length = sz := by rw [e2, zF]; exact z1
 have k2 : ∀ x, j + 2 ≤ x → R2[x]? = R[x]? := fun x hx => by rw [e2, zC (by omega)] <;> exact k1 x (by omega)
 have g3 := br uu 50 (by omega) s2
 have h3 : az Tryz.prog 75 [.ptr 0 0 0 1, .ptr 2 0 (j + 2) 1, .int .i64 50, .fn 4156 [.ptr 0 0 0 1]] [Cr 1 s2.cb, Rd s2.l s2.rb, Va sz R2] (.tup []) [Cr 1 (aG fO 50 s2).2.cb, Rd (aG fO 50 s2).2.l (aG fO 50 s2).2.rb, Va sz (R2.set (j + 2) (L (bO (aG fO 50 s2).1)))] := wU s2 sz R2 (j + 2) 50 (by rw [k2 _ (by omega)]; exact hN2) (by omega) (by omega) (by omega)
 generalize aG fO 50 s2 = q3 at h3 g3 ⊢
 obtain ⟨v3, s3⟩ := q3
 dsimp only at h3 g3 ⊢
 obtain ⟨R3, e3⟩ : ∃ R3, R3 = R2.set (j + 2) (L (bO v3)) := ⟨_, rfl⟩
 rw [← e3] at h3
 have z3 : R3.length = sz := by rw [e3, zF]; exact z2
 have k3 : ∀ x, j + 3 ≤ x → R3[x]? = R[x]? := fun x hx => by rw [e3, zC (by omega)] <;> exact k2 x (by omega)
 have g4 := br uo 4096 (by omega) s3
 have h4 : az Tryz.prog 76 [.ptr 0 0 0 1, .ptr 2 0 (j + 3) 1, .int .i64 4096, .fn 77 [.ptr 3 0 0 1]] [Cr 1 s3.cb, Rd s3.l s3.rb, Va sz R3, Bx 0] (.tup []) [Cr 1 (aG nR 4096 s3).2.cb, Rd (aG nR 4096 s3).2.l (aG nR 4096 s3).2.rb, Va sz (R3.set (j + 3) (L (fY (aG nR 4096 s3).1))), Bx 0] := wF s3 sz R3 (j + 3) 4096 (by rw [k3 _ (by omega)]; exact hN3) (by omega) (by omega) (by omega)
 generalize aG nR 4096 s3 = q4 at h4 g4 ⊢
 obtain ⟨v4, s4⟩ := q4
 dsimp only at h4 g4 ⊢
 obtain ⟨R4, e4⟩ : ∃ R4, R4 = R3.set (j + 3) (L (fY v4)) := ⟨_, rfl⟩
 rw [← e4] at h4
 have z4 : R4.length = sz := by rw [e4, zF]; exact z3
 have k4 : ∀ x, j + 4 ≤ x → R4[x]? = R[x]? := fun x hx => by rw [e4, zC (by omega)] <;> exact k3 x (by omega)
 have eR : cJ R j [.int .i64 (⟨v1, v2, v3, v4⟩ : Sq).t, L (bP (⟨v1, v2, v3, v4⟩ : Sq).us), L (bO (⟨v1, v2, v3, v4⟩ : Sq).ps), L (fY (⟨v1, v2, v3, v4⟩ : Sq).ds)] = R4 := by rw [e4, e3, e2, e1] <;> rfl
 rw [eR]
 clear eR e1 e2 e3 e4 k0 k1 k2 k3 k4 z1 z2 z3 z4
 repeat' ((first | apply ah | apply ai | apply af | apply ak mixed | apply ap mixed | (with_reducible first | refine au ?_ | refine aA (f := .c (.fn 56 [])) ?_ | refine aA (f := .c (.fn 73 [])) ?_ | refine aA (f := .c (.fn 75 [])) ?_ | refine aT (f := .c (.fn 76 [])) (z := []) (q := [0, 1, 2, 3]) ?_ | refine aO (f := .c (.fn 76 [])) (z := []) (q := [0, 1, 2, 3]) ?_ | refine aw ?_ | refine am (h1) (by simp) ?_ | refine am (h2) (by simp) ?_ | refine am (h3) (by simp) ?_ | refine am (h4) (by simp) ?_) | (with_reducible refine ⟨?_, ?_⟩; (focus ((repeat' with_reducible refine ⟨?_, ?_⟩) <;> first | exact trivial | assumption | (simp; done) | (simp only [zA] at *; omega) | omega | (simp [fs]; done) | exact ax))) | (with_reducible intro x hx) | omega) <;> (try simp only [Nat.reduceBEq, reduceIte, Nat.reduceEqDiff, Nat.reduceAdd, Nat.reduceSub, Nat.reduceLT, reduceCtorEq, ne_eq, fw, fd]))
 refine ay [0, 1, 2] (by rfl) (by simp) (by simp [fg])
end Go.Proofs.YtgefljdclekadaaGreat
