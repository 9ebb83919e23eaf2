import Derived.Test.YtgefljdclekadaaGreatWMD
import Derived.Test.YtgefljdclekadaaGreatVi25
import Derived.Test.YtgefljdclekadaaGreatVi30
set_option linter.unusedVariables false
set_option linter.unusedSimpArgs false
set_option linter.unnecessarySimpa false
namespace Go.Proofs.YtgefljdclekadaaGreat
open Go Go.Vi

def rowQ (l : List (Int × Int × Int)) : List (List D) := l.map fun x => [.int .u32 x.1, .int .u64 x.2.1, .int .u64 x.2.2]
theorem rowQ_len {l : List (Int × Int × Int)} : (rowQ l).length = l.length := by simp [rowQ]
abbrev Bx (c : Nat) : Ob := ⟨true, false, false, false, 1, [[.ptr c 0 0 1]], some 0⟩



def eRow {α : Type} (e : α → List UInt8) (l : List α) : List UInt8 := num l.length ++ l.flatMap e
def xRow {α : Type} (x : α → Bool) (most : Nat) (l : List α) : Bool := decide (most < l.length) || l.any x
theorem fm_take {α : Type} (e : α → List UInt8) {l : List α} {i : Nat} {y : α} (h : l[i]? = some y) : (l.take (i + 1)).flatMap e = (l.take i).flatMap e ++ e y := by
 have : l.take (i + 1) = l.take i ++ [y] := by rw [List.take_add_one, h]; rfl
 rw [this]; simp
theorem any_take {α : Type} (f : α → Bool) {l : List α} {i : Nat} {y : α} (h : l[i]? = some y) : (l.take (i + 1)).any f = ((l.take i).any f || f y) := by
 have : l.take (i + 1) = l.take i ++ [y] := by rw [List.take_add_one, h]; rfl
 rw [this]; simp
theorem fm_le {α : Type} (e : α → List UInt8) (l : List α) (i : Nat) : ((l.take i).flatMap e).length ≤ (l.flatMap e).length := by
 have h : l.flatMap e = (l.take i).flatMap e ++ (l.drop i).flatMap e := by rw [← List.flatMap_append, List.take_append_drop]
 rw [h, List.length_append]; omega
def fTu (x : Int × Int) : Prop := Fit x.1 ∧ Fit x.2
def eSh (x : Int × Int × Int) : List UInt8 := num (uI x.1) ++ (num (uI x.2.1) ++ num (uI x.2.2))
def xSh (x : Int × Int × Int) : Bool := (decide (127 < uI x.1) || (decide (1440 < uI x.2.1) || decide (1440 < uI x.2.2)))
def cSh (x : Int × Int × Int) : List D := [.int .i64 x.1, .int .i64 x.2.1, .int .i64 x.2.2]
def fSh (x : Int × Int × Int) : Prop := Fit x.1 ∧ Fit x.2.1 ∧ Fit x.2.2
theorem elSh_w (l : List UInt8) (bad : Bool) (x : Int × Int × Int) (hx : fSh x) (hl : (l ++ eSh x).length ≤ 1099511627776) :
  CallG Tryz.prog 140 [.ptr 0 0 0 1, .ptr 1 0 0 1] [Va 3 (cSh x), Bx 2, Cw 3 bad, Ww 4 l.length, acc true 1 true (r8 l)] (.tup [])
   [Va 3 (cSh x), Bx 2, Cw 3 (bad || xSh x), Ww 4 (l ++ eSh x).length, acc true 1 true (r8 (l ++ eSh x))] := by
 refine callG Tryz.func140 low140 (by simp [c140]) ?_
 simp only [c140]
 unfold fSh at hx
 obtain ⟨l1, e1⟩ : ∃ l1, l1 = l ++ num (uI x.1) := ⟨_, rfl⟩
 obtain ⟨b1, d1⟩ : ∃ b1, b1 = (bad || decide (127 < uI x.1)) := ⟨_, rfl⟩
 obtain ⟨l2, e2⟩ : ∃ l2, l2 = l1 ++ num (uI x.2.1) := ⟨_, rfl⟩
 obtain ⟨b2, d2⟩ : ∃ b2, b2 = (b1 || decide (1440 < uI x.2.1)) := ⟨_, rfl⟩
 obtain ⟨l3, e3⟩ : ∃ l3, l3 = l2 ++ num (uI x.2.2) := ⟨_, rfl⟩
 obtain ⟨b3, d3⟩ : ∃ b3, b3 = (b2 || decide (1440 < uI x.2.2)) := ⟨_, rfl⟩
 have el : l ++ eSh x = l3 := by rw [e3, e2, e1]; simp [eSh]
 have eb : (bad || xSh x) = b3 := by rw [d3, d2, d1]; simp [xSh, Bool.or_assoc]
 rw [el] at hl
 rw [el, eb]
 have g2 : l2.length ≤ l3.length := by rw [e3, List.length_append]; omega
 have g1 : l1.length ≤ l2.length := by rw [e2, List.length_append]; omega
 have g0 : l.length ≤ l1.length := by rw [e1, List.length_append]; omega
 have h1 := numI_w l bad 3 (cSh x) 0 127 x.1 rfl hx.1 (by omega) (by omega)
 rw [← e1, ← d1] at h1
 have h2 := numI_w l1 b1 3 (cSh x) 1 1440 x.2.1 rfl hx.2.1 (by omega) (by omega)
 rw [← e2, ← d2] at h2
 have h3 := numI_w l2 b2 3 (cSh x) 2 1440 x.2.2 rfl hx.2.2 (by omega) (by omega)
 rw [← e3, ← d3] at h3
 clear e1 e2 e3 d1 d2 d3 el eb
 repeat' ((first | apply Run_seq | apply Run_ret | apply Run_nil | apply Run_opsX mixed | (with_reducible first | refine PostG_open ?_ | refine ro_callA (f := .c (.fn 57 [])) ?_ | refine ro_callVX ?_ | refine CallE_use (h1) (by simp) ?_ | refine CallE_use (h2) (by simp) ?_ | refine CallE_use (h3) (by simp) ?_) | (with_reducible refine ⟨?_, ?_⟩; (focus ((repeat' with_reducible refine ⟨?_, ?_⟩) <;> first | exact trivial | assumption | (simp; done) | (simp only [List.length_map] at *; omega) | omega | (simp [fs]; done) | exact r8_sz))) | (with_reducible intro x hx) | omega) <;> (try simp only [Nat.reduceBEq, reduceIte, Nat.reduceEqDiff, Nat.reduceAdd, Nat.reduceSub, Nat.reduceLT, reduceCtorEq, fw, fd]))
 refine GcTo_own [0, 1, 2, 3, 4] (by rfl) (by simp) (by simp [fg])
set_option maxHeartbeats 2000000 in
theorem rowSh_w (l : List UInt8) (bad : Bool) (sz : Nat) (R : List D) (j most : Nat) (xs : List (Int × Int × Int)) (hR : R[j]? = some (L (row3 xs))) (hm : most < 9223372036854775808) (hxl : xs.length ≤ 140737488351232) (hx : ∀ x ∈ xs, fSh x) (hl : (l ++ eRow eSh xs).length ≤ 1099511627776) :
  CallG Tryz.prog 139 [.ptr 0 0 0 1, .ptr 3 0 j 1, .int .i64 most, .fn 140 [.ptr 4 0 0 1]] [Cw 1 bad, Ww 2 l.length, acc true 1 true (r8 l), Va sz R, Bx 0] (.tup [])
   [Cw 1 (bad || xRow xSh most xs), Ww 2 (l ++ eRow eSh xs).length, acc true 1 true (r8 (l ++ eRow eSh xs)), Va sz R, Bx 0] := by
 refine callG Tryz.func139 low139 (by simp [c139]) ?_
 simp only [c139]
 have ui : uI (xs.length : Int) = xs.length := by unfold uI; omega
 have hll : l.length ≤ 1099511627776 := by rw [List.length_append] at hl; omega
 have hn := numQ_w l bad 1 [.int .u64 xs.length] 0 most xs.length rfl (by omega) (by omega) hll
 rw [ui] at hn
 obtain ⟨l0, e0⟩ : ∃ l0, l0 = l ++ num xs.length := ⟨_, rfl⟩
 obtain ⟨b0, f0⟩ : ∃ b0, b0 = (bad || decide (most < xs.length)) := ⟨_, rfl⟩
 have el : l ++ eRow eSh xs = l0 ++ xs.flatMap eSh := by rw [e0]; simp [eRow]
 have eb : (bad || xRow xSh most xs) = (b0 || xs.any xSh) := by rw [f0]; simp [xRow, Bool.or_assoc]
 rw [el] at hl
 rw [el, eb]
 rw [← e0, ← f0] at hn
 clear el eb f0
 repeat' ((first | apply Run_seq | apply Run_skip | apply Run_block | apply Run_blk | refine Run_exit rfl ?_ | apply Run_ret | apply Run_nil | apply Run_condK | apply Run_ops mixed | apply Run_opsX mixed | (with_reducible first | refine PostG_open ?_ | refine ro_callA' (f := .c (.fn 53 [])) ?_ | refine ro_callV ?_ | refine CallE_use (hn) (by simp) ?_) | simp (disch := omega) only [wu64] | ((first | refine GuardK_split ?_ ?_ | refine CondK_split ?_ ?_) <;> intro hc <;> (try simp only [hc]) <;> try simp at hc) | (with_reducible refine ⟨?_, ?_⟩; (focus ((repeat' with_reducible refine ⟨?_, ?_⟩) <;> first | exact trivial | assumption | (simp; done) | (simp only [List.length_map] at *; omega) | omega | (simp [fs]; done) | exact r8_sz))) | (with_reducible intro x hx) | omega) <;> (try simp only [row3_len, hR, Nat.reduceBEq, reduceIte, Nat.reduceEqDiff, Nat.reduceAdd, Nat.reduceSub, Nat.reduceLT, reduceCtorEq, cond_false, ne_eq, fw, fd]))
 refine Run_loop (ι := {i : Nat // i ≤ xs.length}) (fun i => ([(1, .ptr 3 0 j 1), (3, .fn 140 [.ptr 4 0 0 1]), (29, .int .i64 xs.length), (30, .int .i64 i.1)], [Cw 1 (b0 || (xs.take i.1).any xSh), Ww 2 (l0 ++ (xs.take i.1).flatMap eSh).length, acc true 1 true (r8 (l0 ++ (xs.take i.1).flatMap eSh)), Va sz R, Bx 0])) (fun i => xs.length - i.1) ⟨0, by omega⟩ ?_ ?_
 ·simp only [List.take_zero, List.flatMap_nil, List.any_nil, Bool.or_false, List.append_nil]
  refine Ent_gc [0, 1, 2, 3, 4] (by rfl) (by simp) (by simp [fg]) (by simp [fg])
  skip
 rintro ⟨i, hi⟩ hk
 dsimp only at hk ⊢
 by_cases hlt : i < xs.length
 ·have c1 : ((i : Int) < (xs.length : Int)) = True := by simp; omega
  obtain ⟨x, hg⟩ : ∃ x, xs[i]? = some x := ⟨_, List.getElem?_eq_getElem hlt⟩
  have hr := row3_get hg
  have hxf := hx x (List.mem_of_getElem? hg)
  have hfm := fm_take eSh hg
  have han := any_take xSh hg
  have hle := fm_le eSh xs (i + 1)
  obtain ⟨li, ei⟩ : ∃ li, li = l0 ++ (xs.take i).flatMap eSh := ⟨_, rfl⟩
  obtain ⟨bi, fi⟩ : ∃ bi, bi = (b0 || (xs.take i).any xSh) := ⟨_, rfl⟩
  have ej : l0 ++ (xs.take (i + 1)).flatMap eSh = li ++ eSh x := by rw [ei, hfm, List.append_assoc]
  have fj : (b0 || (xs.take (i + 1)).any xSh) = (bi || xSh x) := by rw [fi, han, Bool.or_assoc]
  have hlj : (li ++ eSh x).length ≤ 1099511627776 := by rw [← ej]; simp only [List.length_append] at hl ⊢; omega
  have hw := elSh_w li bi x hxf hlj
  rw [← ei, ← fi]
  obtain ⟨lj, el⟩ : ∃ lj, lj = li ++ eSh x := ⟨_, rfl⟩
  obtain ⟨bj, fl⟩ : ∃ bj, bj = (bi || xSh x) := ⟨_, rfl⟩
  rw [← el, ← fl] at hw
  rw [← el] at ej
  rw [← fl] at fj
  have g2 : lj.length ≤ 1099511627776 := by rw [el]; exact hlj
  have g1 : li.length ≤ lj.length := by rw [el, List.length_append]; omega
  clear el fl ei fi
  have hcell : cSh x = [.int .i64 x.1, .int .i64 x.2.1, .int .i64 x.2.2] := rfl
  rw [hcell] at hw
  repeat' ((first | apply Run_seq | apply Run_skip | apply Run_block | apply Run_blk | refine Run_exit rfl ?_ | apply Run_ret | apply Run_nil | apply Run_condK | apply Run_ops mixed | apply Run_opsX mixed | (with_reducible first | refine PostG_open ?_ | refine ro_callA' (f := .t 39) ?_ | refine ro_callV ?_ | refine CallE_use (hw) (by simp) ?_) | simp (disch := omega) only [w64] | ((first | refine GuardK_split ?_ ?_ | refine CondK_split ?_ ?_) <;> intro hc <;> (try simp only [hc]) <;> try simp at hc) | (with_reducible refine ⟨?_, ?_⟩; (focus ((repeat' with_reducible refine ⟨?_, ?_⟩) <;> first | exact trivial | assumption | (simp; done) | (simp only [List.length_map] at *; omega) | omega | (simp [fs]; done) | exact r8_sz))) | (with_reducible intro x hx) | omega) <;> (try simp only [row3_len, hR, c1, hr, Nat.reduceBEq, reduceIte, Nat.reduceEqDiff, Nat.reduceAdd, Nat.reduceSub, Nat.reduceLT, reduceCtorEq, ne_eq, fw, fd]))
  refine hk ⟨i + 1, by omega⟩ _ _ (by dsimp only; omega) ?_
  dsimp only
  rw [ej, fj]
  refine Ent_gc [0, 1, 2, 3, 4] (by rfl) (by simp) (by simp [fg]) (by simp [fg])
  skip
 ·have c1 : ((i : Int) < (xs.length : Int)) = False := by simp; omega
  obtain rfl : i = xs.length := by omega
  rw [List.take_length]
  repeat' ((first | apply Run_seq | apply Run_skip | apply Run_block | apply Run_blk | refine Run_exit rfl ?_ | apply Run_ret | apply Run_nil | apply Run_condK | apply Run_ops mixed | apply Run_opsX mixed | (with_reducible first | refine PostG_open ?_ | refine ro_callV ?_) | simp (disch := omega) only [w64, wu64, wu32, wu16, wu8, Int.tdiv_eq_ediv_of_nonneg, Int.tmod_eq_emod_of_nonneg] | ((first | refine GuardK_split ?_ ?_ | refine CondK_split ?_ ?_) <;> intro hc <;> (try simp only [hc]) <;> try simp at hc) | (with_reducible refine ⟨?_, ?_⟩; (focus ((repeat' with_reducible refine ⟨?_, ?_⟩) <;> first | exact trivial | assumption | (simp; done) | (simp only [List.length_map] at *; omega) | omega | (simp [fs]; done) | exact r8_sz))) | (with_reducible intro x hx) | omega) <;> (try simp only [c1, Nat.reduceBEq, reduceIte, binD, binInt, ofRes, fw]))
  refine GcTo_own [0, 1, 2, 3, 4] (by rfl) (by simp) (by simp [fg])
  skip
def fOf (x : Int) : Prop := Fit x
def fSm (x : Int) : Prop := Fit x
def fDa (x : Int × Int) : Prop := Fit x.1 ∧ Fit x.2
def fEx (x : Int) : Prop := Fit x
def fPl (x : Int) : Prop := Fit x
def fCh (x : Int × Int × Int) : Prop := Fit x.1 ∧ Fit x.2.1 ∧ Fit x.2.2
def eMu (x : Int) : List UInt8 := num (uI x)
def xMu (x : Int) : Bool := false
def cMu (x : Int) : List D := [.int .u32 x]
def fMu (x : Int) : Prop := (0 ≤ x ∧ x ≤ 4294967295)
theorem elMu_w (l : List UInt8) (bad : Bool) (x : Int) (hx : fMu x) (hl : (l ++ eMu x).length ≤ 1099511627776) :
  CallG Tryz.prog 128 [.ptr 0 0 0 1, .ptr 1 0 0 1] [Va 1 (cMu x), Bx 2, Cw 3 bad, Ww 4 l.length, acc true 1 true (r8 l)] (.tup [])
   [Va 1 (cMu x), Bx 2, Cw 3 (bad || xMu x), Ww 4 (l ++ eMu x).length, acc true 1 true (r8 (l ++ eMu x))] := by
 refine callG Tryz.func128 low128 (by simp [c128]) ?_
 simp only [c128]
 unfold fMu at hx
 obtain ⟨l1, e1⟩ : ∃ l1, l1 = l ++ num (uI x) := ⟨_, rfl⟩
 have el : l ++ eMu x = l1 := by rw [e1]; simp [eMu]
 have eb : (bad || xMu x) = bad := by simp [xMu]
 rw [el] at hl
 rw [el, eb]
 have g0 : l.length ≤ l1.length := by rw [e1, List.length_append]; omega
 have h1 := name_w l bad 1 (cMu x) 0 x rfl hx (by omega)
 rw [← e1] at h1
 clear e1 el eb
 repeat' ((first | apply Run_seq | apply Run_ret | apply Run_nil | apply Run_ops mixed | (with_reducible first | refine PostG_open ?_ | refine ro_callA' (f := .c (.fn 78 [])) ?_ | refine ro_callV ?_ | refine CallE_use (h1) (by simp) ?_) | (with_reducible refine ⟨?_, ?_⟩; (focus ((repeat' with_reducible refine ⟨?_, ?_⟩) <;> first | exact trivial | assumption | (simp; done) | (simp only [List.length_map] at *; omega) | omega | (simp [fs]; done) | exact r8_sz))) | (with_reducible intro x hx) | omega) <;> (try simp only [Nat.reduceBEq, reduceIte, Nat.reduceEqDiff, Nat.reduceAdd, Nat.reduceSub, Nat.reduceLT, reduceCtorEq, fw, fd]))
 refine GcTo_own [0, 1, 2, 3, 4] (by rfl) (by simp) (by simp [fg])
set_option maxHeartbeats 2000000 in
theorem rowMu_w (l : List UInt8) (bad : Bool) (sz : Nat) (R : List D) (j most : Nat) (xs : List Int) (hR : R[j]? = some (L (row1 .u32 xs))) (hm : most < 9223372036854775808) (hxl : xs.length ≤ 140737488351232) (hx : ∀ x ∈ xs, fMu x) (hl : (l ++ eRow eMu xs).length ≤ 1099511627776) :
  CallG Tryz.prog 127 [.ptr 0 0 0 1, .ptr 3 0 j 1, .int .i64 most, .fn 128 [.ptr 4 0 0 1]] [Cw 1 bad, Ww 2 l.length, acc true 1 true (r8 l), Va sz R, Bx 0] (.tup [])
   [Cw 1 (bad || xRow xMu most xs), Ww 2 (l ++ eRow eMu xs).length, acc true 1 true (r8 (l ++ eRow eMu xs)), Va sz R, Bx 0] := by
 refine callG Tryz.func127 low127 (by simp [c127]) ?_
 simp only [c127]
 have ui : uI (xs.length : Int) = xs.length := by unfold uI; omega
 have hll : l.length ≤ 1099511627776 := by rw [List.length_append] at hl; omega
 have hn := numQ_w l bad 1 [.int .u64 xs.length] 0 most xs.length rfl (by omega) (by omega) hll
 rw [ui] at hn
 obtain ⟨l0, e0⟩ : ∃ l0, l0 = l ++ num xs.length := ⟨_, rfl⟩
 obtain ⟨b0, f0⟩ : ∃ b0, b0 = (bad || decide (most < xs.length)) := ⟨_, rfl⟩
 have el : l ++ eRow eMu xs = l0 ++ xs.flatMap eMu := by rw [e0]; simp [eRow]
 have eb : (bad || xRow xMu most xs) = (b0 || xs.any xMu) := by rw [f0]; simp [xRow, Bool.or_assoc]
 rw [el] at hl
 rw [el, eb]
 rw [← e0, ← f0] at hn
 clear el eb f0
 repeat' ((first | apply Run_seq | apply Run_skip | apply Run_block | apply Run_blk | refine Run_exit rfl ?_ | apply Run_ret | apply Run_nil | apply Run_condK | apply Run_ops mixed | apply Run_opsX mixed | (with_reducible first | refine PostG_open ?_ | refine ro_callA' (f := .c (.fn 53 [])) ?_ | refine ro_callV ?_ | refine CallE_use (hn) (by simp) ?_) | simp (disch := omega) only [wu64] | ((first | refine GuardK_split ?_ ?_ | refine CondK_split ?_ ?_) <;> intro hc <;> (try simp only [hc]) <;> try simp at hc) | (with_reducible refine ⟨?_, ?_⟩; (focus ((repeat' with_reducible refine ⟨?_, ?_⟩) <;> first | exact trivial | assumption | (simp; done) | (simp only [List.length_map] at *; omega) | omega | (simp [fs]; done) | exact r8_sz))) | (with_reducible intro x hx) | omega) <;> (try simp only [row1_len, hR, Nat.reduceBEq, reduceIte, Nat.reduceEqDiff, Nat.reduceAdd, Nat.reduceSub, Nat.reduceLT, reduceCtorEq, cond_false, ne_eq, fw, fd]))
 refine Run_loop (ι := {i : Nat // i ≤ xs.length}) (fun i => ([(1, .ptr 3 0 j 1), (3, .fn 128 [.ptr 4 0 0 1]), (29, .int .i64 xs.length), (30, .int .i64 i.1)], [Cw 1 (b0 || (xs.take i.1).any xMu), Ww 2 (l0 ++ (xs.take i.1).flatMap eMu).length, acc true 1 true (r8 (l0 ++ (xs.take i.1).flatMap eMu)), Va sz R, Bx 0])) (fun i => xs.length - i.1) ⟨0, by omega⟩ ?_ ?_
 ·simp only [List.take_zero, List.flatMap_nil, List.any_nil, Bool.or_false, List.append_nil]
  refine Ent_gc [0, 1, 2, 3, 4] (by rfl) (by simp) (by simp [fg]) (by simp [fg])
  skip
 rintro ⟨i, hi⟩ hk
 dsimp only at hk ⊢
 by_cases hlt : i < xs.length
 ·have c1 : ((i : Int) < (xs.length : Int)) = True := by simp; omega
  obtain ⟨x, hg⟩ : ∃ x, xs[i]? = some x := ⟨_, List.getElem?_eq_getElem hlt⟩
  have hr := row1_get (k := .u32) hg
  have hxf := hx x (List.mem_of_getElem? hg)
  have hfm := fm_take eMu hg
  have han := any_take xMu hg
  have hle := fm_le eMu xs (i + 1)
  obtain ⟨li, ei⟩ : ∃ li, li = l0 ++ (xs.take i).flatMap eMu := ⟨_, rfl⟩
  obtain ⟨bi, fi⟩ : ∃ bi, bi = (b0 || (xs.take i).any xMu) := ⟨_, rfl⟩
  have ej : l0 ++ (xs.take (i + 1)).flatMap eMu = li ++ eMu x := by rw [ei, hfm, List.append_assoc]
  have fj : (b0 || (xs.take (i + 1)).any xMu) = (bi || xMu x) := by rw [fi, han, Bool.or_assoc]
  have hlj : (li ++ eMu x).length ≤ 1099511627776 := by rw [← ej]; simp only [List.length_append] at hl ⊢; omega
  have hw := elMu_w li bi x hxf hlj
  rw [← ei, ← fi]
  obtain ⟨lj, el⟩ : ∃ lj, lj = li ++ eMu x := ⟨_, rfl⟩
  obtain ⟨bj, fl⟩ : ∃ bj, bj = (bi || xMu x) := ⟨_, rfl⟩
  rw [← el, ← fl] at hw
  rw [← el] at ej
  rw [← fl] at fj
  have g2 : lj.length ≤ 1099511627776 := by rw [el]; exact hlj
  have g1 : li.length ≤ lj.length := by rw [el, List.length_append]; omega
  clear el fl ei fi
  have hcell : cMu x = [.int .u32 x] := rfl
  rw [hcell] at hw
  repeat' ((first | apply Run_seq | apply Run_skip | apply Run_block | apply Run_blk | refine Run_exit rfl ?_ | apply Run_ret | apply Run_nil | apply Run_condK | apply Run_ops mixed | apply Run_opsX mixed | (with_reducible first | refine PostG_open ?_ | refine ro_callA' (f := .t 39) ?_ | refine ro_callV ?_ | refine CallE_use (hw) (by simp) ?_) | simp (disch := omega) only [w64] | ((first | refine GuardK_split ?_ ?_ | refine CondK_split ?_ ?_) <;> intro hc <;> (try simp only [hc]) <;> try simp at hc) | (with_reducible refine ⟨?_, ?_⟩; (focus ((repeat' with_reducible refine ⟨?_, ?_⟩) <;> first | exact trivial | assumption | (simp; done) | (simp only [List.length_map] at *; omega) | omega | (simp [fs]; done) | exact r8_sz))) | (with_reducible intro x hx) | omega) <;> (try simp only [row1_len, hR, c1, hr, Nat.reduceBEq, reduceIte, Nat.reduceEqDiff, Nat.reduceAdd, Nat.reduceSub, Nat.reduceLT, reduceCtorEq, ne_eq, fw, fd]))
  refine hk ⟨i + 1, by omega⟩ _ _ (by dsimp only; omega) ?_
  dsimp only
  rw [ej, fj]
  refine Ent_gc [0, 1, 2, 3, 4] (by rfl) (by simp) (by simp [fg]) (by simp [fg])
  skip
 ·have c1 : ((i : Int) < (xs.length : Int)) = False := by simp; omega
  obtain rfl : i = xs.length := by omega
  rw [List.take_length]
  repeat' ((first | apply Run_seq | apply Run_skip | apply Run_block | apply Run_blk | refine Run_exit rfl ?_ | apply Run_ret | apply Run_nil | apply Run_condK | apply Run_ops mixed | apply Run_opsX mixed | (with_reducible first | refine PostG_open ?_ | refine ro_callV ?_) | simp (disch := omega) only [w64, wu64, wu32, wu16, wu8, Int.tdiv_eq_ediv_of_nonneg, Int.tmod_eq_emod_of_nonneg] | ((first | refine GuardK_split ?_ ?_ | refine CondK_split ?_ ?_) <;> intro hc <;> (try simp only [hc]) <;> try simp at hc) | (with_reducible refine ⟨?_, ?_⟩; (focus ((repeat' with_reducible refine ⟨?_, ?_⟩) <;> first | exact trivial | assumption | (simp; done) | (simp only [List.length_map] at *; omega) | omega | (simp [fs]; done) | exact r8_sz))) | (with_reducible intro x hx) | omega) <;> (try simp only [c1, Nat.reduceBEq, reduceIte, binD, binInt, ofRes, fw]))
  refine GcTo_own [0, 1, 2, 3, 4] (by rfl) (by simp) (by simp [fg])
  skip
def eWa (x : Int × Int) : List UInt8 := num (uI x.1) ++ num (uI x.2)
def xWa (x : Int × Int) : Bool := decide (1000 < uI x.2)
def cWa (x : Int × Int) : List D := [.int .u32 x.1, .int .i64 x.2]
def fWa (x : Int × Int) : Prop := (0 ≤ x.1 ∧ x.1 ≤ 4294967295) ∧ Fit x.2
theorem elWa_w (l : List UInt8) (bad : Bool) (x : Int × Int) (hx : fWa x) (hl : (l ++ eWa x).length ≤ 1099511627776) :
  CallG Tryz.prog 130 [.ptr 0 0 0 1, .ptr 1 0 0 1] [Va 2 (cWa x), Bx 2, Cw 3 bad, Ww 4 l.length, acc true 1 true (r8 l)] (.tup [])
   [Va 2 (cWa x), Bx 2, Cw 3 (bad || xWa x), Ww 4 (l ++ eWa x).length, acc true 1 true (r8 (l ++ eWa x))] := by
 refine callG Tryz.func130 low130 (by simp [c130]) ?_
 simp only [c130]
 unfold fWa at hx
 obtain ⟨l1, e1⟩ : ∃ l1, l1 = l ++ num (uI x.1) := ⟨_, rfl⟩
 obtain ⟨l2, e2⟩ : ∃ l2, l2 = l1 ++ num (uI x.2) := ⟨_, rfl⟩
 obtain ⟨b2, d2⟩ : ∃ b2, b2 = (bad || decide (1000 < uI x.2)) := ⟨_, rfl⟩
 have el : l ++ eWa x = l2 := by rw [e2, e1]; simp [eWa]
 have eb : (bad || xWa x) = b2 := by rw [d2]; simp [xWa]
 rw [el] at hl
 rw [el, eb]
 have g1 : l1.length ≤ l2.length := by rw [e2, List.length_append]; omega
 have g0 : l.length ≤ l1.length := by rw [e1, List.length_append]; omega
 have h1 := name_w l bad 2 (cWa x) 0 x.1 rfl hx.1 (by omega)
 rw [← e1] at h1
 have h2 := numI_w l1 bad 2 (cWa x) 1 1000 x.2 rfl hx.2 (by omega) (by omega)
 rw [← e2, ← d2] at h2
 clear e1 e2 d2 el eb
 repeat' ((first | apply Run_seq | apply Run_ret | apply Run_nil | apply Run_opsX mixed | (with_reducible first | refine PostG_open ?_ | refine ro_callA (f := .c (.fn 78 [])) ?_ | refine ro_callA (f := .c (.fn 57 [])) ?_ | refine ro_callVX ?_ | refine CallE_use (h1) (by simp) ?_ | refine CallE_use (h2) (by simp) ?_) | (with_reducible refine ⟨?_, ?_⟩; (focus ((repeat' with_reducible refine ⟨?_, ?_⟩) <;> first | exact trivial | assumption | (simp; done) | (simp only [List.length_map] at *; omega) | omega | (simp [fs]; done) | exact r8_sz))) | (with_reducible intro x hx) | omega) <;> (try simp only [Nat.reduceBEq, reduceIte, Nat.reduceEqDiff, Nat.reduceAdd, Nat.reduceSub, Nat.reduceLT, reduceCtorEq, fw, fd]))
 refine GcTo_own [0, 1, 2, 3, 4] (by rfl) (by simp) (by simp [fg])
set_option maxHeartbeats 2000000 in
theorem rowWa_w (l : List UInt8) (bad : Bool) (sz : Nat) (R : List D) (j most : Nat) (xs : List (Int × Int)) (hR : R[j]? = some (L (row2 .u32 .i64 xs))) (hm : most < 9223372036854775808) (hxl : xs.length ≤ 140737488351232) (hx : ∀ x ∈ xs, fWa x) (hl : (l ++ eRow eWa xs).length ≤ 1099511627776) :
  CallG Tryz.prog 129 [.ptr 0 0 0 1, .ptr 3 0 j 1, .int .i64 most, .fn 130 [.ptr 4 0 0 1]] [Cw 1 bad, Ww 2 l.length, acc true 1 true (r8 l), Va sz R, Bx 0] (.tup [])
   [Cw 1 (bad || xRow xWa most xs), Ww 2 (l ++ eRow eWa xs).length, acc true 1 true (r8 (l ++ eRow eWa xs)), Va sz R, Bx 0] := by
 refine callG Tryz.func129 low129 (by simp [c129]) ?_
 simp only [c129]
 have ui : uI (xs.length : Int) = xs.length := by unfold uI; omega
 have hll : l.length ≤ 1099511627776 := by rw [List.length_append] at hl; omega
 have hn := numQ_w l bad 1 [.int .u64 xs.length] 0 most xs.length rfl (by omega) (by omega) hll
 rw [ui] at hn
 obtain ⟨l0, e0⟩ : ∃ l0, l0 = l ++ num xs.length := ⟨_, rfl⟩
 obtain ⟨b0, f0⟩ : ∃ b0, b0 = (bad || decide (most < xs.length)) := ⟨_, rfl⟩
 have el : l ++ eRow eWa xs = l0 ++ xs.flatMap eWa := by rw [e0]; simp [eRow]
 have eb : (bad || xRow xWa most xs) = (b0 || xs.any xWa) := by rw [f0]; simp [xRow, Bool.or_assoc]
 rw [el] at hl
 rw [el, eb]
 rw [← e0, ← f0] at hn
 clear el eb f0
 repeat' ((first | apply Run_seq | apply Run_skip | apply Run_block | apply Run_blk | refine Run_exit rfl ?_ | apply Run_ret | apply Run_nil | apply Run_condK | apply Run_ops mixed | apply Run_opsX mixed | (with_reducible first | refine PostG_open ?_ | refine ro_callA' (f := .c (.fn 53 [])) ?_ | refine ro_callV ?_ | refine CallE_use (hn) (by simp) ?_) | simp (disch := omega) only [wu64] | ((first | refine GuardK_split ?_ ?_ | refine CondK_split ?_ ?_) <;> intro hc <;> (try simp only [hc]) <;> try simp at hc) | (with_reducible refine ⟨?_, ?_⟩; (focus ((repeat' with_reducible refine ⟨?_, ?_⟩) <;> first | exact trivial | assumption | (simp; done) | (simp only [List.length_map] at *; omega) | omega | (simp [fs]; done) | exact r8_sz))) | (with_reducible intro x hx) | omega) <;> (try simp only [row2_len, hR, Nat.reduceBEq, reduceIte, Nat.reduceEqDiff, Nat.reduceAdd, Nat.reduceSub, Nat.reduceLT, reduceCtorEq, cond_false, ne_eq, fw, fd]))
 refine Run_loop (ι := {i : Nat // i ≤ xs.length}) (fun i => ([(1, .ptr 3 0 j 1), (3, .fn 130 [.ptr 4 0 0 1]), (29, .int .i64 xs.length), (30, .int .i64 i.1)], [Cw 1 (b0 || (xs.take i.1).any xWa), Ww 2 (l0 ++ (xs.take i.1).flatMap eWa).length, acc true 1 true (r8 (l0 ++ (xs.take i.1).flatMap eWa)), Va sz R, Bx 0])) (fun i => xs.length - i.1) ⟨0, by omega⟩ ?_ ?_
 ·simp only [List.take_zero, List.flatMap_nil, List.any_nil, Bool.or_false, List.append_nil]
  refine Ent_gc [0, 1, 2, 3, 4] (by rfl) (by simp) (by simp [fg]) (by simp [fg])
  skip
 rintro ⟨i, hi⟩ hk
 dsimp only at hk ⊢
 by_cases hlt : i < xs.length
 ·have c1 : ((i : Int) < (xs.length : Int)) = True := by simp; omega
  obtain ⟨x, hg⟩ : ∃ x, xs[i]? = some x := ⟨_, List.getElem?_eq_getElem hlt⟩
  have hr := row2_get (k := .u32) (m := .i64) hg
  have hxf := hx x (List.mem_of_getElem? hg)
  have hfm := fm_take eWa hg
  have han := any_take xWa hg
  have hle := fm_le eWa xs (i + 1)
  obtain ⟨li, ei⟩ : ∃ li, li = l0 ++ (xs.take i).flatMap eWa := ⟨_, rfl⟩
  obtain ⟨bi, fi⟩ : ∃ bi, bi = (b0 || (xs.take i).any xWa) := ⟨_, rfl⟩
  have ej : l0 ++ (xs.take (i + 1)).flatMap eWa = li ++ eWa x := by rw [ei, hfm, List.append_assoc]
  have fj : (b0 || (xs.take (i + 1)).any xWa) = (bi || xWa x) := by rw [fi, han, Bool.or_assoc]
  have hlj : (li ++ eWa x).length ≤ 1099511627776 := by rw [← ej]; simp only [List.length_append] at hl ⊢; omega
  have hw := elWa_w li bi x hxf hlj
  rw [← ei, ← fi]
  obtain ⟨lj, el⟩ : ∃ lj, lj = li ++ eWa x := ⟨_, rfl⟩
  obtain ⟨bj, fl⟩ : ∃ bj, bj = (bi || xWa x) := ⟨_, rfl⟩
  rw [← el, ← fl] at hw
  rw [← el] at ej
  rw [← fl] at fj
  have g2 : lj.length ≤ 1099511627776 := by rw [el]; exact hlj
  have g1 : li.length ≤ lj.length := by rw [el, List.length_append]; omega
  clear el fl ei fi
  have hcell : cWa x = [.int .u32 x.1, .int .i64 x.2] := rfl
  rw [hcell] at hw
  repeat' ((first | apply Run_seq | apply Run_skip | apply Run_block | apply Run_blk | refine Run_exit rfl ?_ | apply Run_ret | apply Run_nil | apply Run_condK | apply Run_ops mixed | apply Run_opsX mixed | (with_reducible first | refine PostG_open ?_ | refine ro_callA' (f := .t 39) ?_ | refine ro_callV ?_ | refine CallE_use (hw) (by simp) ?_) | simp (disch := omega) only [w64] | ((first | refine GuardK_split ?_ ?_ | refine CondK_split ?_ ?_) <;> intro hc <;> (try simp only [hc]) <;> try simp at hc) | (with_reducible refine ⟨?_, ?_⟩; (focus ((repeat' with_reducible refine ⟨?_, ?_⟩) <;> first | exact trivial | assumption | (simp; done) | (simp only [List.length_map] at *; omega) | omega | (simp [fs]; done) | exact r8_sz))) | (with_reducible intro x hx) | omega) <;> (try simp only [row2_len, hR, c1, hr, Nat.reduceBEq, reduceIte, Nat.reduceEqDiff, Nat.reduceAdd, Nat.reduceSub, Nat.reduceLT, reduceCtorEq, ne_eq, fw, fd]))
  refine hk ⟨i + 1, by omega⟩ _ _ (by dsimp only; omega) ?_
  dsimp only
  rw [ej, fj]
  refine Ent_gc [0, 1, 2, 3, 4] (by rfl) (by simp) (by simp [fg]) (by simp [fg])
  skip
 ·have c1 : ((i : Int) < (xs.length : Int)) = False := by simp; omega
  obtain rfl : i = xs.length := by omega
  rw [List.take_length]
  repeat' ((first | apply Run_seq | apply Run_skip | apply Run_block | apply Run_blk | refine Run_exit rfl ?_ | apply Run_ret | apply Run_nil | apply Run_condK | apply Run_ops mixed | apply Run_opsX mixed | (with_reducible first | refine PostG_open ?_ | refine ro_callV ?_) | simp (disch := omega) only [w64, wu64, wu32, wu16, wu8, Int.tdiv_eq_ediv_of_nonneg, Int.tmod_eq_emod_of_nonneg] | ((first | refine GuardK_split ?_ ?_ | refine CondK_split ?_ ?_) <;> intro hc <;> (try simp only [hc]) <;> try simp at hc) | (with_reducible refine ⟨?_, ?_⟩; (focus ((repeat' with_reducible refine ⟨?_, ?_⟩) <;> first | exact trivial | assumption | (simp; done) | (simp only [List.length_map] at *; omega) | omega | (simp [fs]; done) | exact r8_sz))) | (with_reducible intro x hx) | omega) <;> (try simp only [c1, Nat.reduceBEq, reduceIte, binD, binInt, ofRes, fw]))
  refine GcTo_own [0, 1, 2, 3, 4] (by rfl) (by simp) (by simp [fg])
  skip
def ePa (x : Int × Int) : List UInt8 := num (uI x.1) ++ num (uI x.2)
def xPa (x : Int × Int) : Bool := false
def cPa (x : Int × Int) : List D := [.int .u32 x.1, .int .u32 x.2]
def fPa (x : Int × Int) : Prop := (0 ≤ x.1 ∧ x.1 ≤ 4294967295) ∧ (0 ≤ x.2 ∧ x.2 ≤ 4294967295)
theorem elPa_w (l : List UInt8) (bad : Bool) (x : Int × Int) (hx : fPa x) (hl : (l ++ ePa x).length ≤ 1099511627776) :
  CallG Tryz.prog 132 [.ptr 0 0 0 1, .ptr 1 0 0 1] [Va 2 (cPa x), Bx 2, Cw 3 bad, Ww 4 l.length, acc true 1 true (r8 l)] (.tup [])
   [Va 2 (cPa x), Bx 2, Cw 3 (bad || xPa x), Ww 4 (l ++ ePa x).length, acc true 1 true (r8 (l ++ ePa x))] := by
 refine callG Tryz.func132 low132 (by simp [c132]) ?_
 simp only [c132]
 unfold fPa at hx
 obtain ⟨l1, e1⟩ : ∃ l1, l1 = l ++ num (uI x.1) := ⟨_, rfl⟩
 obtain ⟨l2, e2⟩ : ∃ l2, l2 = l1 ++ num (uI x.2) := ⟨_, rfl⟩
 have el : l ++ ePa x = l2 := by rw [e2, e1]; simp [ePa]
 have eb : (bad || xPa x) = bad := by simp [xPa]
 rw [el] at hl
 rw [el, eb]
 have g1 : l1.length ≤ l2.length := by rw [e2, List.length_append]; omega
 have g0 : l.length ≤ l1.length := by rw [e1, List.length_append]; omega
 have h1 := name_w l bad 2 (cPa x) 0 x.1 rfl hx.1 (by omega)
 rw [← e1] at h1
 have h2 := name_w l1 bad 2 (cPa x) 1 x.2 rfl hx.2 (by omega)
 rw [← e2] at h2
 clear e1 e2 el eb
 repeat' ((first | apply Run_seq | apply Run_ret | apply Run_nil | apply Run_opsX mixed | (with_reducible first | refine PostG_open ?_ | refine ro_callA (f := .c (.fn 78 [])) ?_ | refine ro_callVX ?_ | refine CallE_use (h1) (by simp) ?_ | refine CallE_use (h2) (by simp) ?_) | (with_reducible refine ⟨?_, ?_⟩; (focus ((repeat' with_reducible refine ⟨?_, ?_⟩) <;> first | exact trivial | assumption | (simp; done) | (simp only [List.length_map] at *; omega) | omega | (simp [fs]; done) | exact r8_sz))) | (with_reducible intro x hx) | omega) <;> (try simp only [Nat.reduceBEq, reduceIte, Nat.reduceEqDiff, Nat.reduceAdd, Nat.reduceSub, Nat.reduceLT, reduceCtorEq, fw, fd]))
 refine GcTo_own [0, 1, 2, 3, 4] (by rfl) (by simp) (by simp [fg])
set_option maxHeartbeats 2000000 in
theorem rowPa_w (l : List UInt8) (bad : Bool) (sz : Nat) (R : List D) (j most : Nat) (xs : List (Int × Int)) (hR : R[j]? = some (L (row2 .u32 .u32 xs))) (hm : most < 9223372036854775808) (hxl : xs.length ≤ 140737488351232) (hx : ∀ x ∈ xs, fPa x) (hl : (l ++ eRow ePa xs).length ≤ 1099511627776) :
  CallG Tryz.prog 131 [.ptr 0 0 0 1, .ptr 3 0 j 1, .int .i64 most, .fn 132 [.ptr 4 0 0 1]] [Cw 1 bad, Ww 2 l.length, acc true 1 true (r8 l), Va sz R, Bx 0] (.tup [])
   [Cw 1 (bad || xRow xPa most xs), Ww 2 (l ++ eRow ePa xs).length, acc true 1 true (r8 (l ++ eRow ePa xs)), Va sz R, Bx 0] := by
 refine callG Tryz.func131 low131 (by simp [c131]) ?_
 simp only [c131]
 have ui : uI (xs.length : Int) = xs.length := by unfold uI; omega
 have hll : l.length ≤ 1099511627776 := by rw [List.length_append] at hl; omega
 have hn := numQ_w l bad 1 [.int .u64 xs.length] 0 most xs.length rfl (by omega) (by omega) hll
 rw [ui] at hn
 obtain ⟨l0, e0⟩ : ∃ l0, l0 = l ++ num xs.length := ⟨_, rfl⟩
 obtain ⟨b0, f0⟩ : ∃ b0, b0 = (bad || decide (most < xs.length)) := ⟨_, rfl⟩
 have el : l ++ eRow ePa xs = l0 ++ xs.flatMap ePa := by rw [e0]; simp [eRow]
 have eb : (bad || xRow xPa most xs) = (b0 || xs.any xPa) := by rw [f0]; simp [xRow, Bool.or_assoc]
 rw [el] at hl
 rw [el, eb]
 rw [← e0, ← f0] at hn
 clear el eb f0
 repeat' ((first | apply Run_seq | apply Run_skip | apply Run_block | apply Run_blk | refine Run_exit rfl ?_ | apply Run_ret | apply Run_nil | apply Run_condK | apply Run_ops mixed | apply Run_opsX mixed | (with_reducible first | refine PostG_open ?_ | refine ro_callA' (f := .c (.fn 53 [])) ?_ | refine ro_callV ?_ | refine CallE_use (hn) (by simp) ?_) | simp (disch := omega) only [wu64] | ((first | refine GuardK_split ?_ ?_ | refine CondK_split ?_ ?_) <;> intro hc <;> (try simp only [hc]) <;> try simp at hc) | (with_reducible refine ⟨?_, ?_⟩; (focus ((repeat' with_reducible refine ⟨?_, ?_⟩) <;> first | exact trivial | assumption | (simp; done) | (simp only [List.length_map] at *; omega) | omega | (simp [fs]; done) | exact r8_sz))) | (with_reducible intro x hx) | omega) <;> (try simp only [row2_len, hR, Nat.reduceBEq, reduceIte, Nat.reduceEqDiff, Nat.reduceAdd, Nat.reduceSub, Nat.reduceLT, reduceCtorEq, cond_false, ne_eq, fw, fd]))
 refine Run_loop (ι := {i : Nat // i ≤ xs.length}) (fun i => ([(1, .ptr 3 0 j 1), (3, .fn 132 [.ptr 4 0 0 1]), (29, .int .i64 xs.length), (30, .int .i64 i.1)], [Cw 1 (b0 || (xs.take i.1).any xPa), Ww 2 (l0 ++ (xs.take i.1).flatMap ePa).length, acc true 1 true (r8 (l0 ++ (xs.take i.1).flatMap ePa)), Va sz R, Bx 0])) (fun i => xs.length - i.1) ⟨0, by omega⟩ ?_ ?_
 ·simp only [List.take_zero, List.flatMap_nil, List.any_nil, Bool.or_false, List.append_nil]
  refine Ent_gc [0, 1, 2, 3, 4] (by rfl) (by simp) (by simp [fg]) (by simp [fg])
  skip
 rintro ⟨i, hi⟩ hk
 dsimp only at hk ⊢
 by_cases hlt : i < xs.length
 ·have c1 : ((i : Int) < (xs.length : Int)) = True := by simp; omega
  obtain ⟨x, hg⟩ : ∃ x, xs[i]? = some x := ⟨_, List.getElem?_eq_getElem hlt⟩
  have hr := row2_get (k := .u32) (m := .u32) hg
  have hxf := hx x (List.mem_of_getElem? hg)
  have hfm := fm_take ePa hg
  have han := any_take xPa hg
  have hle := fm_le ePa xs (i + 1)
  obtain ⟨li, ei⟩ : ∃ li, li = l0 ++ (xs.take i).flatMap ePa := ⟨_, rfl⟩
  obtain ⟨bi, fi⟩ : ∃ bi, bi = (b0 || (xs.take i).any xPa) := ⟨_, rfl⟩
  have ej : l0 ++ (xs.take (i + 1)).flatMap ePa = li ++ ePa x := by rw [ei, hfm, List.append_assoc]
  have fj : (b0 || (xs.take (i + 1)).any xPa) = (bi || xPa x) := by rw [fi, han, Bool.or_assoc]
  have hlj : (li ++ ePa x).length ≤ 1099511627776 := by rw [← ej]; simp only [List.length_append] at hl ⊢; omega
  have hw := elPa_w li bi x hxf hlj
  rw [← ei, ← fi]
  obtain ⟨lj, el⟩ : ∃ lj, lj = li ++ ePa x := ⟨_, rfl⟩
  obtain ⟨bj, fl⟩ : ∃ bj, bj = (bi || xPa x) := ⟨_, rfl⟩
  rw [← el, ← fl] at hw
  rw [← el] at ej
  rw [← fl] at fj
  have g2 : lj.length ≤ 1099511627776 := by rw [el]; exact hlj
  have g1 : li.length ≤ lj.length := by rw [el, List.length_append]; omega
  clear el fl ei fi
  have hcell : cPa x = [.int .u32 x.1, .int .u32 x.2] := rfl
  rw [hcell] at hw
  repeat' ((first | apply Run_seq | apply Run_skip | apply Run_block | apply Run_blk | refine Run_exit rfl ?_ | apply Run_ret | apply Run_nil | apply Run_condK | apply Run_ops mixed | apply Run_opsX mixed | (with_reducible first | refine PostG_open ?_ | refine ro_callA' (f := .t 39) ?_ | refine ro_callV ?_ | refine CallE_use (hw) (by simp) ?_) | simp (disch := omega) only [w64] | ((first | refine GuardK_split ?_ ?_ | refine CondK_split ?_ ?_) <;> intro hc <;> (try simp only [hc]) <;> try simp at hc) | (with_reducible refine ⟨?_, ?_⟩; (focus ((repeat' with_reducible refine ⟨?_, ?_⟩) <;> first | exact trivial | assumption | (simp; done) | (simp only [List.length_map] at *; omega) | omega | (simp [fs]; done) | exact r8_sz))) | (with_reducible intro x hx) | omega) <;> (try simp only [row2_len, hR, c1, hr, Nat.reduceBEq, reduceIte, Nat.reduceEqDiff, Nat.reduceAdd, Nat.reduceSub, Nat.reduceLT, reduceCtorEq, ne_eq, fw, fd]))
  refine hk ⟨i + 1, by omega⟩ _ _ (by dsimp only; omega) ?_
  dsimp only
  rw [ej, fj]
  refine Ent_gc [0, 1, 2, 3, 4] (by rfl) (by simp) (by simp [fg]) (by simp [fg])
  skip
 ·have c1 : ((i : Int) < (xs.length : Int)) = False := by simp; omega
  obtain rfl : i = xs.length := by omega
  rw [List.take_length]
  repeat' ((first | apply Run_seq | apply Run_skip | apply Run_block | apply Run_blk | refine Run_exit rfl ?_ | apply Run_ret | apply Run_nil | apply Run_condK | apply Run_ops mixed | apply Run_opsX mixed | (with_reducible first | refine PostG_open ?_ | refine ro_callV ?_) | simp (disch := omega) only [w64, wu64, wu32, wu16, wu8, Int.tdiv_eq_ediv_of_nonneg, Int.tmod_eq_emod_of_nonneg] | ((first | refine GuardK_split ?_ ?_ | refine CondK_split ?_ ?_) <;> intro hc <;> (try simp only [hc]) <;> try simp at hc) | (with_reducible refine ⟨?_, ?_⟩; (focus ((repeat' with_reducible refine ⟨?_, ?_⟩) <;> first | exact trivial | assumption | (simp; done) | (simp only [List.length_map] at *; omega) | omega | (simp [fs]; done) | exact r8_sz))) | (with_reducible intro x hx) | omega) <;> (try simp only [c1, Nat.reduceBEq, reduceIte, binD, binInt, ofRes, fw]))
  refine GcTo_own [0, 1, 2, 3, 4] (by rfl) (by simp) (by simp [fg])
  skip
def eTs (x : Int) : List UInt8 := num (zz x)
def xTs (x : Int) : Bool := false
def cTs (x : Int) : List D := [.int .i64 x]
def fTs (x : Int) : Prop := Fit x
theorem elTs_w (l : List UInt8) (bad : Bool) (x : Int) (hx : fTs x) (hl : (l ++ eTs x).length ≤ 1099511627776) :
  CallG Tryz.prog 105 [.ptr 0 0 0 1, .ptr 1 0 0 1] [Va 1 (cTs x), Bx 2, Cw 3 bad, Ww 4 l.length, acc true 1 true (r8 l)] (.tup [])
   [Va 1 (cTs x), Bx 2, Cw 3 (bad || xTs x), Ww 4 (l ++ eTs x).length, acc true 1 true (r8 (l ++ eTs x))] := by
 refine callG Tryz.func105 low105 (by simp [c105]) ?_
 simp only [c105]
 unfold fTs at hx
 obtain ⟨l1, e1⟩ : ∃ l1, l1 = l ++ num (zz x) := ⟨_, rfl⟩
 have el : l ++ eTs x = l1 := by rw [e1]; simp [eTs]
 have eb : (bad || xTs x) = bad := by simp [xTs]
 rw [el] at hl
 rw [el, eb]
 have g0 : l.length ≤ l1.length := by rw [e1, List.length_append]; omega
 have h1 := minutes_w l bad 1 (cTs x) 0 x rfl hx (by omega)
 rw [← e1] at h1
 clear e1 el eb
 repeat' ((first | apply Run_seq | apply Run_ret | apply Run_nil | apply Run_ops mixed | (with_reducible first | refine PostG_open ?_ | refine ro_callA' (f := .c (.fn 56 [])) ?_ | refine ro_callV ?_ | refine CallE_use (h1) (by simp) ?_) | (with_reducible refine ⟨?_, ?_⟩; (focus ((repeat' with_reducible refine ⟨?_, ?_⟩) <;> first | exact trivial | assumption | (simp; done) | (simp only [List.length_map] at *; omega) | omega | (simp [fs]; done) | exact r8_sz))) | (with_reducible intro x hx) | omega) <;> (try simp only [Nat.reduceBEq, reduceIte, Nat.reduceEqDiff, Nat.reduceAdd, Nat.reduceSub, Nat.reduceLT, reduceCtorEq, fw, fd]))
 refine GcTo_own [0, 1, 2, 3, 4] (by rfl) (by simp) (by simp [fg])
set_option maxHeartbeats 2000000 in
theorem rowTs_w (l : List UInt8) (bad : Bool) (sz : Nat) (R : List D) (j most : Nat) (xs : List Int) (hR : R[j]? = some (L (row1 .i64 xs))) (hm : most < 9223372036854775808) (hxl : xs.length ≤ 140737488351232) (hx : ∀ x ∈ xs, fTs x) (hl : (l ++ eRow eTs xs).length ≤ 1099511627776) :
  CallG Tryz.prog 104 [.ptr 0 0 0 1, .ptr 3 0 j 1, .int .i64 most, .fn 105 [.ptr 4 0 0 1]] [Cw 1 bad, Ww 2 l.length, acc true 1 true (r8 l), Va sz R, Bx 0] (.tup [])
   [Cw 1 (bad || xRow xTs most xs), Ww 2 (l ++ eRow eTs xs).length, acc true 1 true (r8 (l ++ eRow eTs xs)), Va sz R, Bx 0] := by
 refine callG Tryz.func104 low104 (by simp [c104]) ?_
 simp only [c104]
 have ui : uI (xs.length : Int) = xs.length := by unfold uI; omega
 have hll : l.length ≤ 1099511627776 := by rw [List.length_append] at hl; omega
 have hn := numQ_w l bad 1 [.int .u64 xs.length] 0 most xs.length rfl (by omega) (by omega) hll
 rw [ui] at hn
 obtain ⟨l0, e0⟩ : ∃ l0, l0 = l ++ num xs.length := ⟨_, rfl⟩
 obtain ⟨b0, f0⟩ : ∃ b0, b0 = (bad || decide (most < xs.length)) := ⟨_, rfl⟩
 have el : l ++ eRow eTs xs = l0 ++ xs.flatMap eTs := by rw [e0]; simp [eRow]
 have eb : (bad || xRow xTs most xs) = (b0 || xs.any xTs) := by rw [f0]; simp [xRow, Bool.or_assoc]
 rw [el] at hl
 rw [el, eb]
 rw [← e0, ← f0] at hn
 clear el eb f0
 repeat' ((first | apply Run_seq | apply Run_skip | apply Run_block | apply Run_blk | refine Run_exit rfl ?_ | apply Run_ret | apply Run_nil | apply Run_condK | apply Run_ops mixed | apply Run_opsX mixed | (with_reducible first | refine PostG_open ?_ | refine ro_callA' (f := .c (.fn 53 [])) ?_ | refine ro_callV ?_ | refine CallE_use (hn) (by simp) ?_) | simp (disch := omega) only [wu64] | ((first | refine GuardK_split ?_ ?_ | refine CondK_split ?_ ?_) <;> intro hc <;> (try simp only [hc]) <;> try simp at hc) | (with_reducible refine ⟨?_, ?_⟩; (focus ((repeat' with_reducible refine ⟨?_, ?_⟩) <;> first | exact trivial | assumption | (simp; done) | (simp only [List.length_map] at *; omega) | omega | (simp [fs]; done) | exact r8_sz))) | (with_reducible intro x hx) | omega) <;> (try simp only [row1_len, hR, Nat.reduceBEq, reduceIte, Nat.reduceEqDiff, Nat.reduceAdd, Nat.reduceSub, Nat.reduceLT, reduceCtorEq, cond_false, ne_eq, fw, fd]))
 refine Run_loop (ι := {i : Nat // i ≤ xs.length}) (fun i => ([(1, .ptr 3 0 j 1), (3, .fn 105 [.ptr 4 0 0 1]), (29, .int .i64 xs.length), (30, .int .i64 i.1)], [Cw 1 (b0 || (xs.take i.1).any xTs), Ww 2 (l0 ++ (xs.take i.1).flatMap eTs).length, acc true 1 true (r8 (l0 ++ (xs.take i.1).flatMap eTs)), Va sz R, Bx 0])) (fun i => xs.length - i.1) ⟨0, by omega⟩ ?_ ?_
 ·simp only [List.take_zero, List.flatMap_nil, List.any_nil, Bool.or_false, List.append_nil]
  refine Ent_gc [0, 1, 2, 3, 4] (by rfl) (by simp) (by simp [fg]) (by simp [fg])
  skip
 rintro ⟨i, hi⟩ hk
 dsimp only at hk ⊢
 by_cases hlt : i < xs.length
 ·have c1 : ((i : Int) < (xs.length : Int)) = True := by simp; omega
  obtain ⟨x, hg⟩ : ∃ x, xs[i]? = some x := ⟨_, List.getElem?_eq_getElem hlt⟩
  have hr := row1_get (k := .i64) hg
  have hxf := hx x (List.mem_of_getElem? hg)
  have hfm := fm_take eTs hg
  have han := any_take xTs hg
  have hle := fm_le eTs xs (i + 1)
  obtain ⟨li, ei⟩ : ∃ li, li = l0 ++ (xs.take i).flatMap eTs := ⟨_, rfl⟩
  obtain ⟨bi, fi⟩ : ∃ bi, bi = (b0 || (xs.take i).any xTs) := ⟨_, rfl⟩
  have ej : l0 ++ (xs.take (i + 1)).flatMap eTs = li ++ eTs x := by rw [ei, hfm, List.append_assoc]
  have fj : (b0 || (xs.take (i + 1)).any xTs) = (bi || xTs x) := by rw [fi, han, Bool.or_assoc]
  have hlj : (li ++ eTs x).length ≤ 1099511627776 := by rw [← ej]; simp only [List.length_append] at hl ⊢; omega
  have hw := elTs_w li bi x hxf hlj
  rw [← ei, ← fi]
  obtain ⟨lj, el⟩ : ∃ lj, lj = li ++ eTs x := ⟨_, rfl⟩
  obtain ⟨bj, fl⟩ : ∃ bj, bj = (bi || xTs x) := ⟨_, rfl⟩
  rw [← el, ← fl] at hw
  rw [← el] at ej
  rw [← fl] at fj
  have g2 : lj.length ≤ 1099511627776 := by rw [el]; exact hlj
  have g1 : li.length ≤ lj.length := by rw [el, List.length_append]; omega
  clear el fl ei fi
  have hcell : cTs x = [.int .i64 x] := rfl
  rw [hcell] at hw
  repeat' ((first | apply Run_seq | apply Run_skip | apply Run_block | apply Run_blk | refine Run_exit rfl ?_ | apply Run_ret | apply Run_nil | apply Run_condK | apply Run_ops mixed | apply Run_opsX mixed | (with_reducible first | refine PostG_open ?_ | refine ro_callA' (f := .t 39) ?_ | refine ro_callV ?_ | refine CallE_use (hw) (by simp) ?_) | simp (disch := omega) only [w64] | ((first | refine GuardK_split ?_ ?_ | refine CondK_split ?_ ?_) <;> intro hc <;> (try simp only [hc]) <;> try simp at hc) | (with_reducible refine ⟨?_, ?_⟩; (focus ((repeat' with_reducible refine ⟨?_, ?_⟩) <;> first | exact trivial | assumption | (simp; done) | (simp only [List.length_map] at *; omega) | omega | (simp [fs]; done) | exact r8_sz))) | (with_reducible intro x hx) | omega) <;> (try simp only [row1_len, hR, c1, hr, Nat.reduceBEq, reduceIte, Nat.reduceEqDiff, Nat.reduceAdd, Nat.reduceSub, Nat.reduceLT, reduceCtorEq, ne_eq, fw, fd]))
  refine hk ⟨i + 1, by omega⟩ _ _ (by dsimp only; omega) ?_
  dsimp only
  rw [ej, fj]
  refine Ent_gc [0, 1, 2, 3, 4] (by rfl) (by simp) (by simp [fg]) (by simp [fg])
  skip
 ·have c1 : ((i : Int) < (xs.length : Int)) = False := by simp; omega
  obtain rfl : i = xs.length := by omega
  rw [List.take_length]
  repeat' ((first | apply Run_seq | apply Run_skip | apply Run_block | apply Run_blk | refine Run_exit rfl ?_ | apply Run_ret | apply Run_nil | apply Run_condK | apply Run_ops mixed | apply Run_opsX mixed | (with_reducible first | refine PostG_open ?_ | refine ro_callV ?_) | simp (disch := omega) only [w64, wu64, wu32, wu16, wu8, Int.tdiv_eq_ediv_of_nonneg, Int.tmod_eq_emod_of_nonneg] | ((first | refine GuardK_split ?_ ?_ | refine CondK_split ?_ ?_) <;> intro hc <;> (try simp only [hc]) <;> try simp at hc) | (with_reducible refine ⟨?_, ?_⟩; (focus ((repeat' with_reducible refine ⟨?_, ?_⟩) <;> first | exact trivial | assumption | (simp; done) | (simp only [List.length_map] at *; omega) | omega | (simp [fs]; done) | exact r8_sz))) | (with_reducible intro x hx) | omega) <;> (try simp only [c1, Nat.reduceBEq, reduceIte, binD, binInt, ofRes, fw]))
  refine GcTo_own [0, 1, 2, 3, 4] (by rfl) (by simp) (by simp [fg])
  skip
def eVo (x : Int × Int) : List UInt8 := num (uI x.1) ++ num (uI x.2)
def xVo (x : Int × Int) : Bool := decide (40 < uI x.2)
def cVo (x : Int × Int) : List D := [.int .u32 x.1, .int .i64 x.2]
def fVo (x : Int × Int) : Prop := (0 ≤ x.1 ∧ x.1 ≤ 4294967295) ∧ Fit x.2
theorem elVo_w (l : List UInt8) (bad : Bool) (x : Int × Int) (hx : fVo x) (hl : (l ++ eVo x).length ≤ 1099511627776) :
  CallG Tryz.prog 107 [.ptr 0 0 0 1, .ptr 1 0 0 1] [Va 2 (cVo x), Bx 2, Cw 3 bad, Ww 4 l.length, acc true 1 true (r8 l)] (.tup [])
   [Va 2 (cVo x), Bx 2, Cw 3 (bad || xVo x), Ww 4 (l ++ eVo x).length, acc true 1 true (r8 (l ++ eVo x))] := by
 refine callG Tryz.func107 low107 (by simp [c107]) ?_
 simp only [c107]
 unfold fVo at hx
 obtain ⟨l1, e1⟩ : ∃ l1, l1 = l ++ num (uI x.1) := ⟨_, rfl⟩
 obtain ⟨l2, e2⟩ : ∃ l2, l2 = l1 ++ num (uI x.2) := ⟨_, rfl⟩
 obtain ⟨b2, d2⟩ : ∃ b2, b2 = (bad || decide (40 < uI x.2)) := ⟨_, rfl⟩
 have el : l ++ eVo x = l2 := by rw [e2, e1]; simp [eVo]
 have eb : (bad || xVo x) = b2 := by rw [d2]; simp [xVo]
 rw [el] at hl
 rw [el, eb]
 have g1 : l1.length ≤ l2.length := by rw [e2, List.length_append]; omega
 have g0 : l.length ≤ l1.length := by rw [e1, List.length_append]; omega
 have h1 := name_w l bad 2 (cVo x) 0 x.1 rfl hx.1 (by omega)
 rw [← e1] at h1
 have h2 := numI_w l1 bad 2 (cVo x) 1 40 x.2 rfl hx.2 (by omega) (by omega)
 rw [← e2, ← d2] at h2
 clear e1 e2 d2 el eb
 repeat' ((first | apply Run_seq | apply Run_ret | apply Run_nil | apply Run_opsX mixed | (with_reducible first | refine PostG_open ?_ | refine ro_callA (f := .c (.fn 78 [])) ?_ | refine ro_callA (f := .c (.fn 57 [])) ?_ | refine ro_callVX ?_ | refine CallE_use (h1) (by simp) ?_ | refine CallE_use (h2) (by simp) ?_) | (with_reducible refine ⟨?_, ?_⟩; (focus ((repeat' with_reducible refine ⟨?_, ?_⟩) <;> first | exact trivial | assumption | (simp; done) | (simp only [List.length_map] at *; omega) | omega | (simp [fs]; done) | exact r8_sz))) | (with_reducible intro x hx) | omega) <;> (try simp only [Nat.reduceBEq, reduceIte, Nat.reduceEqDiff, Nat.reduceAdd, Nat.reduceSub, Nat.reduceLT, reduceCtorEq, fw, fd]))
 refine GcTo_own [0, 1, 2, 3, 4] (by rfl) (by simp) (by simp [fg])
set_option maxHeartbeats 2000000 in
theorem rowVo_w (l : List UInt8) (bad : Bool) (sz : Nat) (R : List D) (j most : Nat) (xs : List (Int × Int)) (hR : R[j]? = some (L (row2 .u32 .i64 xs))) (hm : most < 9223372036854775808) (hxl : xs.length ≤ 140737488351232) (hx : ∀ x ∈ xs, fVo x) (hl : (l ++ eRow eVo xs).length ≤ 1099511627776) :
  CallG Tryz.prog 106 [.ptr 0 0 0 1, .ptr 3 0 j 1, .int .i64 most, .fn 107 [.ptr 4 0 0 1]] [Cw 1 bad, Ww 2 l.length, acc true 1 true (r8 l), Va sz R, Bx 0] (.tup [])
   [Cw 1 (bad || xRow xVo most xs), Ww 2 (l ++ eRow eVo xs).length, acc true 1 true (r8 (l ++ eRow eVo xs)), Va sz R, Bx 0] := by
 refine callG Tryz.func106 low106 (by simp [c106]) ?_
 simp only [c106]
 have ui : uI (xs.length : Int) = xs.length := by unfold uI; omega
 have hll : l.length ≤ 1099511627776 := by rw [List.length_append] at hl; omega
 have hn := numQ_w l bad 1 [.int .u64 xs.length] 0 most xs.length rfl (by omega) (by omega) hll
 rw [ui] at hn
 obtain ⟨l0, e0⟩ : ∃ l0, l0 = l ++ num xs.length := ⟨_, rfl⟩
 obtain ⟨b0, f0⟩ : ∃ b0, b0 = (bad || decide (most < xs.length)) := ⟨_, rfl⟩
 have el : l ++ eRow eVo xs = l0 ++ xs.flatMap eVo := by rw [e0]; simp [eRow]
 have eb : (bad || xRow xVo most xs) = (b0 || xs.any xVo) := by rw [f0]; simp [xRow, Bool.or_assoc]
 rw [el] at hl
 rw [el, eb]
 rw [← e0, ← f0] at hn
 clear el eb f0
 repeat' ((first | apply Run_seq | apply Run_skip | apply Run_block | apply Run_blk | refine Run_exit rfl ?_ | apply Run_ret | apply Run_nil | apply Run_condK | apply Run_ops mixed | apply Run_opsX mixed | (with_reducible first | refine PostG_open ?_ | refine ro_callA' (f := .c (.fn 53 [])) ?_ | refine ro_callV ?_ | refine CallE_use (hn) (by simp) ?_) | simp (disch := omega) only [wu64] | ((first | refine GuardK_split ?_ ?_ | refine CondK_split ?_ ?_) <;> intro hc <;> (try simp only [hc]) <;> try simp at hc) | (with_reducible refine ⟨?_, ?_⟩; (focus ((repeat' with_reducible refine ⟨?_, ?_⟩) <;> first | exact trivial | assumption | (simp; done) | (simp only [List.length_map] at *; omega) | omega | (simp [fs]; done) | exact r8_sz))) | (with_reducible intro x hx) | omega) <;> (try simp only [row2_len, hR, Nat.reduceBEq, reduceIte, Nat.reduceEqDiff, Nat.reduceAdd, Nat.reduceSub, Nat.reduceLT, reduceCtorEq, cond_false, ne_eq, fw, fd]))
 refine Run_loop (ι := {i : Nat // i ≤ xs.length}) (fun i => ([(1, .ptr 3 0 j 1), (3, .fn 107 [.ptr 4 0 0 1]), (29, .int .i64 xs.length), (30, .int .i64 i.1)], [Cw 1 (b0 || (xs.take i.1).any xVo), Ww 2 (l0 ++ (xs.take i.1).flatMap eVo).length, acc true 1 true (r8 (l0 ++ (xs.take i.1).flatMap eVo)), Va sz R, Bx 0])) (fun i => xs.length - i.1) ⟨0, by omega⟩ ?_ ?_
 ·simp only [List.take_zero, List.flatMap_nil, List.any_nil, Bool.or_false, List.append_nil]
  refine Ent_gc [0, 1, 2, 3, 4] (by rfl) (by simp) (by simp [fg]) (by simp [fg])
  skip
 rintro ⟨i, hi⟩ hk
 dsimp only at hk ⊢
 by_cases hlt : i < xs.length
 ·have c1 : ((i : Int) < (xs.length : Int)) = True := by simp; omega
  obtain ⟨x, hg⟩ : ∃ x, xs[i]? = some x := ⟨_, List.getElem?_eq_getElem hlt⟩
  have hr := row2_get (k := .u32) (m := .i64) hg
  have hxf := hx x (List.mem_of_getElem? hg)
  have hfm := fm_take eVo hg
  have han := any_take xVo hg
  have hle := fm_le eVo xs (i + 1)
  obtain ⟨li, ei⟩ : ∃ li, li = l0 ++ (xs.take i).flatMap eVo := ⟨_, rfl⟩
  obtain ⟨bi, fi⟩ : ∃ bi, bi = (b0 || (xs.take i).any xVo) := ⟨_, rfl⟩
  have ej : l0 ++ (xs.take (i + 1)).flatMap eVo = li ++ eVo x := by rw [ei, hfm, List.append_assoc]
  have fj : (b0 || (xs.take (i + 1)).any xVo) = (bi || xVo x) := by rw [fi, han, Bool.or_assoc]
  have hlj : (li ++ eVo x).length ≤ 1099511627776 := by rw [← ej]; simp only [List.length_append] at hl ⊢; omega
  have hw := elVo_w li bi x hxf hlj
  rw [← ei, ← fi]
  obtain ⟨lj, el⟩ : ∃ lj, lj = li ++ eVo x := ⟨_, rfl⟩
  obtain ⟨bj, fl⟩ : ∃ bj, bj = (bi || xVo x) := ⟨_, rfl⟩
  rw [← el, ← fl] at hw
  rw [← el] at ej
  rw [← fl] at fj
  have g2 : lj.length ≤ 1099511627776 := by rw [el]; exact hlj
  have g1 : li.length ≤ lj.length := by rw [el, List.length_append]; omega
  clear el fl ei fi
  have hcell : cVo x = [.int .u32 x.1, .int .i64 x.2] := rfl
  rw [hcell] at hw
  repeat' ((first | apply Run_seq | apply Run_skip | apply Run_block | apply Run_blk | refine Run_exit rfl ?_ | apply Run_ret | apply Run_nil | apply Run_condK | apply Run_ops mixed | apply Run_opsX mixed | (with_reducible first | refine PostG_open ?_ | refine ro_callA' (f := .t 39) ?_ | refine ro_callV ?_ | refine CallE_use (hw) (by simp) ?_) | simp (disch := omega) only [w64] | ((first | refine GuardK_split ?_ ?_ | refine CondK_split ?_ ?_) <;> intro hc <;> (try simp only [hc]) <;> try simp at hc) | (with_reducible refine ⟨?_, ?_⟩; (focus ((repeat' with_reducible refine ⟨?_, ?_⟩) <;> first | exact trivial | assumption | (simp; done) | (simp only [List.length_map] at *; omega) | omega | (simp [fs]; done) | exact r8_sz))) | (with_reducible intro x hx) | omega) <;> (try simp only [row2_len, hR, c1, hr, Nat.reduceBEq, reduceIte, Nat.reduceEqDiff, Nat.reduceAdd, Nat.reduceSub, Nat.reduceLT, reduceCtorEq, ne_eq, fw, fd]))
  refine hk ⟨i + 1, by omega⟩ _ _ (by dsimp only; omega) ?_
  dsimp only
  rw [ej, fj]
  refine Ent_gc [0, 1, 2, 3, 4] (by rfl) (by simp) (by simp [fg]) (by simp [fg])
  skip
 ·have c1 : ((i : Int) < (xs.length : Int)) = False := by simp; omega
  obtain rfl : i = xs.length := by omega
  rw [List.take_length]
  repeat' ((first | apply Run_seq | apply Run_skip | apply Run_block | apply Run_blk | refine Run_exit rfl ?_ | apply Run_ret | apply Run_nil | apply Run_condK | apply Run_ops mixed | apply Run_opsX mixed | (with_reducible first | refine PostG_open ?_ | refine ro_callV ?_) | simp (disch := omega) only [w64, wu64, wu32, wu16, wu8, Int.tdiv_eq_ediv_of_nonneg, Int.tmod_eq_emod_of_nonneg] | ((first | refine GuardK_split ?_ ?_ | refine CondK_split ?_ ?_) <;> intro hc <;> (try simp only [hc]) <;> try simp at hc) | (with_reducible refine ⟨?_, ?_⟩; (focus ((repeat' with_reducible refine ⟨?_, ?_⟩) <;> first | exact trivial | assumption | (simp; done) | (simp only [List.length_map] at *; omega) | omega | (simp [fs]; done) | exact r8_sz))) | (with_reducible intro x hx) | omega) <;> (try simp only [c1, Nat.reduceBEq, reduceIte, binD, binInt, ofRes, fw]))
  refine GcTo_own [0, 1, 2, 3, 4] (by rfl) (by simp) (by simp [fg])
  skip
def eSl (x : Int × Int × Int) : List UInt8 := num (zz x.1) ++ (num (uI x.2.1) ++ num (uI x.2.2))
def xSl (x : Int × Int × Int) : Bool := (decide (100000 < uI x.2.1) || decide (100 < uI x.2.2))
def cSl (x : Int × Int × Int) : List D := [.int .i64 x.1, .int .i64 x.2.1, .int .i64 x.2.2]
def fSl (x : Int × Int × Int) : Prop := Fit x.1 ∧ Fit x.2.1 ∧ Fit x.2.2
theorem elSl_w (l : List UInt8) (bad : Bool) (x : Int × Int × Int) (hx : fSl x) (hl : (l ++ eSl x).length ≤ 1099511627776) :
  CallG Tryz.prog 55 [.ptr 0 0 0 1, .ptr 1 0 0 1] [Va 3 (cSl x), Bx 2, Cw 3 bad, Ww 4 l.length, acc true 1 true (r8 l)] (.tup [])
   [Va 3 (cSl x), Bx 2, Cw 3 (bad || xSl x), Ww 4 (l ++ eSl x).length, acc true 1 true (r8 (l ++ eSl x))] := by
 refine callG Tryz.func55 low55 (by simp [c55]) ?_
 simp only [c55]
 unfold fSl at hx
 obtain ⟨l1, e1⟩ : ∃ l1, l1 = l ++ num (zz x.1) := ⟨_, rfl⟩
 obtain ⟨l2, e2⟩ : ∃ l2, l2 = l1 ++ num (uI x.2.1) := ⟨_, rfl⟩
 obtain ⟨b2, d2⟩ : ∃ b2, b2 = (bad || decide (100000 < uI x.2.1)) := ⟨_, rfl⟩
 obtain ⟨l3, e3⟩ : ∃ l3, l3 = l2 ++ num (uI x.2.2) := ⟨_, rfl⟩
 obtain ⟨b3, d3⟩ : ∃ b3, b3 = (b2 || decide (100 < uI x.2.2)) := ⟨_, rfl⟩
 have el : l ++ eSl x = l3 := by rw [e3, e2, e1]; simp [eSl]
 have eb : (bad || xSl x) = b3 := by rw [d3, d2]; simp [xSl, Bool.or_assoc]
 rw [el] at hl
 rw [el, eb]
 have g2 : l2.length ≤ l3.length := by rw [e3, List.length_append]; omega
 have g1 : l1.length ≤ l2.length := by rw [e2, List.length_append]; omega
 have g0 : l.length ≤ l1.length := by rw [e1, List.length_append]; omega
 have h1 := minutes_w l bad 3 (cSl x) 0 x.1 rfl hx.1 (by omega)
 rw [← e1] at h1
 have h2 := numI_w l1 bad 3 (cSl x) 1 100000 x.2.1 rfl hx.2.1 (by omega) (by omega)
 rw [← e2, ← d2] at h2
 have h3 := numI_w l2 b2 3 (cSl x) 2 100 x.2.2 rfl hx.2.2 (by omega) (by omega)
 rw [← e3, ← d3] at h3
 clear e1 e2 e3 d2 d3 el eb
 repeat' ((first | apply Run_seq | apply Run_ret | apply Run_nil | apply Run_opsX mixed | (with_reducible first | refine PostG_open ?_ | refine ro_callA (f := .c (.fn 56 [])) ?_ | refine ro_callA (f := .c (.fn 57 [])) ?_ | refine ro_callVX ?_ | refine CallE_use (h1) (by simp) ?_ | refine CallE_use (h2) (by simp) ?_ | refine CallE_use (h3) (by simp) ?_) | (with_reducible refine ⟨?_, ?_⟩; (focus ((repeat' with_reducible refine ⟨?_, ?_⟩) <;> first | exact trivial | assumption | (simp; done) | (simp only [List.length_map] at *; omega) | omega | (simp [fs]; done) | exact r8_sz))) | (with_reducible intro x hx) | omega) <;> (try simp only [Nat.reduceBEq, reduceIte, Nat.reduceEqDiff, Nat.reduceAdd, Nat.reduceSub, Nat.reduceLT, reduceCtorEq, fw, fd]))
 refine GcTo_own [0, 1, 2, 3, 4] (by rfl) (by simp) (by simp [fg])
set_option maxHeartbeats 2000000 in
theorem rowSl_w (l : List UInt8) (bad : Bool) (sz : Nat) (R : List D) (j most : Nat) (xs : List (Int × Int × Int)) (hR : R[j]? = some (L (row3 xs))) (hm : most < 9223372036854775808) (hxl : xs.length ≤ 140737488351232) (hx : ∀ x ∈ xs, fSl x) (hl : (l ++ eRow eSl xs).length ≤ 1099511627776) :
  CallG Tryz.prog 54 [.ptr 0 0 0 1, .ptr 3 0 j 1, .int .i64 most, .fn 55 [.ptr 4 0 0 1]] [Cw 1 bad, Ww 2 l.length, acc true 1 true (r8 l), Va sz R, Bx 0] (.tup [])
   [Cw 1 (bad || xRow xSl most xs), Ww 2 (l ++ eRow eSl xs).length, acc true 1 true (r8 (l ++ eRow eSl xs)), Va sz R, Bx 0] := by
 refine callG Tryz.func54 low54 (by simp [c54]) ?_
 simp only [c54]
 have ui : uI (xs.length : Int) = xs.length := by unfold uI; omega
 have hll : l.length ≤ 1099511627776 := by rw [List.length_append] at hl; omega
 have hn := numQ_w l bad 1 [.int .u64 xs.length] 0 most xs.length rfl (by omega) (by omega) hll
 rw [ui] at hn
 obtain ⟨l0, e0⟩ : ∃ l0, l0 = l ++ num xs.length := ⟨_, rfl⟩
 obtain ⟨b0, f0⟩ : ∃ b0, b0 = (bad || decide (most < xs.length)) := ⟨_, rfl⟩
 have el : l ++ eRow eSl xs = l0 ++ xs.flatMap eSl := by rw [e0]; simp [eRow]
 have eb : (bad || xRow xSl most xs) = (b0 || xs.any xSl) := by rw [f0]; simp [xRow, Bool.or_assoc]
 rw [el] at hl
 rw [el, eb]
 rw [← e0, ← f0] at hn
 clear el eb f0
 repeat' ((first | apply Run_seq | apply Run_skip | apply Run_block | apply Run_blk | refine Run_exit rfl ?_ | apply Run_ret | apply Run_nil | apply Run_condK | apply Run_ops mixed | apply Run_opsX mixed | (with_reducible first | refine PostG_open ?_ | refine ro_callA' (f := .c (.fn 53 [])) ?_ | refine ro_callV ?_ | refine CallE_use (hn) (by simp) ?_) | simp (disch := omega) only [wu64] | ((first | refine GuardK_split ?_ ?_ | refine CondK_split ?_ ?_) <;> intro hc <;> (try simp only [hc]) <;> try simp at hc) | (with_reducible refine ⟨?_, ?_⟩; (focus ((repeat' with_reducible refine ⟨?_, ?_⟩) <;> first | exact trivial | assumption | (simp; done) | (simp only [List.length_map] at *; omega) | omega | (simp [fs]; done) | exact r8_sz))) | (with_reducible intro x hx) | omega) <;> (try simp only [row3_len, hR, Nat.reduceBEq, reduceIte, Nat.reduceEqDiff, Nat.reduceAdd, Nat.reduceSub, Nat.reduceLT, reduceCtorEq, cond_false, ne_eq, fw, fd]))
 refine Run_loop (ι := {i : Nat // i ≤ xs.length}) (fun i => ([(1, .ptr 3 0 j 1), (3, .fn 55 [.ptr 4 0 0 1]), (29, .int .i64 xs.length), (30, .int .i64 i.1)], [Cw 1 (b0 || (xs.take i.1).any xSl), Ww 2 (l0 ++ (xs.take i.1).flatMap eSl).length, acc true 1 true (r8 (l0 ++ (xs.take i.1).flatMap eSl)), Va sz R, Bx 0])) (fun i => xs.length - i.1) ⟨0, by omega⟩ ?_ ?_
 ·simp only [List.take_zero, List.flatMap_nil, List.any_nil, Bool.or_false, List.append_nil]
  refine Ent_gc [0, 1, 2, 3, 4] (by rfl) (by simp) (by simp [fg]) (by simp [fg])
  skip
 rintro ⟨i, hi⟩ hk
 dsimp only at hk ⊢
 by_cases hlt : i < xs.length
 ·have c1 : ((i : Int) < (xs.length : Int)) = True := by simp; omega
  obtain ⟨x, hg⟩ : ∃ x, xs[i]? = some x := ⟨_, List.getElem?_eq_getElem hlt⟩
  have hr := row3_get hg
  have hxf := hx x (List.mem_of_getElem? hg)
  have hfm := fm_take eSl hg
  have han := any_take xSl hg
  have hle := fm_le eSl xs (i + 1)
  obtain ⟨li, ei⟩ : ∃ li, li = l0 ++ (xs.take i).flatMap eSl := ⟨_, rfl⟩
  obtain ⟨bi, fi⟩ : ∃ bi, bi = (b0 || (xs.take i).any xSl) := ⟨_, rfl⟩
  have ej : l0 ++ (xs.take (i + 1)).flatMap eSl = li ++ eSl x := by rw [ei, hfm, List.append_assoc]
  have fj : (b0 || (xs.take (i + 1)).any xSl) = (bi || xSl x) := by rw [fi, han, Bool.or_assoc]
  have hlj : (li ++ eSl x).length ≤ 1099511627776 := by rw [← ej]; simp only [List.length_append] at hl ⊢; omega
  have hw := elSl_w li bi x hxf hlj
  rw [← ei, ← fi]
  obtain ⟨lj, el⟩ : ∃ lj, lj = li ++ eSl x := ⟨_, rfl⟩
  obtain ⟨bj, fl⟩ : ∃ bj, bj = (bi || xSl x) := ⟨_, rfl⟩
  rw [← el, ← fl] at hw
  rw [← el] at ej
  rw [← fl] at fj
  have g2 : lj.length ≤ 1099511627776 := by rw [el]; exact hlj
  have g1 : li.length ≤ lj.length := by rw [el, List.length_append]; omega
  clear el fl ei fi
  have hcell : cSl x = [.int .i64 x.1, .int .i64 x.2.1, .int .i64 x.2.2] := rfl
  rw [hcell] at hw
  repeat' ((first | apply Run_seq | apply Run_skip | apply Run_block | apply Run_blk | refine Run_exit rfl ?_ | apply Run_ret | apply Run_nil | apply Run_condK | apply Run_ops mixed | apply Run_opsX mixed | (with_reducible first | refine PostG_open ?_ | refine ro_callA' (f := .t 39) ?_ | refine ro_callV ?_ | refine CallE_use (hw) (by simp) ?_) | simp (disch := omega) only [w64] | ((first | refine GuardK_split ?_ ?_ | refine CondK_split ?_ ?_) <;> intro hc <;> (try simp only [hc]) <;> try simp at hc) | (with_reducible refine ⟨?_, ?_⟩; (focus ((repeat' with_reducible refine ⟨?_, ?_⟩) <;> first | exact trivial | assumption | (simp; done) | (simp only [List.length_map] at *; omega) | omega | (simp [fs]; done) | exact r8_sz))) | (with_reducible intro x hx) | omega) <;> (try simp only [row3_len, hR, c1, hr, Nat.reduceBEq, reduceIte, Nat.reduceEqDiff, Nat.reduceAdd, Nat.reduceSub, Nat.reduceLT, reduceCtorEq, ne_eq, fw, fd]))
  refine hk ⟨i + 1, by omega⟩ _ _ (by dsimp only; omega) ?_
  dsimp only
  rw [ej, fj]
  refine Ent_gc [0, 1, 2, 3, 4] (by rfl) (by simp) (by simp [fg]) (by simp [fg])
  skip
 ·have c1 : ((i : Int) < (xs.length : Int)) = False := by simp; omega
  obtain rfl : i = xs.length := by omega
  rw [List.take_length]
  repeat' ((first | apply Run_seq | apply Run_skip | apply Run_block | apply Run_blk | refine Run_exit rfl ?_ | apply Run_ret | apply Run_nil | apply Run_condK | apply Run_ops mixed | apply Run_opsX mixed | (with_reducible first | refine PostG_open ?_ | refine ro_callV ?_) | simp (disch := omega) only [w64, wu64, wu32, wu16, wu8, Int.tdiv_eq_ediv_of_nonneg, Int.tmod_eq_emod_of_nonneg] | ((first | refine GuardK_split ?_ ?_ | refine CondK_split ?_ ?_) <;> intro hc <;> (try simp only [hc]) <;> try simp at hc) | (with_reducible refine ⟨?_, ?_⟩; (focus ((repeat' with_reducible refine ⟨?_, ?_⟩) <;> first | exact trivial | assumption | (simp; done) | (simp only [List.length_map] at *; omega) | omega | (simp [fs]; done) | exact r8_sz))) | (with_reducible intro x hx) | omega) <;> (try simp only [c1, Nat.reduceBEq, reduceIte, binD, binInt, ofRes, fw]))
  refine GcTo_own [0, 1, 2, 3, 4] (by rfl) (by simp) (by simp [fg])
  skip
end Go.Proofs.YtgefljdclekadaaGreat
