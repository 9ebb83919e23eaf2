import Derived.Test.YtgefljdclekadaaGreatWR4
import Derived.Test.YtgefljdclekadaaGreatVi25
import Derived.Test.YtgefljdclekadaaGreatVi31
set_option linter.unusedVariables false
set_option linter.unusedSimpArgs false
set_option linter.unnecessarySimpa false
namespace Go.Proofs.YtgefljdclekadaaGreat
open Go Go.Vi



def fZo (b : Int) (ts : List (Int × Int)) : Prop := Fit b ∧ ((ts.length ≤ 140737488351232 ∧ ∀ x ∈ ts, fTu x))
def eHs (ss : List (Int × Int × Int)) : List UInt8 := eRow eSh ss
def xHs (most : Nat) (ss : List (Int × Int × Int)) : Bool := xRow xSh most ss
def fHs (ss : List (Int × Int × Int)) : Prop := (ss.length ≤ 140737488351232 ∧ ∀ x ∈ ss, fSh x)
set_option maxHeartbeats 2000000 in
theorem cHs_w (l : List UInt8) (bad : Bool) (sz : Nat) (R : List D) (j : Nat) (most : Nat) (ss : List (Int × Int × Int))  (hR0 : R[j]? = some (L (row3 ss))) (hm : most < 1000000) (hf : fHs ss) (hl : (l ++ eHs ss).length ≤ 1099511627776) :
  CallG Tryz.prog 119 [.ptr 0 0 0 1, .ptr 3 0 j 1, .int .i64 most] [Cw 1 bad, Ww 2 l.length, acc true 1 true (r8 l), Va sz R] (.tup [])
   [Cw 1 (bad || xHs most ss), Ww 2 (l ++ eHs ss).length, acc true 1 true (r8 (l ++ eHs ss)), Va sz R] := by
 refine callG Tryz.func119 low119 (by simp [c119]) ?_
 simp only [c119]
 unfold fHs at hf
 obtain ⟨l1, e1⟩ : ∃ l1, l1 = l ++ eRow eSh ss := ⟨_, rfl⟩
 obtain ⟨b1, d1⟩ : ∃ b1, b1 = (bad || xRow xSh most ss) := ⟨_, rfl⟩
 have el : l ++ eHs ss = l1 := by rw [e1]; simp only [eHs]
 have eb : (bad || xHs most ss) = b1 := by rw [d1]; simp only [xHs]
 rw [el] at hl
 rw [el, eb]
 have g0 : l.length ≤ l1.length := by rw [e1, List.length_append]; omega
 have h1 := rowSh_w l bad sz R j most ss hR0 (by omega) hf.1 hf.2 (by rw [← e1]; omega)
 rw [← e1, ← d1] at h1
 clear e1 d1 el eb
 repeat' ((first | apply Run_seq | apply Run_ret | apply Run_nil | apply Run_ops mixed | (with_reducible first | refine PostG_open ?_ | refine ro_callE (f := .c (.fn 139 [])) (z := []) (q := [0, 1, 2, 3, 4]) ?_ | refine ro_callE' (f := .c (.fn 139 [])) (z := []) (q := [0, 1, 2, 3, 4]) ?_ | refine ro_callV ?_ | refine CallE_use (h1) (by simp) ?_) | (with_reducible refine ⟨?_, ?_⟩; (focus ((repeat' with_reducible refine ⟨?_, ?_⟩) <;> first | exact trivial | assumption | (simp; done) | (simp only [List.length_map] at *; omega) | omega | (simp [fs]; done) | exact r8_sz))) | (with_reducible intro x hx) | omega) <;> (try simp only [Nat.reduceBEq, reduceIte, Nat.reduceAdd, Nat.reduceSub, Nat.reduceLT, reduceCtorEq, ne_eq, fw, fd]))
 refine GcTo_own [0, 1, 2, 3] (by rfl) (by simp) (by simp [fg])
def fSe (s : Se) : Prop := fZo s.base s.turns ∧ (fHs s.shifts ∧ ((s.off.length ≤ 140737488351232 ∧ ∀ x ∈ s.off, fOf x) ∧ (Fit s.before ∧ (Fit s.after))))
def fSs (xs : List Int) : Prop := (xs.length ≤ 140737488351232 ∧ ∀ x ∈ xs, fSm x)
def fRu (r : Ru) : Prop := Fit r.freq ∧ (Fit r.interval ∧ (Fit r.count ∧ (Fit r.til ∧ (fSs r.bm ∧ (fSs r.bmd ∧ ((r.bd.length ≤ 140737488351232 ∧ ∀ x ∈ r.bd, fDa x) ∧ (fSs r.bsp ∧ (Fit r.start))))))))
def fE0 (e : Ev) : Prop := Fit e.start ∧ (Fit e.long ∧ (True ∧ (True)))
def fE1 (e : Ev) : Prop := Fit e.start ∧ (Fit e.long ∧ (True ∧ (fRu e.rule ∧ ((e.ex.length ≤ 140737488351232 ∧ ∀ x ∈ e.ex, fEx x) ∧ ((e.plus.length ≤ 140737488351232 ∧ ∀ x ∈ e.plus, fPl x) ∧ ((e.ch.length ≤ 140737488351232 ∧ ∀ x ∈ e.ch, fCh x)))))))
def fEv (e : Ev) : Prop := fE0 e ∧ fE1 e
def eQu (q : Qu) : List UInt8 := num (zz q.a) ++ (num (zz q.b) ++ (num (uI q.long) ++ (num (uI q.grid) ++ (eRow eMu q.must ++ (eRow eWa q.may ++ (num (uI q.seats) ++ (eRow ePa q.apart ++ (eHs q.prefer))))))))
def xQu (q : Qu) : Bool := decide (10080 < uI q.long) || (decide (1440 < uI q.grid) || (xRow xMu 64 q.must || (xRow xWa 16 q.may || (decide (100 < uI q.seats) || (xRow xPa 32 q.apart || (xHs 8 q.prefer))))))
def fQu (q : Qu) : Prop := Fit q.a ∧ (Fit q.b ∧ (Fit q.long ∧ (Fit q.grid ∧ ((q.must.length ≤ 140737488351232 ∧ ∀ x ∈ q.must, fMu x) ∧ ((q.may.length ≤ 140737488351232 ∧ ∀ x ∈ q.may, fWa x) ∧ (Fit q.seats ∧ ((q.apart.length ≤ 140737488351232 ∧ ∀ x ∈ q.apart, fPa x) ∧ (fHs q.prefer))))))))
set_option maxHeartbeats 2000000 in
theorem cQu_w (l : List UInt8) (bad : Bool) (sz : Nat) (R : List D) (j : Nat) (q : Qu)  (hR0 : R[j]? = some (.int .i64 q.a)) (hR1 : R[j + 1]? = some (.int .i64 q.b)) (hR2 : R[j + 2]? = some (.int .i64 q.long)) (hR3 : R[j + 3]? = some (.int .i64 q.grid)) (hR4 : R[j + 4]? = some (L (row1 .u32 q.must))) (hR5 : R[j + 5]? = some (L (row2 .u32 .i64 q.may))) (hR6 : R[j + 6]? = some (.int .i64 q.seats)) (hR7 : R[j + 7]? = some (L (row2 .u32 .u32 q.apart))) (hR8 : R[j + 8]? = some (L (row3 q.prefer))) (hf : fQu q) (hl : (l ++ eQu q).length ≤ 1099511627776) :
  CallG Tryz.prog 95 [.ptr 0 0 0 1, .ptr 3 0 j 1] [Cw 1 bad, Ww 2 l.length, acc true 1 true (r8 l), Va sz R] (.tup [])
   [Cw 1 (bad || xQu q), Ww 2 (l ++ eQu q).length, acc true 1 true (r8 (l ++ eQu q)), Va sz R] := by
 refine callG Tryz.func95 low95 (by simp [c95]) ?_
 simp only [c95]
 unfold fQu at hf
 obtain ⟨l1, e1⟩ : ∃ l1, l1 = l ++ num (zz q.a) := ⟨_, rfl⟩
 obtain ⟨l2, e2⟩ : ∃ l2, l2 = l1 ++ num (zz q.b) := ⟨_, rfl⟩
 obtain ⟨l3, e3⟩ : ∃ l3, l3 = l2 ++ num (uI q.long) := ⟨_, rfl⟩
 obtain ⟨b3, d3⟩ : ∃ b3, b3 = (bad || decide (10080 < uI q.long)) := ⟨_, rfl⟩
 obtain ⟨l4, e4⟩ : ∃ l4, l4 = l3 ++ num (uI q.grid) := ⟨_, rfl⟩
 obtain ⟨b4, d4⟩ : ∃ b4, b4 = (b3 || decide (1440 < uI q.grid)) := ⟨_, rfl⟩
 obtain ⟨l5, e5⟩ : ∃ l5, l5 = l4 ++ eRow eMu q.must := ⟨_, rfl⟩
 obtain ⟨b5, d5⟩ : ∃ b5, b5 = (b4 || xRow xMu 64 q.must) := ⟨_, rfl⟩
 obtain ⟨l6, e6⟩ : ∃ l6, l6 = l5 ++ eRow eWa q.may := ⟨_, rfl⟩
 obtain ⟨b6, d6⟩ : ∃ b6, b6 = (b5 || xRow xWa 16 q.may) := ⟨_, rfl⟩
 obtain ⟨l7, e7⟩ : ∃ l7, l7 = l6 ++ num (uI q.seats) := ⟨_, rfl⟩
 obtain ⟨b7, d7⟩ : ∃ b7, b7 = (b6 || decide (100 < uI q.seats)) := ⟨_, rfl⟩
 obtain ⟨l8, e8⟩ : ∃ l8, l8 = l7 ++ eRow ePa q.apart := ⟨_, rfl⟩
 obtain ⟨b8, d8⟩ : ∃ b8, b8 = (b7 || xRow xPa 32 q.apart) := ⟨_, rfl⟩
 obtain ⟨l9, e9⟩ : ∃ l9, l9 = l8 ++ eHs q.prefer := ⟨_, rfl⟩
 obtain ⟨b9, d9⟩ : ∃ b9, b9 = (b8 || xHs 8 q.prefer) := ⟨_, rfl⟩
 have el : l ++ eQu q = l9 := by rw [e9, e8, e7, e6, e5, e4, e3, e2, e1]; simp only [eQu, List.append_assoc]
 have eb : (bad || xQu q) = b9 := by rw [d9, d8, d7, d6, d5, d4, d3]; simp only [xQu, Bool.or_assoc]
 rw [el] at hl
 rw [el, eb]
 have g8 : l8.length ≤ l9.length := by rw [e9, List.length_append]; omega
 have g7 : l7.length ≤ l8.length := by rw [e8, List.length_append]; omega
 have g6 : l6.length ≤ l7.length := by rw [e7, List.length_append]; omega
 have g5 : l5.length ≤ l6.length := by rw [e6, List.length_append]; omega
 have g4 : l4.length ≤ l5.length := by rw [e5, List.length_append]; omega
 have g3 : l3.length ≤ l4.length := by rw [e4, List.length_append]; omega
 have g2 : l2.length ≤ l3.length := by rw [e3, List.length_append]; omega
 have g1 : l1.length ≤ l2.length := by rw [e2, List.length_append]; omega
 have g0 : l.length ≤ l1.length := by rw [e1, List.length_append]; omega
 have h1 := minutes_w l bad sz R j q.a hR0 hf.1 (by omega)
 rw [← e1] at h1
 have h2 := minutes_w l1 bad sz R (j + 1) q.b hR1 hf.2.1 (by omega)
 rw [← e2] at h2
 have h3 := numI_w l2 bad sz R (j + 2) 10080 q.long hR2 hf.2.2.1 (by omega) (by omega)
 rw [← e3, ← d3] at h3
 have h4 := numI_w l3 b3 sz R (j + 3) 1440 q.grid hR3 hf.2.2.2.1 (by omega) (by omega)
 rw [← e4, ← d4] at h4
 have h5 := rowMu_w l4 b4 sz R (j + 4) 64 q.must hR4 (by omega) hf.2.2.2.2.1.1 hf.2.2.2.2.1.2 (by rw [← e5]; omega)
 rw [← e5, ← d5] at h5
 have h6 := rowWa_w l5 b5 sz R (j + 5) 16 q.may hR5 (by omega) hf.2.2.2.2.2.1.1 hf.2.2.2.2.2.1.2 (by rw [← e6]; omega)
 rw [← e6, ← d6] at h6
 have h7 := numI_w l6 b6 sz R (j + 6) 100 q.seats hR6 hf.2.2.2.2.2.2.1 (by omega) (by omega)
 rw [← e7, ← d7] at h7
 have h8 := rowPa_w l7 b7 sz R (j + 7) 32 q.apart hR7 (by omega) hf.2.2.2.2.2.2.2.1.1 hf.2.2.2.2.2.2.2.1.2 (by rw [← e8]; omega)
 rw [← e8, ← d8] at h8
 have h9 := cHs_w l8 b8 sz R (j + 8) 8 q.prefer hR8 (by omega) hf.2.2.2.2.2.2.2.2 (by rw [← e9]; omega)
 rw [← e9, ← d9] at h9
 clear e1 e2 e3 e4 e5 e6 e7 e8 e9 d3 d4 d5 d6 d7 d8 d9 el eb
 repeat' ((first | apply Run_seq | apply Run_ret | apply Run_nil | apply Run_ops mixed | apply Run_opsX mixed | (with_reducible first | refine PostG_open ?_ | refine ro_callA (f := .c (.fn 56 [])) ?_ | refine ro_callA (f := .c (.fn 57 [])) ?_ | refine ro_callE (f := .c (.fn 127 [])) (z := []) (q := [0, 1, 2, 3, 4]) ?_ | refine ro_callE' (f := .c (.fn 127 [])) (z := []) (q := [0, 1, 2, 3, 4]) ?_ | refine ro_callE (f := .c (.fn 129 [])) (z := []) (q := [0, 1, 2, 3, 4]) ?_ | refine ro_callE' (f := .c (.fn 129 [])) (z := []) (q := [0, 1, 2, 3, 4]) ?_ | refine ro_callE (f := .c (.fn 131 [])) (z := []) (q := [0, 1, 2, 3, 4]) ?_ | refine ro_callE' (f := .c (.fn 131 [])) (z := []) (q := [0, 1, 2, 3, 4]) ?_ | refine ro_callA (f := .c (.fn 119 [])) ?_ | refine ro_callVX ?_ | refine CallE_use (h1) (by simp) ?_ | refine CallE_use (h2) (by simp) ?_ | refine CallE_use (h3) (by simp) ?_ | refine CallE_use (h4) (by simp) ?_ | refine CallE_use (h5) (by simp) ?_ | refine CallE_use (h6) (by simp) ?_ | refine CallE_use (h7) (by simp) ?_ | refine CallE_use (h8) (by simp) ?_ | refine CallE_use (h9) (by simp) ?_) | (with_reducible refine ⟨?_, ?_⟩; (focus ((repeat' with_reducible refine ⟨?_, ?_⟩) <;> first | exact trivial | assumption | (simp; done) | (simp only [List.length_map] at *; omega) | omega | (simp [fs]; done) | exact r8_sz))) | (with_reducible intro x hx) | omega) <;> (try simp only [Nat.reduceBEq, reduceIte, Nat.reduceEqDiff, Nat.reduceAdd, Nat.reduceSub, Nat.reduceLT, reduceCtorEq, ne_eq, fw, fd]))
 refine GcTo_own [0, 1, 2, 3] (by rfl) (by simp) (by simp [fg])
def ePo (p : Po) : List UInt8 := num (uI p.id) ++ (num (uI p.owner) ++ (eQu p.qu ++ (eRow eTs p.slots ++ (eRow eVo p.votes ++ (num (zz p.til) ++ (num (uI p.state) ++ (num (uI p.winner))))))))
def xPo (p : Po) : Bool := xQu p.qu || (xRow xTs 40 p.slots || (xRow xVo 4096 p.votes || (decide (4 < uI p.state) || (decide (40 < uI p.winner)))))
def fPo (p : Po) : Prop := (0 ≤ p.id ∧ p.id ≤ 4294967295) ∧ ((0 ≤ p.owner ∧ p.owner ≤ 4294967295) ∧ (fQu p.qu ∧ ((p.slots.length ≤ 140737488351232 ∧ ∀ x ∈ p.slots, fTs x) ∧ ((p.votes.length ≤ 140737488351232 ∧ ∀ x ∈ p.votes, fVo x) ∧ (Fit p.til ∧ (Fit p.state ∧ (Fit p.winner)))))))
set_option maxHeartbeats 2000000 in
theorem cPo_w (l : List UInt8) (bad : Bool) (sz : Nat) (R : List D) (j : Nat) (p : Po)  (hR0 : R[j]? = some (.int .u32 p.id)) (hR1 : R[j + 1]? = some (.int .u32 p.owner)) (hR2 : R[j + 2]? = some (.int .i64 p.qu.a)) (hR3 : R[j + 3]? = some (.int .i64 p.qu.b)) (hR4 : R[j + 4]? = some (.int .i64 p.qu.long)) (hR5 : R[j + 5]? = some (.int .i64 p.qu.grid)) (hR6 : R[j + 6]? = some (L (row1 .u32 p.qu.must))) (hR7 : R[j + 7]? = some (L (row2 .u32 .i64 p.qu.may))) (hR8 : R[j + 8]? = some (.int .i64 p.qu.seats)) (hR9 : R[j + 9]? = some (L (row2 .u32 .u32 p.qu.apart))) (hR10 : R[j + 10]? = some (L (row3 p.qu.prefer))) (hR11 : R[j + 11]? = some (L (row1 .i64 p.slots))) (hR12 : R[j + 12]? = some (L (row2 .u32 .i64 p.votes))) (hR13 : R[j + 13]? = some (.int .i64 p.til)) (hR14 : R[j + 14]? = some (.int .i64 p.state)) (hR15 : R[j + 15]? = some (.int .i64 p.winner)) (hf : fPo p) (hl : (l ++ ePo p).length ≤ 1099511627776) :
  CallG Tryz.prog 60 [.ptr 0 0 0 1, .ptr 3 0 j 1] [Cw 1 bad, Ww 2 l.length, acc true 1 true (r8 l), Va sz R] (.tup [])
   [Cw 1 (bad || xPo p), Ww 2 (l ++ ePo p).length, acc true 1 true (r8 (l ++ ePo p)), Va sz R] := by
 refine callG Tryz.func60 low60 (by simp [c60]) ?_
 simp only [c60]
 unfold fPo at hf
 obtain ⟨l1, e1⟩ : ∃ l1, l1 = l ++ num (uI p.id) := ⟨_, rfl⟩
 obtain ⟨l2, e2⟩ : ∃ l2, l2 = l1 ++ num (uI p.owner) := ⟨_, rfl⟩
 obtain ⟨l3, e3⟩ : ∃ l3, l3 = l2 ++ eQu p.qu := ⟨_, rfl⟩
 obtain ⟨b3, d3⟩ : ∃ b3, b3 = (bad || xQu p.qu) := ⟨_, rfl⟩
 obtain ⟨l4, e4⟩ : ∃ l4, l4 = l3 ++ eRow eTs p.slots := ⟨_, rfl⟩
 obtain ⟨b4, d4⟩ : ∃ b4, b4 = (b3 || xRow xTs 40 p.slots) := ⟨_, rfl⟩
 obtain ⟨l5, e5⟩ : ∃ l5, l5 = l4 ++ eRow eVo p.votes := ⟨_, rfl⟩
 obtain ⟨b5, d5⟩ : ∃ b5, b5 = (b4 || xRow xVo 4096 p.votes) := ⟨_, rfl⟩
 obtain ⟨l6, e6⟩ : ∃ l6, l6 = l5 ++ num (zz p.til) := ⟨_, rfl⟩
 obtain ⟨l7, e7⟩ : ∃ l7, l7 = l6 ++ num (uI p.state) := ⟨_, rfl⟩
 obtain ⟨b7, d7⟩ : ∃ b7, b7 = (b5 || decide (4 < uI p.state)) := ⟨_, rfl⟩
 obtain ⟨l8, e8⟩ : ∃ l8, l8 = l7 ++ num (uI p.winner) := ⟨_, rfl⟩
 obtain ⟨b8, d8⟩ : ∃ b8, b8 = (b7 || decide (40 < uI p.winner)) := ⟨_, rfl⟩
 have el : l ++ ePo p = l8 := by rw [e8, e7, e6, e5, e4, e3, e2, e1]; simp only [ePo, List.append_assoc]
 have eb : (bad || xPo p) = b8 := by rw [d8, d7, d5, d4, d3]; simp only [xPo, Bool.or_assoc]
 rw [el] at hl
 rw [el, eb]
 have g7 : l7.length ≤ l8.length := by rw [e8, List.length_append]; omega
 have g6 : l6.length ≤ l7.length := by rw [e7, List.length_append]; omega
 have g5 : l5.length ≤ l6.length := by rw [e6, List.length_append]; omega
 have g4 : l4.length ≤ l5.length := by rw [e5, List.length_append]; omega
 have g3 : l3.length ≤ l4.length := by rw [e4, List.length_append]; omega
 have g2 : l2.length ≤ l3.length := by rw [e3, List.length_append]; omega
 have g1 : l1.length ≤ l2.length := by rw [e2, List.length_append]; omega
 have g0 : l.length ≤ l1.length := by rw [e1, List.length_append]; omega
 have h1 := name_w l bad sz R j p.id hR0 hf.1 (by omega)
 rw [← e1] at h1
 have h2 := name_w l1 bad sz R (j + 1) p.owner hR1 hf.2.1 (by omega)
 rw [← e2] at h2
 have h3 := cQu_w l2 bad sz R (j + 2) p.qu hR2 hR3 hR4 hR5 hR6 hR7 hR8 hR9 hR10 hf.2.2.1 (by rw [← e3]; omega)
 rw [← e3, ← d3] at h3
 have h4 := rowTs_w l3 b3 sz R (j + 11) 40 p.slots hR11 (by omega) hf.2.2.2.1.1 hf.2.2.2.1.2 (by rw [← e4]; omega)
 rw [← e4, ← d4] at h4
 have h5 := rowVo_w l4 b4 sz R (j + 12) 4096 p.votes hR12 (by omega) hf.2.2.2.2.1.1 hf.2.2.2.2.1.2 (by rw [← e5]; omega)
 rw [← e5, ← d5] at h5
 have h6 := minutes_w l5 b5 sz R (j + 13) p.til hR13 hf.2.2.2.2.2.1 (by omega)
 rw [← e6] at h6
 have h7 := numI_w l6 b5 sz R (j + 14) 4 p.state hR14 hf.2.2.2.2.2.2.1 (by omega) (by omega)
 rw [← e7, ← d7] at h7
 have h8 := numI_w l7 b7 sz R (j + 15) 40 p.winner hR15 hf.2.2.2.2.2.2.2 (by omega) (by omega)
 rw [← e8, ← d8] at h8
 clear e1 e2 e3 e4 e5 e6 e7 e8 d3 d4 d5 d7 d8 el eb
 repeat' ((first | apply Run_seq | apply Run_ret | apply Run_nil | apply Run_ops mixed | apply Run_opsX mixed | (with_reducible first | refine PostG_open ?_ | refine ro_callA (f := .c (.fn 78 [])) ?_ | refine ro_callA (f := .c (.fn 95 [])) ?_ | refine ro_callE (f := .c (.fn 104 [])) (z := []) (q := [0, 1, 2, 3, 4]) ?_ | refine ro_callE' (f := .c (.fn 104 [])) (z := []) (q := [0, 1, 2, 3, 4]) ?_ | refine ro_callE (f := .c (.fn 106 [])) (z := []) (q := [0, 1, 2, 3, 4]) ?_ | refine ro_callE' (f := .c (.fn 106 [])) (z := []) (q := [0, 1, 2, 3, 4]) ?_ | refine ro_callA (f := .c (.fn 56 [])) ?_ | refine ro_callA (f := .c (.fn 57 [])) ?_ | refine ro_callVX ?_ | refine CallE_use (h1) (by simp) ?_ | refine CallE_use (h2) (by simp) ?_ | refine CallE_use (h3) (by simp) ?_ | refine CallE_use (h4) (by simp) ?_ | refine CallE_use (h5) (by simp) ?_ | refine CallE_use (h6) (by simp) ?_ | refine CallE_use (h7) (by simp) ?_ | refine CallE_use (h8) (by simp) ?_) | (with_reducible refine ⟨?_, ?_⟩; (focus ((repeat' with_reducible refine ⟨?_, ?_⟩) <;> first | exact trivial | assumption | (simp; done) | (simp only [List.length_map] at *; omega) | omega | (simp [fs]; done) | exact r8_sz))) | (with_reducible intro x hx) | omega) <;> (try simp only [Nat.reduceBEq, reduceIte, Nat.reduceEqDiff, Nat.reduceAdd, Nat.reduceSub, Nat.reduceLT, reduceCtorEq, ne_eq, fw, fd]))
 refine GcTo_own [0, 1, 2, 3] (by rfl) (by simp) (by simp [fg])
end Go.Proofs.YtgefljdclekadaaGreat

namespace Go.Proofs.YtgefljdclekadaaGreat
open Go Go.Vi

theorem rowGo_le {α : Type} {re : Rs → α × Rs} (h : ∀ s, (re s).2.l.length ≤ s.l.length) : ∀ (k : Nat) (s : Rs) (a : List α), (rowGo re k s a).2.l.length ≤ s.l.length
 | 0, s, a => Nat.le_refl _
 | k + 1, s, a => by
  unfold rowGo
  have h1 := h s
  split
  ·exact h1
  ·exact Nat.le_trans (rowGo_le h k _ _) h1
theorem rRow_le {α : Type} {re : Rs → α × Rs} (h : ∀ s, (re s).2.l.length ≤ s.l.length) (most : Nat) (hm : most < 18446744073709551616) (s : Rs) : (rRow re most s).2.l.length ≤ s.l.length :=
 Nat.le_trans (rowGo_le h _ _ _) (rqN_le most hm s).1
def setL (R : List D) (j : Nat) : List D → List D
 | [] => R
 | d :: ds => setL (R.set j d) (j + 1) ds
theorem setL_len : ∀ (ds : List D) (R : List D) (j : Nat), (setL R j ds).length = R.length
 | [], _, _ => rfl
 | d :: ds, R, j => by rw [setL, setL_len ds, List.length_set]
theorem setL_far : ∀ (ds : List D) (R : List D) (j x : Nat), j + ds.length ≤ x → (setL R j ds)[x]? = R[x]?
 | [], _, _, _, _ => rfl
 | d :: ds, R, j, x, h => by
  simp only [List.length_cons] at h
  rw [setL, setL_far ds _ _ x (by omega), List.getElem?_set_ne (by omega)]



def rHs (most : Nat) (s : Rs) : (List (Int × Int × Int)) × Rs :=
 match rRow rSh most s with
 | (v1, s1) =>
  (v1, s1)
theorem rHs_le (most : Nat) (hm : most < 1000000) (s : Rs) : (rHs most s).2.l.length ≤ s.l.length := by
 unfold rHs
 have g1 := rRow_le rSh_le most (by omega) s
 generalize rRow rSh most s = q1 at g1 ⊢
 obtain ⟨v1, s1⟩ := q1
 dsimp only at g1 ⊢
 omega
set_option maxHeartbeats 4000000 in
theorem cHs_r (s : Rs) (sz : Nat) (R : List D) (j : Nat) (most : Nat) (hN0 : R[j]? = some (.list (some true) true [])) (hz : R.length = sz) (hj : j + 1 ≤ sz) (hm : most < 1000000) (hl : s.l.length ≤ 1099511627776) :
  CallG Tryz.prog 119 [.ptr 0 0 0 1, .ptr 2 0 j 1, .int .i64 most] [Cr 1 s.cb, Rd s.l s.rb, Va sz R] (.tup [])
   [Cr 1 (rHs most s).2.cb, Rd (rHs most s).2.l (rHs most s).2.rb, Va sz (setL R j [L (row3 (rHs most s).1)])] := by
 refine callG Tryz.func119 low119 (by simp [c119]) ?_
 simp only [c119]
 unfold rHs
 have z0 := hz
 have k0 : ∀ x, j + 0 ≤ x → R[x]? = R[x]? := fun _ _ => rfl
 have g1 := rRow_le rSh_le most (by omega) s
 have h1 : CallG Tryz.prog 139 [.ptr 0 0 0 1, .ptr 2 0 j 1, .int .i64 most, .fn 140 [.ptr 3 0 0 1]] [Cr 1 s.cb, Rd s.l s.rb, Va sz R, Bx 0] (.tup []) [Cr 1 (rRow rSh most s).2.cb, Rd (rRow rSh most s).2.l (rRow rSh most s).2.rb, Va sz (R.set j (L (row3 (rRow rSh most s).1))), Bx 0] := rowSh_r s sz R j most (by rw [k0 _ (by omega)]; exact hN0) (by omega) (by omega) (by omega)
 generalize rRow rSh most s = q1 at h1 g1 ⊢
 obtain ⟨v1, s1⟩ := q1
 dsimp only at h1 g1 ⊢
 obtain ⟨R1, e1⟩ : ∃ R1, R1 = R.set j (L (row3 v1)) := ⟨_, rfl⟩
 rw [← e1] at h1
 have z1 : R1.length = sz := by rw [e1, List.length_set]; exact z0
 have k1 : ∀ x, j + 1 ≤ x → R1[x]? = R[x]? := fun x hx => by rw [e1, List.getElem?_set_ne (by omega)] <;> exact k0 x (by omega)
 have eR : setL R j [L (row3 v1)] = R1 := by rw [e1] <;> rfl
 rw [eR]
 clear eR e1 k0 k1 z1
 repeat' ((first | apply Run_seq | apply Run_ret | apply Run_nil | apply Run_ops mixed | (with_reducible first | refine PostG_open ?_ | refine ro_callE (f := .c (.fn 139 [])) (z := []) (q := [0, 1, 2, 3]) ?_ | refine ro_callE' (f := .c (.fn 139 [])) (z := []) (q := [0, 1, 2, 3]) ?_ | refine ro_callV ?_ | refine CallE_use (h1) (by simp) ?_) | (with_reducible refine ⟨?_, ?_⟩; (focus ((repeat' with_reducible refine ⟨?_, ?_⟩) <;> first | exact trivial | assumption | (simp; done) | (simp only [List.length_map] at *; omega) | omega | (simp [fs]; done) | exact r8_sz))) | (with_reducible intro x hx) | omega) <;> (try simp only [Nat.reduceBEq, reduceIte, Nat.reduceAdd, Nat.reduceSub, Nat.reduceLT, reduceCtorEq, ne_eq, fw, fd]))
 refine GcTo_own [0, 1, 2] (by rfl) (by simp) (by simp [fg])
def rQu (s : Rs) : (Qu) × Rs :=
 match rqM s with
 | (v1, s1) =>
 match rqM s1 with
 | (v2, s2) =>
 match rqN 10080 s2 with
 | (v3, s3) =>
 match rqN 1440 s3 with
 | (v4, s4) =>
 match rRow rMu 64 s4 with
 | (v5, s5) =>
 match rRow rWa 16 s5 with
 | (v6, s6) =>
 match rqN 100 s6 with
 | (v7, s7) =>
 match rRow rPa 32 s7 with
 | (v8, s8) =>
 match rHs 8 s8 with
 | (v9, s9) =>
  (⟨v1, v2, v3, v4, v5, v6, v7, v8, v9⟩, s9)
theorem rQu_le (s : Rs) : (rQu s).2.l.length ≤ s.l.length := by
 unfold rQu
 have g1 := rqM_le s
 generalize rqM s = q1 at g1 ⊢
 obtain ⟨v1, s1⟩ := q1
 dsimp only at g1 ⊢
 have g2 := rqM_le s1
 generalize rqM s1 = q2 at g2 ⊢
 obtain ⟨v2, s2⟩ := q2
 dsimp only at g2 ⊢
 have g3 := (rqN_le 10080 (by omega) s2).1
 generalize rqN 10080 s2 = q3 at g3 ⊢
 obtain ⟨v3, s3⟩ := q3
 dsimp only at g3 ⊢
 have g4 := (rqN_le 1440 (by omega) s3).1
 generalize rqN 1440 s3 = q4 at g4 ⊢
 obtain ⟨v4, s4⟩ := q4
 dsimp only at g4 ⊢
 have g5 := rRow_le rMu_le 64 (by omega) s4
 generalize rRow rMu 64 s4 = q5 at g5 ⊢
 obtain ⟨v5, s5⟩ := q5
 dsimp only at g5 ⊢
 have g6 := rRow_le rWa_le 16 (by omega) s5
 generalize rRow rWa 16 s5 = q6 at g6 ⊢
 obtain ⟨v6, s6⟩ := q6
 dsimp only at g6 ⊢
 have g7 := (rqN_le 100 (by omega) s6).1
 generalize rqN 100 s6 = q7 at g7 ⊢
 obtain ⟨v7, s7⟩ := q7
 dsimp only at g7 ⊢
 have g8 := rRow_le rPa_le 32 (by omega) s7
 generalize rRow rPa 32 s7 = q8 at g8 ⊢
 obtain ⟨v8, s8⟩ := q8
 dsimp only at g8 ⊢
 have g9 := rHs_le 8 (by omega) s8
 generalize rHs 8 s8 = q9 at g9 ⊢
 obtain ⟨v9, s9⟩ := q9
 dsimp only at g9 ⊢
 omega
set_option maxHeartbeats 4000000 in
theorem cQu_r (s : Rs) (sz : Nat) (R : List D) (j : Nat) (hN4 : R[j + 4]? = some (.list (some true) true [])) (hN5 : R[j + 5]? = some (.list (some true) true [])) (hN7 : R[j + 7]? = some (.list (some true) true [])) (hN8 : R[j + 8]? = some (.list (some true) true [])) (hz : R.length = sz) (hj : j + 9 ≤ sz) (hl : s.l.length ≤ 1099511627776) :
  CallG Tryz.prog 95 [.ptr 0 0 0 1, .ptr 2 0 j 1] [Cr 1 s.cb, Rd s.l s.rb, Va sz R] (.tup [])
   [Cr 1 (rQu s).2.cb, Rd (rQu s).2.l (rQu s).2.rb, Va sz (setL R j [.int .i64 (rQu s).1.a, .int .i64 (rQu s).1.b, .int .i64 (rQu s).1.long, .int .i64 (rQu s).1.grid, L (row1 .u32 (rQu s).1.must), L (row2 .u32 .i64 (rQu s).1.may), .int .i64 (rQu s).1.seats, L (row2 .u32 .u32 (rQu s).1.apart), L (row3 (rQu s).1.prefer)])] := by
 refine callG Tryz.func95 low95 (by simp [c95]) ?_
 simp only [c95]
 unfold rQu
 have z0 := hz
 have k0 : ∀ x, j + 0 ≤ x → R[x]? = R[x]? := fun _ _ => rfl
 have g1 := rqM_le s
 have h1 : CallG Tryz.prog 56 [.ptr 0 0 0 1, .ptr 2 0 j 1] [Cr 1 s.cb, Rd s.l s.rb, Va sz R] (.tup []) [Cr 1 (rqM s).2.cb, Rd (rqM s).2.l (rqM s).2.rb, Va sz (R.set j (.int .i64 ((rqM s).1 : Int)))] := minutes_r s.l s.rb s.cb sz R j (by omega) (by omega) (by omega)
 generalize rqM s = q1 at h1 g1 ⊢
 obtain ⟨v1, s1⟩ := q1
 dsimp only at h1 g1 ⊢
 obtain ⟨R1, e1⟩ : ∃ R1, R1 = R.set j (.int .i64 (v1 : Int)) := ⟨_, rfl⟩
 rw [← e1] at h1
 have z1 : R1.length = sz := by rw [e1, List.length_set]; exact z0
 have k1 : ∀ x, j + 1 ≤ x → R1[x]? = R[x]? := fun x hx => by rw [e1, List.getElem?_set_ne (by omega)] <;> exact k0 x (by omega)
 have g2 := rqM_le s1
 have h2 : CallG Tryz.prog 56 [.ptr 0 0 0 1, .ptr 2 0 (j + 1) 1] [Cr 1 s1.cb, Rd s1.l s1.rb, Va sz R1] (.tup []) [Cr 1 (rqM s1).2.cb, Rd (rqM s1).2.l (rqM s1).2.rb, Va sz (R1.set (j + 1) (.int .i64 ((rqM s1).1 : Int)))] := minutes_r s1.l s1.rb s1.cb sz R1 (j + 1) (by omega) (by omega) (by omega)
 generalize rqM s1 = q2 at h2 g2 ⊢
 obtain ⟨v2, s2⟩ := q2
 dsimp only at h2 g2 ⊢
 obtain ⟨R2, e2⟩ : ∃ R2, R2 = R1.set (j + 1) (.int .i64 (v2 : Int)) := ⟨_, rfl⟩
 rw [← e2] at h2
 have z2 : R2.length = sz := by rw [e2, List.length_set]; exact z1
 have k2 : ∀ x, j + 2 ≤ x → R2[x]? = R[x]? := fun x hx => by rw [e2, List.getElem?_set_ne (by omega)] <;> exact k1 x (by omega)
 have g3 := (rqN_le 10080 (by omega) s2).1
 have h3 : CallG Tryz.prog 57 [.ptr 0 0 0 1, .ptr 2 0 (j + 2) 1, .int .u64 10080] [Cr 1 s2.cb, Rd s2.l s2.rb, Va sz R2] (.tup []) [Cr 1 (rqN 10080 s2).2.cb, Rd (rqN 10080 s2).2.l (rqN 10080 s2).2.rb, Va sz (R2.set (j + 2) (.int .i64 (((rqN 10080 s2).1 : Nat) : Int)))] := numI_r s2.l s2.rb s2.cb sz R2 (j + 2) 10080 (by omega) (by omega) (by omega) (by omega)
 generalize rqN 10080 s2 = q3 at h3 g3 ⊢
 obtain ⟨v3, s3⟩ := q3
 dsimp only at h3 g3 ⊢
 obtain ⟨R3, e3⟩ : ∃ R3, R3 = R2.set (j + 2) (.int .i64 ((v3 : Nat) : Int)) := ⟨_, rfl⟩
 rw [← e3] at h3
 have z3 : R3.length = sz := by rw [e3, List.length_set]; exact z2
 have k3 : ∀ x, j + 3 ≤ x → R3[x]? = R[x]? := fun x hx => by rw [e3, List.getElem?_set_ne (by omega)] <;> exact k2 x (by omega)
 have g4 := (rqN_le 1440 (by omega) s3).1
 have h4 : CallG Tryz.prog 57 [.ptr 0 0 0 1, .ptr 2 0 (j + 3) 1, .int .u64 1440] [Cr 1 s3.cb, Rd s3.l s3.rb, Va sz R3] (.tup []) [Cr 1 (rqN 1440 s3).2.cb, Rd (rqN 1440 s3).2.l (rqN 1440 s3).2.rb, Va sz (R3.set (j + 3) (.int .i64 (((rqN 1440 s3).1 : Nat) : Int)))] := numI_r s3.l s3.rb s3.cb sz R3 (j + 3) 1440 (by omega) (by omega) (by omega) (by omega)
 generalize rqN 1440 s3 = q4 at h4 g4 ⊢
 obtain ⟨v4, s4⟩ := q4
 dsimp only at h4 g4 ⊢
 obtain ⟨R4, e4⟩ : ∃ R4, R4 = R3.set (j + 3) (.int .i64 ((v4 : Nat) : Int)) := ⟨_, rfl⟩
 rw [← e4] at h4
 have z4 : R4.length = sz := by rw [e4, List.length_set]; exact z3
 have k4 : ∀ x, j + 4 ≤ x → R4[x]? = R[x]? := fun x hx => by rw [e4, List.getElem?_set_ne (by omega)] <;> exact k3 x (by omega)
 have g5 := rRow_le rMu_le 64 (by omega) s4
 have h5 : CallG Tryz.prog 127 [.ptr 0 0 0 1, .ptr 2 0 (j + 4) 1, .int .i64 64, .fn 128 [.ptr 3 0 0 1]] [Cr 1 s4.cb, Rd s4.l s4.rb, Va sz R4, Bx 0] (.tup []) [Cr 1 (rRow rMu 64 s4).2.cb, Rd (rRow rMu 64 s4).2.l (rRow rMu 64 s4).2.rb, Va sz (R4.set (j + 4) (L (row1 .u32 (rRow rMu 64 s4).1))), Bx 0] := rowMu_r s4 sz R4 (j + 4) 64 (by rw [k4 _ (by omega)]; exact hN4) (by omega) (by omega) (by omega)
 generalize rRow rMu 64 s4 = q5 at h5 g5 ⊢
 obtain ⟨v5, s5⟩ := q5
 dsimp only at h5 g5 ⊢
 obtain ⟨R5, e5⟩ : ∃ R5, R5 = R4.set (j + 4) (L (row1 .u32 v5)) := ⟨_, rfl⟩
 rw [← e5] at h5
 have z5 : R5.length = sz := by rw [e5, List.length_set]; exact z4
 have k5 : ∀ x, j + 5 ≤ x → R5[x]? = R[x]? := fun x hx => by rw [e5, List.getElem?_set_ne (by omega)] <;> exact k4 x (by omega)
 have g6 := rRow_le rWa_le 16 (by omega) s5
 have h6 : CallG Tryz.prog 129 [.ptr 0 0 0 1, .ptr 2 0 (j + 5) 1, .int .i64 16, .fn 130 [.ptr 3 0 0 1]] [Cr 1 s5.cb, Rd s5.l s5.rb, Va sz R5, Bx 0] (.tup []) [Cr 1 (rRow rWa 16 s5).2.cb, Rd (rRow rWa 16 s5).2.l (rRow rWa 16 s5).2.rb, Va sz (R5.set (j + 5) (L (row2 .u32 .i64 (rRow rWa 16 s5).1))), Bx 0] := rowWa_r s5 sz R5 (j + 5) 16 (by rw [k5 _ (by omega)]; exact hN5) (by omega) (by omega) (by omega)
 generalize rRow rWa 16 s5 = q6 at h6 g6 ⊢
 obtain ⟨v6, s6⟩ := q6
 dsimp only at h6 g6 ⊢
 obtain ⟨R6, e6⟩ : ∃ R6, R6 = R5.set (j + 5) (L (row2 .u32 .i64 v6)) := ⟨_, rfl⟩
 rw [← e6] at h6
 have z6 : R6.length = sz := by rw [e6, List.length_set]; exact z5
 have k6 : ∀ x, j + 6 ≤ x → R6[x]? = R[x]? := fun x hx => by rw [e6, List.getElem?_set_ne (by omega)] <;> exact k5 x (by omega)
 have g7 := (rqN_le 100 (by omega) s6).1
 have h7 : CallG Tryz.prog 57 [.ptr 0 0 0 1, .ptr 2 0 (j + 6) 1, .int .u64 100] [Cr 1 s6.cb, Rd s6.l s6.rb, Va sz R6] (.tup []) [Cr 1 (rqN 100 s6).2.cb, Rd (rqN 100 s6).2.l (rqN 100 s6).2.rb, Va sz (R6.set (j + 6) (.int .i64 (((rqN 100 s6).1 : Nat) : Int)))] := numI_r s6.l s6.rb s6.cb sz R6 (j + 6) 100 (by omega) (by omega) (by omega) (by omega)
 generalize rqN 100 s6 = q7 at h7 g7 ⊢
 obtain ⟨v7, s7⟩ := q7
 dsimp only at h7 g7 ⊢
 obtain ⟨R7, e7⟩ : ∃ R7, R7 = R6.set (j + 6) (.int .i64 ((v7 : Nat) : Int)) := ⟨_, rfl⟩
 rw [← e7] at h7
 have z7 : R7.length = sz := by rw [e7, List.length_set]; exact z6
 have k7 : ∀ x, j + 7 ≤ x → R7[x]? = R[x]? := fun x hx => by rw [e7, List.getElem?_set_ne (by omega)] <;> exact k6 x (by omega)
 have g8 := rRow_le rPa_le 32 (by omega) s7
 have h8 : CallG Tryz.prog 131 [.ptr 0 0 0 1, .ptr 2 0 (j + 7) 1, .int .i64 32, .fn 132 [.ptr 3 0 0 1]] [Cr 1 s7.cb, Rd s7.l s7.rb, Va sz R7, Bx 0] (.tup []) [Cr 1 (rRow rPa 32 s7).2.cb, Rd (rRow rPa 32 s7).2.l (rRow rPa 32 s7).2.rb, Va sz (R7.set (j + 7) (L (row2 .u32 .u32 (rRow rPa 32 s7).1))), Bx 0] := rowPa_r s7 sz R7 (j + 7) 32 (by rw [k7 _ (by omega)]; exact hN7) (by omega) (by omega) (by omega)
 generalize rRow rPa 32 s7 = q8 at h8 g8 ⊢
 obtain ⟨v8, s8⟩ := q8
 dsimp only at h8 g8 ⊢
 obtain ⟨R8, e8⟩ : ∃ R8, R8 = R7.set (j + 7) (L (row2 .u32 .u32 v8)) := ⟨_, rfl⟩
 rw [← e8] at h8
 have z8 : R8.length = sz := by rw [e8, List.length_set]; exact z7
 have k8 : ∀ x, j + 8 ≤ x → R8[x]? = R[x]? := fun x hx => by rw [e8, List.getElem?_set_ne (by omega)] <;> exact k7 x (by omega)
 have g9 := rHs_le 8 (by omega) s8
 have h9 : CallG Tryz.prog 119 [.ptr 0 0 0 1, .ptr 2 0 (j + 8) 1, .int .i64 8] [Cr 1 s8.cb, Rd s8.l s8.rb, Va sz R8] (.tup []) [Cr 1 (rHs 8 s8).2.cb, Rd (rHs 8 s8).2.l (rHs 8 s8).2.rb, Va sz (setL R8 (j + 8) [L (row3 (rHs 8 s8).1)])] := cHs_r s8 sz R8 (j + 8) 8 (by rw [k8 _ (by omega)]; exact hN8) (by omega) (by omega) (by omega) (by omega)
 generalize rHs 8 s8 = q9 at h9 g9 ⊢
 obtain ⟨v9, s9⟩ := q9
 dsimp only at h9 g9 ⊢
 obtain ⟨R9, e9⟩ : ∃ R9, R9 = setL R8 (j + 8) [L (row3 v9)] := ⟨_, rfl⟩
 rw [← e9] at h9
 have z9 : R9.length = sz := by rw [e9, setL_len]; exact z8
 have k9 : ∀ x, j + 9 ≤ x → R9[x]? = R[x]? := fun x hx => by rw [e9, setL_far _ _ _ _ (by simp only [List.length_cons, List.length_nil]; omega)] <;> exact k8 x (by omega)
 have eR : setL R j [.int .i64 (⟨v1, v2, v3, v4, v5, v6, v7, v8, v9⟩ : Qu).a, .int .i64 (⟨v1, v2, v3, v4, v5, v6, v7, v8, v9⟩ : Qu).b, .int .i64 (⟨v1, v2, v3, v4, v5, v6, v7, v8, v9⟩ : Qu).long, .int .i64 (⟨v1, v2, v3, v4, v5, v6, v7, v8, v9⟩ : Qu).grid, L (row1 .u32 (⟨v1, v2, v3, v4, v5, v6, v7, v8, v9⟩ : Qu).must), L (row2 .u32 .i64 (⟨v1, v2, v3, v4, v5, v6, v7, v8, v9⟩ : Qu).may), .int .i64 (⟨v1, v2, v3, v4, v5, v6, v7, v8, v9⟩ : Qu).seats, L (row2 .u32 .u32 (⟨v1, v2, v3, v4, v5, v6, v7, v8, v9⟩ : Qu).apart), L (row3 (⟨v1, v2, v3, v4, v5, v6, v7, v8, v9⟩ : Qu).prefer)] = R9 := by rw [e9, e8, e7, e6, e5, e4, e3, e2, e1] <;> rfl
 rw [eR]
 clear eR e1 e2 e3 e4 e5 e6 e7 e8 e9 k0 k1 k2 k3 k4 k5 k6 k7 k8 k9 z1 z2 z3 z4 z5 z6 z7 z8 z9
 repeat' ((first | apply Run_seq | apply Run_ret | apply Run_nil | apply Run_ops mixed | apply Run_opsX mixed | (with_reducible first | refine PostG_open ?_ | refine ro_callA (f := .c (.fn 56 [])) ?_ | refine ro_callA (f := .c (.fn 57 [])) ?_ | refine ro_callE (f := .c (.fn 127 [])) (z := []) (q := [0, 1, 2, 3]) ?_ | refine ro_callE' (f := .c (.fn 127 [])) (z := []) (q := [0, 1, 2, 3]) ?_ | refine ro_callE (f := .c (.fn 129 [])) (z := []) (q := [0, 1, 2, 3]) ?_ | refine ro_callE' (f := .c (.fn 129 [])) (z := []) (q := [0, 1, 2, 3]) ?_ | refine ro_callE (f := .c (.fn 131 [])) (z := []) (q := [0, 1, 2, 3]) ?_ | refine ro_callE' (f := .c (.fn 131 [])) (z := []) (q := [0, 1, 2, 3]) ?_ | refine ro_callA (f := .c (.fn 119 [])) ?_ | refine ro_callVX ?_ | refine CallE_use (h1) (by simp) ?_ | refine CallE_use (h2) (by simp) ?_ | refine CallE_use (h3) (by simp) ?_ | refine CallE_use (h4) (by simp) ?_ | refine CallE_use (h5) (by simp) ?_ | refine CallE_use (h6) (by simp) ?_ | refine CallE_use (h7) (by simp) ?_ | refine CallE_use (h8) (by simp) ?_ | refine CallE_use (h9) (by simp) ?_) | (with_reducible refine ⟨?_, ?_⟩; (focus ((repeat' with_reducible refine ⟨?_, ?_⟩) <;> first | exact trivial | assumption | (simp; done) | (simp only [List.length_map] at *; omega) | omega | (simp [fs]; done) | exact r8_sz))) | (with_reducible intro x hx) | omega) <;> (try simp only [Nat.reduceBEq, reduceIte, Nat.reduceEqDiff, Nat.reduceAdd, Nat.reduceSub, Nat.reduceLT, reduceCtorEq, ne_eq, fw, fd]))
 refine GcTo_own [0, 1, 2] (by rfl) (by simp) (by simp [fg])
def rPo (s : Rs) : (Po) × Rs :=
 match rqN 4294967295 s with
 | (v1, s1) =>
 match rqN 4294967295 s1 with
 | (v2, s2) =>
 match rQu s2 with
 | (v3, s3) =>
 match rRow rTs 40 s3 with
 | (v4, s4) =>
 match rRow rVo 4096 s4 with
 | (v5, s5) =>
 match rqM s5 with
 | (v6, s6) =>
 match rqN 4 s6 with
 | (v7, s7) =>
 match rqN 40 s7 with
 | (v8, s8) =>
  (⟨v1, v2, v3, v4, v5, v6, v7, v8⟩, s8)
theorem rPo_le (s : Rs) : (rPo s).2.l.length ≤ s.l.length := by
 unfold rPo
 have g1 := (rqN_le 4294967295 (by omega) s).1
 generalize rqN 4294967295 s = q1 at g1 ⊢
 obtain ⟨v1, s1⟩ := q1
 dsimp only at g1 ⊢
 have g2 := (rqN_le 4294967295 (by omega) s1).1
 generalize rqN 4294967295 s1 = q2 at g2 ⊢
 obtain ⟨v2, s2⟩ := q2
 dsimp only at g2 ⊢
 have g3 := rQu_le s2
 generalize rQu s2 = q3 at g3 ⊢
 obtain ⟨v3, s3⟩ := q3
 dsimp only at g3 ⊢
 have g4 := rRow_le rTs_le 40 (by omega) s3
 generalize rRow rTs 40 s3 = q4 at g4 ⊢
 obtain ⟨v4, s4⟩ := q4
 dsimp only at g4 ⊢
 have g5 := rRow_le rVo_le 4096 (by omega) s4
 generalize rRow rVo 4096 s4 = q5 at g5 ⊢
 obtain ⟨v5, s5⟩ := q5
 dsimp only at g5 ⊢
 have g6 := rqM_le s5
 generalize rqM s5 = q6 at g6 ⊢
 obtain ⟨v6, s6⟩ := q6
 dsimp only at g6 ⊢
 have g7 := (rqN_le 4 (by omega) s6).1
 generalize rqN 4 s6 = q7 at g7 ⊢
 obtain ⟨v7, s7⟩ := q7
 dsimp only at g7 ⊢
 have g8 := (rqN_le 40 (by omega) s7).1
 generalize rqN 40 s7 = q8 at g8 ⊢
 obtain ⟨v8, s8⟩ := q8
 dsimp only at g8 ⊢
 omega
set_option maxHeartbeats 4000000 in
theorem cPo_r (s : Rs) (sz : Nat) (R : List D) (j : Nat) (hN6 : R[j + 6]? = some (.list (some true) true [])) (hN7 : R[j + 7]? = some (.list (some true) true [])) (hN9 : R[j + 9]? = some (.list (some true) true [])) (hN10 : R[j + 10]? = some (.list (some true) true [])) (hN11 : R[j + 11]? = some (.list (some true) true [])) (hN12 : R[j + 12]? = some (.list (some true) true [])) (hz : R.length = sz) (hj : j + 16 ≤ sz) (hl : s.l.length ≤ 1099511627776) :
  CallG Tryz.prog 60 [.ptr 0 0 0 1, .ptr 2 0 j 1] [Cr 1 s.cb, Rd s.l s.rb, Va sz R] (.tup [])
   [Cr 1 (rPo s).2.cb, Rd (rPo s).2.l (rPo s).2.rb, Va sz (setL R j [.int .u32 (rPo s).1.id, .int .u32 (rPo s).1.owner, .int .i64 (rPo s).1.qu.a, .int .i64 (rPo s).1.qu.b, .int .i64 (rPo s).1.qu.long, .int .i64 (rPo s).1.qu.grid, L (row1 .u32 (rPo s).1.qu.must), L (row2 .u32 .i64 (rPo s).1.qu.may), .int .i64 (rPo s).1.qu.seats, L (row2 .u32 .u32 (rPo s).1.qu.apart), L (row3 (rPo s).1.qu.prefer), L (row1 .i64 (rPo s).1.slots), L (row2 .u32 .i64 (rPo s).1.votes), .int .i64 (rPo s).1.til, .int .i64 (rPo s).1.state, .int .i64 (rPo s).1.winner])] := by
 refine callG Tryz.func60 low60 (by simp [c60]) ?_
 simp only [c60]
 unfold rPo
 have z0 := hz
 have k0 : ∀ x, j + 0 ≤ x → R[x]? = R[x]? := fun _ _ => rfl
 have g1 := (rqN_le 4294967295 (by omega) s).1
 have h1 : CallG Tryz.prog 78 [.ptr 0 0 0 1, .ptr 2 0 j 1] [Cr 1 s.cb, Rd s.l s.rb, Va sz R] (.tup []) [Cr 1 (rqN 4294967295 s).2.cb, Rd (rqN 4294967295 s).2.l (rqN 4294967295 s).2.rb, Va sz (R.set j (.int .u32 (((rqN 4294967295 s).1 : Nat) : Int)))] := name_r s.l s.rb s.cb sz R j (by omega) (by omega) (by omega)
 generalize rqN 4294967295 s = q1 at h1 g1 ⊢
 obtain ⟨v1, s1⟩ := q1
 dsimp only at h1 g1 ⊢
 obtain ⟨R1, e1⟩ : ∃ R1, R1 = R.set j (.int .u32 ((v1 : Nat) : Int)) := ⟨_, rfl⟩
 rw [← e1] at h1
 have z1 : R1.length = sz := by rw [e1, List.length_set]; exact z0
 have k1 : ∀ x, j + 1 ≤ x → R1[x]? = R[x]? := fun x hx => by rw [e1, List.getElem?_set_ne (by omega)] <;> exact k0 x (by omega)
 have g2 := (rqN_le 4294967295 (by omega) s1).1
 have h2 : CallG Tryz.prog 78 [.ptr 0 0 0 1, .ptr 2 0 (j + 1) 1] [Cr 1 s1.cb, Rd s1.l s1.rb, Va sz R1] (.tup []) [Cr 1 (rqN 4294967295 s1).2.cb, Rd (rqN 4294967295 s1).2.l (rqN 4294967295 s1).2.rb, Va sz (R1.set (j + 1) (.int .u32 (((rqN 4294967295 s1).1 : Nat) : Int)))] := name_r s1.l s1.rb s1.cb sz R1 (j + 1) (by omega) (by omega) (by omega)
 generalize rqN 4294967295 s1 = q2 at h2 g2 ⊢
 obtain ⟨v2, s2⟩ := q2
 dsimp only at h2 g2 ⊢
 obtain ⟨R2, e2⟩ : ∃ R2, R2 = R1.set (j + 1) (.int .u32 ((v2 : Nat) : Int)) := ⟨_, rfl⟩
 rw [← e2] at h2
 have z2 : R2.length = sz := by rw [e2, List.length_set]; exact z1
 have k2 : ∀ x, j + 2 ≤ x → R2[x]? = R[x]? := fun x hx => by rw [e2, List.getElem?_set_ne (by omega)] <;> exact k1 x (by omega)
 have g3 := rQu_le s2
 have h3 : CallG Tryz.prog 95 [.ptr 0 0 0 1, .ptr 2 0 (j + 2) 1] [Cr 1 s2.cb, Rd s2.l s2.rb, Va sz R2] (.tup []) [Cr 1 (rQu s2).2.cb, Rd (rQu s2).2.l (rQu s2).2.rb, Va sz (setL R2 (j + 2) [.int .i64 (rQu s2).1.a, .int .i64 (rQu s2).1.b, .int .i64 (rQu s2).1.long, .int .i64 (rQu s2).1.grid, L (row1 .u32 (rQu s2).1.must), L (row2 .u32 .i64 (rQu s2).1.may), .int .i64 (rQu s2).1.seats, L (row2 .u32 .u32 (rQu s2).1.apart), L (row3 (rQu s2).1.prefer)])] := cQu_r s2 sz R2 (j + 2) (by rw [k2 _ (by omega)]; exact hN6) (by rw [k2 _ (by omega)]; exact hN7) (by rw [k2 _ (by omega)]; exact hN9) (by rw [k2 _ (by omega)]; exact hN10) (by omega) (by omega) (by omega)
 generalize rQu s2 = q3 at h3 g3 ⊢
 obtain ⟨v3, s3⟩ := q3
 dsimp only at h3 g3 ⊢
 obtain ⟨R3, e3⟩ : ∃ R3, R3 = setL R2 (j + 2) [.int .i64 v3.a, .int .i64 v3.b, .int .i64 v3.long, .int .i64 v3.grid, L (row1 .u32 v3.must), L (row2 .u32 .i64 v3.may), .int .i64 v3.seats, L (row2 .u32 .u32 v3.apart), L (row3 v3.prefer)] := ⟨_, rfl⟩
 rw [← e3] at h3
 have z3 : R3.length = sz := by rw [e3, setL_len]; exact z2
 have k3 : ∀ x, j + 11 ≤ x → R3[x]? = R[x]? := fun x hx => by rw [e3, setL_far _ _ _ _ (by simp only [List.length_cons, List.length_nil]; omega)] <;> exact k2 x (by omega)
 have g4 := rRow_le rTs_le 40 (by omega) s3
 have h4 : CallG Tryz.prog 104 [.ptr 0 0 0 1, .ptr 2 0 (j + 11) 1, .int .i64 40, .fn 105 [.ptr 3 0 0 1]] [Cr 1 s3.cb, Rd s3.l s3.rb, Va sz R3, Bx 0] (.tup []) [Cr 1 (rRow rTs 40 s3).2.cb, Rd (rRow rTs 40 s3).2.l (rRow rTs 40 s3).2.rb, Va sz (R3.set (j + 11) (L (row1 .i64 (rRow rTs 40 s3).1))), Bx 0] := rowTs_r s3 sz R3 (j + 11) 40 (by rw [k3 _ (by omega)]; exact hN11) (by omega) (by omega) (by omega)
 generalize rRow rTs 40 s3 = q4 at h4 g4 ⊢
 obtain ⟨v4, s4⟩ := q4
 dsimp only at h4 g4 ⊢
 obtain ⟨R4, e4⟩ : ∃ R4, R4 = R3.set (j + 11) (L (row1 .i64 v4)) := ⟨_, rfl⟩
 rw [← e4] at h4
 have z4 : R4.length = sz := by rw [e4, List.length_set]; exact z3
 have k4 : ∀ x, j + 12 ≤ x → R4[x]? = R[x]? := fun x hx => by rw [e4, List.getElem?_set_ne (by omega)] <;> exact k3 x (by omega)
 have g5 := rRow_le rVo_le 4096 (by omega) s4
 have h5 : CallG Tryz.prog 106 [.ptr 0 0 0 1, .ptr 2 0 (j + 12) 1, .int .i64 4096, .fn 107 [.ptr 3 0 0 1]] [Cr 1 s4.cb, Rd s4.l s4.rb, Va sz R4, Bx 0] (.tup []) [Cr 1 (rRow rVo 4096 s4).2.cb, Rd (rRow rVo 4096 s4).2.l (rRow rVo 4096 s4).2.rb, Va sz (R4.set (j + 12) (L (row2 .u32 .i64 (rRow rVo 4096 s4).1))), Bx 0] := rowVo_r s4 sz R4 (j + 12) 4096 (by rw [k4 _ (by omega)]; exact hN12) (by omega) (by omega) (by omega)
 generalize rRow rVo 4096 s4 = q5 at h5 g5 ⊢
 obtain ⟨v5, s5⟩ := q5
 dsimp only at h5 g5 ⊢
 obtain ⟨R5, e5⟩ : ∃ R5, R5 = R4.set (j + 12) (L (row2 .u32 .i64 v5)) := ⟨_, rfl⟩
 rw [← e5] at h5
 have z5 : R5.length = sz := by rw [e5, List.length_set]; exact z4
 have k5 : ∀ x, j + 13 ≤ x → R5[x]? = R[x]? := fun x hx => by rw [e5, List.getElem?_set_ne (by omega)] <;> exact k4 x (by omega)
 have g6 := rqM_le s5
 have h6 : CallG Tryz.prog 56 [.ptr 0 0 0 1, .ptr 2 0 (j + 13) 1] [Cr 1 s5.cb, Rd s5.l s5.rb, Va sz R5] (.tup []) [Cr 1 (rqM s5).2.cb, Rd (rqM s5).2.l (rqM s5).2.rb, Va sz (R5.set (j + 13) (.int .i64 ((rqM s5).1 : Int)))] := minutes_r s5.l s5.rb s5.cb sz R5 (j + 13) (by omega) (by omega) (by omega)
 generalize rqM s5 = q6 at h6 g6 ⊢
 obtain ⟨v6, s6⟩ := q6
 dsimp only at h6 g6 ⊢
 obtain ⟨R6, e6⟩ : ∃ R6, R6 = R5.set (j + 13) (.int .i64 (v6 : Int)) := ⟨_, rfl⟩
 rw [← e6] at h6
 have z6 : R6.length = sz := by rw [e6, List.length_set]; exact z5
 have k6 : ∀ x, j + 14 ≤ x → R6[x]? = R[x]? := fun x hx => by rw [e6, List.getElem?_set_ne (by omega)] <;> exact k5 x (by omega)
 have g7 := (rqN_le 4 (by omega) s6).1
 have h7 : CallG Tryz.prog 57 [.ptr 0 0 0 1, .ptr 2 0 (j + 14) 1, .int .u64 4] [Cr 1 s6.cb, Rd s6.l s6.rb, Va sz R6] (.tup []) [Cr 1 (rqN 4 s6).2.cb, Rd (rqN 4 s6).2.l (rqN 4 s6).2.rb, Va sz (R6.set (j + 14) (.int .i64 (((rqN 4 s6).1 : Nat) : Int)))] := numI_r s6.l s6.rb s6.cb sz R6 (j + 14) 4 (by omega) (by omega) (by omega) (by omega)
 generalize rqN 4 s6 = q7 at h7 g7 ⊢
 obtain ⟨v7, s7⟩ := q7
 dsimp only at h7 g7 ⊢
 obtain ⟨R7, e7⟩ : ∃ R7, R7 = R6.set (j + 14) (.int .i64 ((v7 : Nat) : Int)) := ⟨_, rfl⟩
 rw [← e7] at h7
 have z7 : R7.length = sz := by rw [e7, List.length_set]; exact z6
 have k7 : ∀ x, j + 15 ≤ x → R7[x]? = R[x]? := fun x hx => by rw [e7, List.getElem?_set_ne (by omega)] <;> exact k6 x (by omega)
 have g8 := (rqN_le 40 (by omega) s7).1
 have h8 : CallG Tryz.prog 57 [.ptr 0 0 0 1, .ptr 2 0 (j + 15) 1, .int .u64 40] [Cr 1 s7.cb, Rd s7.l s7.rb, Va sz R7] (.tup []) [Cr 1 (rqN 40 s7).2.cb, Rd (rqN 40 s7).2.l (rqN 40 s7).2.rb, Va sz (R7.set (j + 15) (.int .i64 (((rqN 40 s7).1 : Nat) : Int)))] := numI_r s7.l s7.rb s7.cb sz R7 (j + 15) 40 (by omega) (by omega) (by omega) (by omega)
 generalize rqN 40 s7 = q8 at h8 g8 ⊢
 obtain ⟨v8, s8⟩ := q8
 dsimp only at h8 g8 ⊢
 obtain ⟨R8, e8⟩ : ∃ R8, R8 = R7.set (j + 15) (.int .i64 ((v8 : Nat) : Int)) := ⟨_, rfl⟩
 rw [← e8] at h8
 have z8 : R8.length = sz := by rw [e8, List.length_set]; exact z7
 have k8 : ∀ x, j + 16 ≤ x → R8[x]? = R[x]? := fun x hx => by rw [e8, List.getElem?_set_ne (by omega)] <;> exact k7 x (by omega)
 have eR : setL R j [.int .u32 (⟨v1, v2, v3, v4, v5, v6, v7, v8⟩ : Po).id, .int .u32 (⟨v1, v2, v3, v4, v5, v6, v7, v8⟩ : Po).owner, .int .i64 (⟨v1, v2, v3, v4, v5, v6, v7, v8⟩ : Po).qu.a, .int .i64 (⟨v1, v2, v3, v4, v5, v6, v7, v8⟩ : Po).qu.b, .int .i64 (⟨v1, v2, v3, v4, v5, v6, v7, v8⟩ : Po).qu.long, .int .i64 (⟨v1, v2, v3, v4, v5, v6, v7, v8⟩ : Po).qu.grid, L (row1 .u32 (⟨v1, v2, v3, v4, v5, v6, v7, v8⟩ : Po).qu.must), L (row2 .u32 .i64 (⟨v1, v2, v3, v4, v5, v6, v7, v8⟩ : Po).qu.may), .int .i64 (⟨v1, v2, v3, v4, v5, v6, v7, v8⟩ : Po).qu.seats, L (row2 .u32 .u32 (⟨v1, v2, v3, v4, v5, v6, v7, v8⟩ : Po).qu.apart), L (row3 (⟨v1, v2, v3, v4, v5, v6, v7, v8⟩ : Po).qu.prefer), L (row1 .i64 (⟨v1, v2, v3, v4, v5, v6, v7, v8⟩ : Po).slots), L (row2 .u32 .i64 (⟨v1, v2, v3, v4, v5, v6, v7, v8⟩ : Po).votes), .int .i64 (⟨v1, v2, v3, v4, v5, v6, v7, v8⟩ : Po).til, .int .i64 (⟨v1, v2, v3, v4, v5, v6, v7, v8⟩ : Po).state, .int .i64 (⟨v1, v2, v3, v4, v5, v6, v7, v8⟩ : Po).winner] = R8 := by rw [e8, e7, e6, e5, e4, e3, e2, e1] <;> rfl
 rw [eR]
 clear eR e1 e2 e3 e4 e5 e6 e7 e8 k0 k1 k2 k3 k4 k5 k6 k7 k8 z1 z2 z3 z4 z5 z6 z7 z8
 repeat' ((first | apply Run_seq | apply Run_ret | apply Run_nil | apply Run_ops mixed | apply Run_opsX mixed | (with_reducible first | refine PostG_open ?_ | refine ro_callA (f := .c (.fn 78 [])) ?_ | refine ro_callA (f := .c (.fn 95 [])) ?_ | refine ro_callE (f := .c (.fn 104 [])) (z := []) (q := [0, 1, 2, 3]) ?_ | refine ro_callE' (f := .c (.fn 104 [])) (z := []) (q := [0, 1, 2, 3]) ?_ | refine ro_callE (f := .c (.fn 106 [])) (z := []) (q := [0, 1, 2, 3]) ?_ | refine ro_callE' (f := .c (.fn 106 [])) (z := []) (q := [0, 1, 2, 3]) ?_ | refine ro_callA (f := .c (.fn 56 [])) ?_ | refine ro_callA (f := .c (.fn 57 [])) ?_ | refine ro_callVX ?_ | refine CallE_use (h1) (by simp) ?_ | refine CallE_use (h2) (by simp) ?_ | refine CallE_use (h3) (by simp) ?_ | refine CallE_use (h4) (by simp) ?_ | refine CallE_use (h5) (by simp) ?_ | refine CallE_use (h6) (by simp) ?_ | refine CallE_use (h7) (by simp) ?_ | refine CallE_use (h8) (by simp) ?_) | (with_reducible refine ⟨?_, ?_⟩; (focus ((repeat' with_reducible refine ⟨?_, ?_⟩) <;> first | exact trivial | assumption | (simp; done) | (simp only [List.length_map] at *; omega) | omega | (simp [fs]; done) | exact r8_sz))) | (with_reducible intro x hx) | omega) <;> (try simp only [Nat.reduceBEq, reduceIte, Nat.reduceEqDiff, Nat.reduceAdd, Nat.reduceSub, Nat.reduceLT, reduceCtorEq, ne_eq, fw, fd]))
 refine GcTo_own [0, 1, 2] (by rfl) (by simp) (by simp [fg])
end Go.Proofs.YtgefljdclekadaaGreat

namespace Go.Proofs.YtgefljdclekadaaGreat
open Go Go.Vi

abbrev Ru0 : Ru := ⟨0, 0, 0, 0, [], [], [], [], 0⟩
end Go.Proofs.YtgefljdclekadaaGreat

namespace Go.Proofs.YtgefljdclekadaaGreat
open Go Go.Vi



structure As where
 kind : Int
 caller : Int
 number : Int
 user : Int
 id : Int
 se : Se
 ev : Ev
 qu : Qu
 cursor : ByteArray
 count : Int
 poll : Int
 slot : Int
 yes : Bool
 til : Int
def As.cells (a : As) : List D := [.int .i64 a.kind, .int .u32 a.caller, .int .u64 a.number, .int .u32 a.user, .int .u32 a.id, .int .i64 a.se.base, L (row2 .i64 .i64 a.se.turns), L (row3 a.se.shifts), L (row1 .i64 a.se.off), .int .i64 a.se.before, .int .i64 a.se.after, .int .i64 a.ev.start, .int .i64 a.ev.long, .bool a.ev.world, .bool a.ev.again, .int .i64 a.ev.rule.freq, .int .i64 a.ev.rule.interval, .int .i64 a.ev.rule.count, .int .i64 a.ev.rule.til, L (row1 .i64 a.ev.rule.bm), L (row1 .i64 a.ev.rule.bmd), L (row2 .i64 .i64 a.ev.rule.bd), L (row1 .i64 a.ev.rule.bsp), .int .i64 a.ev.rule.start, L (row1 .i64 a.ev.ex), L (row1 .i64 a.ev.plus), L (row3 a.ev.ch), .int .i64 a.qu.a, .int .i64 a.qu.b, .int .i64 a.qu.long, .int .i64 a.qu.grid, L (row1 .u32 a.qu.must), L (row2 .u32 .i64 a.qu.may), .int .i64 a.qu.seats, L (row2 .u32 .u32 a.qu.apart), L (row3 a.qu.prefer), .str a.cursor, .int .i64 a.count, .int .u32 a.poll, .int .i64 a.slot, .bool a.yes, .int .i64 a.til]
def eA2 (a : As) : List UInt8 := num (uI a.kind) ++ (num (uI a.caller) ++ (num (uI a.number)))
def xA2 (a : As) : Bool := decide (11 < uI a.kind)
def fA2 (a : As) : Prop := Fit a.kind ∧ ((0 ≤ a.caller ∧ a.caller ≤ 4294967295) ∧ ((0 ≤ a.number ∧ a.number ≤ 18446744073709551615)))
set_option maxHeartbeats 2000000 in
theorem cA2_w (l : List UInt8) (bad : Bool) (sz : Nat) (R : List D) (j : Nat) (a : As) (hk : a.kind = 2) (hR0 : R[j]? = some (.int .i64 a.kind)) (hR1 : R[j + 1]? = some (.int .u32 a.caller)) (hR2 : R[j + 2]? = some (.int .u64 a.number)) (hf : fA2 a) (hl : (l ++ eA2 a).length ≤ 1099511627776) :
  CallG Tryz.prog 49 [.ptr 0 0 0 1, .ptr 3 0 j 1] [Cw 1 bad, Ww 2 l.length, acc true 1 true (r8 l), Va sz R] (.tup [])
   [Cw 1 (bad || xA2 a), Ww 2 (l ++ eA2 a).length, acc true 1 true (r8 (l ++ eA2 a)), Va sz R] := by
 refine callG Tryz.func49 low49 (by simp [c49]) ?_
 simp only [c49]
 unfold fA2 at hf
 obtain ⟨l1, e1⟩ : ∃ l1, l1 = l ++ num (uI a.kind) := ⟨_, rfl⟩
 obtain ⟨b1, d1⟩ : ∃ b1, b1 = (bad || decide (11 < uI a.kind)) := ⟨_, rfl⟩
 obtain ⟨l2, e2⟩ : ∃ l2, l2 = l1 ++ num (uI a.caller) := ⟨_, rfl⟩
 obtain ⟨l3, e3⟩ : ∃ l3, l3 = l2 ++ num (uI a.number) := ⟨_, rfl⟩
 have el : l ++ eA2 a = l3 := by rw [e3, e2, e1]; simp only [eA2, List.append_assoc]
 have eb : (bad || xA2 a) = b1 := by rw [d1]; simp only [xA2]
 rw [el] at hl
 rw [el, eb]
 have g2 : l2.length ≤ l3.length := by rw [e3, List.length_append]; omega
 have g1 : l1.length ≤ l2.length := by rw [e2, List.length_append]; omega
 have g0 : l.length ≤ l1.length := by rw [e1, List.length_append]; omega
 have h1 := numI_w l bad sz R j 11 a.kind hR0 hf.1 (by omega) (by omega)
 rw [← e1, ← d1] at h1
 have h2 := name_w l1 b1 sz R (j + 1) a.caller hR1 hf.2.1 (by omega)
 rw [← e2] at h2
 have h3 := big_w l2 b1 sz R (j + 2) a.number hR2 hf.2.2 (by omega)
 rw [← e3] at h3
 clear e1 e2 e3 d1 el eb
 rw [hk] at hR0
 repeat' ((first | apply Run_seq | apply Run_skip | apply Run_block | apply Run_blk | refine Run_exit rfl ?_ | apply Run_ret | apply Run_nil | apply Run_condK | apply Run_ops mixed | (with_reducible first | refine PostG_open ?_ | refine ro_callA' (f := .c (.fn 57 [])) ?_ | refine ro_callA' (f := .c (.fn 78 [])) ?_ | refine ro_callA' (f := .c (.fn 53 [])) ?_ | refine ro_callV ?_ | refine CallE_use (h1) (by simp) ?_ | refine CallE_use (h2) (by simp) ?_ | refine CallE_use (h3) (by simp) ?_) | (refine CondK_split ?_ ?_ <;> intro hc <;> (try simp only [hc]) <;> try simp at hc) | (with_reducible refine ⟨?_, ?_⟩; (focus ((repeat' with_reducible refine ⟨?_, ?_⟩) <;> first | exact trivial | assumption | (simp; done) | (simp only [List.length_map] at *; omega) | omega | (simp [fs]; done) | exact r8_sz))) | (with_reducible intro x hx) | omega) <;> (try simp only [hR0, Nat.reduceBEq, reduceIte, Nat.reduceEqDiff, Nat.reduceAdd, Nat.reduceSub, Nat.reduceLT, reduceCtorEq, cond_true, Int.reduceBEq, beq_self_eq_true, fw, fd]))
 refine GcTo_own [0, 1, 2, 3] (by rfl) (by simp) (by simp [fg])
structure fAs (a : As) : Prop where
 kind : Fit a.kind
 caller : 0 ≤ a.caller ∧ a.caller ≤ 4294967295
 number : 0 ≤ a.number ∧ a.number ≤ 18446744073709551615
 id : 0 ≤ a.id ∧ a.id ≤ 4294967295
 se : fSe a.se
 ev : fEv a.ev
 qu : fQu a.qu
 cursor : a.cursor.size ≤ 1099511627776
 count : Fit a.count
 poll : 0 ≤ a.poll ∧ a.poll ≤ 4294967295
 slot : Fit a.slot
 til : Fit a.til
end Go.Proofs.YtgefljdclekadaaGreat

namespace Go.Proofs.YtgefljdclekadaaGreat
open Go Go.Vi



def Z42 : List D := [.int .i64 0, .int .u32 0, .int .u64 0, .int .u32 0, .int .u32 0, .int .i64 0, .list (some true) true [], .list (some true) true [], .list (some true) true [], .int .i64 0, .int .i64 0, .int .i64 0, .int .i64 0, .bool false, .bool false, .int .i64 0, .int .i64 0, .int .i64 0, .int .i64 0, .list (some true) true [], .list (some true) true [], .list (some true) true [], .list (some true) true [], .int .i64 0, .list (some true) true [], .list (some true) true [], .list (some true) true [], .int .i64 0, .int .i64 0, .int .i64 0, .int .i64 0, .list (some true) true [], .list (some true) true [], .int .i64 0, .list (some true) true [], .list (some true) true [], .str ⟨#[]⟩, .int .i64 0, .int .u32 0, .int .i64 0, .bool false, .int .i64 0]
def A0 (k c m : Nat) : As := ⟨k, c, m, c, 0, ⟨0, [], [], [], 0, 0⟩, ⟨0, 0, false, false, ⟨0, 0, 0, 0, [], [], [], [], 0⟩, [], [], []⟩, ⟨0, 0, 0, 0, [], [], 0, [], []⟩, ⟨#[]⟩, 0, 0, 0, false, 0⟩
def rA2 (k c m : Nat) (s3 : Rs) : As × Rs :=
 (A0 k c m, s3)
set_option maxHeartbeats 8000000 in
theorem ask2_r (s : Rs) (hk : (rqN 11 s).1 = 2) (hl : s.l.length ≤ 1099511627776) :
  ∃ R', R'.map nl1 = (rA2 (rqN 11 s).1 (rqN 4294967295 (rqN 11 s).2).1 (rqN 18446744073709551615 (rqN 4294967295 (rqN 11 s).2).2).1 (rqN 18446744073709551615 (rqN 4294967295 (rqN 11 s).2).2).2).1.cells ∧
  CallG Tryz.prog 49 [.ptr 0 0 0 1, .ptr 2 0 0 1] [Cr 1 s.cb, Rd s.l s.rb, Va 42 Z42] (.tup [])
   [Cr 1 (rA2 (rqN 11 s).1 (rqN 4294967295 (rqN 11 s).2).1 (rqN 18446744073709551615 (rqN 4294967295 (rqN 11 s).2).2).1 (rqN 18446744073709551615 (rqN 4294967295 (rqN 11 s).2).2).2).2.cb,
    Rd (rA2 (rqN 11 s).1 (rqN 4294967295 (rqN 11 s).2).1 (rqN 18446744073709551615 (rqN 4294967295 (rqN 11 s).2).2).1 (rqN 18446744073709551615 (rqN 4294967295 (rqN 11 s).2).2).2).2.l
     (rA2 (rqN 11 s).1 (rqN 4294967295 (rqN 11 s).2).1 (rqN 18446744073709551615 (rqN 4294967295 (rqN 11 s).2).2).1 (rqN 18446744073709551615 (rqN 4294967295 (rqN 11 s).2).2).2).2.rb, Va 42 R'] := by
 unfold rA2
 obtain ⟨R, eR⟩ : ∃ R, R = Z42 := ⟨_, rfl⟩
 rw [← eR]
 have hN6 : R[6]? = some (.list (some true) true []) := by subst eR; rfl
 have hN7 : R[7]? = some (.list (some true) true []) := by subst eR; rfl
 have hN8 : R[8]? = some (.list (some true) true []) := by subst eR; rfl
 have hN19 : R[19]? = some (.list (some true) true []) := by subst eR; rfl
 have hN20 : R[20]? = some (.list (some true) true []) := by subst eR; rfl
 have hN21 : R[21]? = some (.list (some true) true []) := by subst eR; rfl
 have hN22 : R[22]? = some (.list (some true) true []) := by subst eR; rfl
 have hN24 : R[24]? = some (.list (some true) true []) := by subst eR; rfl
 have hN25 : R[25]? = some (.list (some true) true []) := by subst eR; rfl
 have hN26 : R[26]? = some (.list (some true) true []) := by subst eR; rfl
 have hN31 : R[31]? = some (.list (some true) true []) := by subst eR; rfl
 have hN32 : R[32]? = some (.list (some true) true []) := by subst eR; rfl
 have hN34 : R[34]? = some (.list (some true) true []) := by subst eR; rfl
 have hN35 : R[35]? = some (.list (some true) true []) := by subst eR; rfl
 have z0 : R.length = 42 := by subst eR; rfl
 have k0 : ∀ x : Nat, True → R[x]? = R[x]? := fun _ _ => rfl
 have g1 := (rqN_le 11 (by omega) s).1
 have h1 : CallG Tryz.prog 57 [.ptr 0 0 0 1, .ptr 2 0 0 1, .int .u64 11] [Cr 1 s.cb, Rd s.l s.rb, Va 42 R] (.tup []) [Cr 1 (rqN 11 s).2.cb, Rd (rqN 11 s).2.l (rqN 11 s).2.rb, Va 42 (R.set 0 (.int .i64 (((rqN 11 s).1 : Nat) : Int)))] := numI_r s.l s.rb s.cb 42 R 0 11 (by omega) (by omega) (by omega) (by omega)
 generalize rqN 11 s = q1 at h1 g1 hk ⊢
 obtain ⟨v1, s1⟩ := q1
 dsimp only at h1 g1 hk ⊢
 obtain ⟨R1, e1⟩ : ∃ R1, R1 = R.set 0 (.int .i64 ((v1 : Nat) : Int)) := ⟨_, rfl⟩
 rw [← e1] at h1
 have z1 : R1.length = 42 := by rw [e1, List.length_set] <;> exact z0
 have k1 : ∀ x : Nat, x ≠ 0 → R1[x]? = R[x]? := fun x hx => by rw [e1, List.getElem?_set_ne (by omega)] <;> exact k0 x (by omega)
 have g2 := (rqN_le 4294967295 (by omega) s1).1
 have h2 : CallG Tryz.prog 78 [.ptr 0 0 0 1, .ptr 2 0 1 1] [Cr 1 s1.cb, Rd s1.l s1.rb, Va 42 R1] (.tup []) [Cr 1 (rqN 4294967295 s1).2.cb, Rd (rqN 4294967295 s1).2.l (rqN 4294967295 s1).2.rb, Va 42 (R1.set 1 (.int .u32 (((rqN 4294967295 s1).1 : Nat) : Int)))] := name_r s1.l s1.rb s1.cb 42 R1 1 (by omega) (by omega) (by omega)
 generalize rqN 4294967295 s1 = q2 at h2 g2 ⊢
 obtain ⟨v2, s2⟩ := q2
 dsimp only at h2 g2 ⊢
 obtain ⟨R2, e2⟩ : ∃ R2, R2 = R1.set 1 (.int .u32 ((v2 : Nat) : Int)) := ⟨_, rfl⟩
 rw [← e2] at h2
 have z2 : R2.length = 42 := by rw [e2, List.length_set] <;> exact z1
 have k2 : ∀ x : Nat, x ≠ 0 ∧ x ≠ 1 → R2[x]? = R[x]? := fun x hx => by rw [e2, List.getElem?_set_ne (by omega)] <;> exact k1 x (by omega)
 have g3 := (rqN_le 18446744073709551615 (by omega) s2).1
 have h3 : CallG Tryz.prog 53 [.ptr 0 0 0 1, .ptr 2 0 2 1, .int .u64 18446744073709551615] [Cr 1 s2.cb, Rd s2.l s2.rb, Va 42 R2] (.tup []) [Cr 1 (rqN 18446744073709551615 s2).2.cb, Rd (rqN 18446744073709551615 s2).2.l (rqN 18446744073709551615 s2).2.rb, Va 42 (R2.set 2 (.int .u64 (((rqN 18446744073709551615 s2).1 : Nat) : Int)))] := numQ_r s2.l s2.rb s2.cb 42 R2 2 18446744073709551615 (by omega) (by omega) (by omega) (by omega)
 generalize rqN 18446744073709551615 s2 = q3 at h3 g3 ⊢
 obtain ⟨v3, s3⟩ := q3
 dsimp only at h3 g3 ⊢
 obtain ⟨R3, e3⟩ : ∃ R3, R3 = R2.set 2 (.int .u64 ((v3 : Nat) : Int)) := ⟨_, rfl⟩
 rw [← e3] at h3
 have z3 : R3.length = 42 := by rw [e3, List.length_set] <;> exact z2
 have k3 : ∀ x : Nat, x ≠ 0 ∧ x ≠ 1 ∧ x ≠ 2 → R3[x]? = R[x]? := fun x hx => by rw [e3, List.getElem?_set_ne (by omega)] <;> exact k2 x (by omega)
 have hB : R3[1]? = some (.int .u32 (v2 : Int)) := by rw [e3, List.getElem?_set_ne (by omega), e2, List.getElem?_set_self (by omega)]
 have hK : (R3.set 3 (.int .u32 (v2 : Int)))[0]? = some (.int .i64 (v1 : Int)) := by rw [List.getElem?_set_ne (by omega), e3, List.getElem?_set_ne (by omega), e2, List.getElem?_set_ne (by omega), e1, List.getElem?_set_self (by omega)]
 have hS : R3.take 3 ++ [.int .u32 (v2 : Int)] ++ R3.drop 4 = R3.set 3 (.int .u32 (v2 : Int)) := spl1 (R := R3) (j := 3) (by omega) _
 have z3 : (R3.set 3 (.int .u32 (v2 : Int))).length = 42 := by rw [List.length_set]; exact z3
 have k3 : ∀ x : Nat, (x ≠ 0 ∧ x ≠ 1 ∧ x ≠ 2 ∧ x ≠ 3) → (R3.set 3 (.int .u32 (v2 : Int)))[x]? = R[x]? := fun x hx => by rw [List.getElem?_set_ne (by omega)] <;> exact k3 x (by omega)
 refine ⟨(R3.set 3 (.int .u32 (v2 : Int))), ?_, ?_⟩
 ·rw [e3, e2, e1, eR] <;> rfl
 have hK : (R3.set 3 (.int .u32 (v2 : Int)))[0]? = some (.int .i64 2) := by rw [hk] at hK; exact hK
 clear eR e1 e2 e3 z1 z2 z3 k0 k1 k2 k3
 refine callG Tryz.func49 low49 (by simp [c49]) ?_
 simp only [c49]
 repeat' ((first | apply Run_seq | apply Run_skip | apply Run_block | apply Run_blk | refine Run_exit rfl ?_ | apply Run_ret | apply Run_nil | apply Run_condK | apply Run_ops mixed | (with_reducible first | refine PostG_open ?_ | refine ro_callA' (f := .c (.fn 57 [])) ?_ | refine ro_callA' (f := .c (.fn 78 [])) ?_ | refine ro_callA' (f := .c (.fn 53 [])) ?_ | refine ro_callV ?_ | refine CallE_use (h1) (by simp) ?_ | refine CallE_use (h2) (by simp) ?_ | refine CallE_use (h3) (by simp) ?_) | (refine CondK_split ?_ ?_ <;> intro hc <;> (try simp only [hc]) <;> try simp at hc) | (with_reducible refine ⟨?_, ?_⟩; (focus ((repeat' with_reducible refine ⟨?_, ?_⟩) <;> first | exact trivial | assumption | (simp; done) | (simp only [List.length_map] at *; omega) | omega | (simp [fs]; done) | exact r8_sz))) | (with_reducible intro x hx) | omega) <;> (try simp only [hB, hK, hS, Nat.reduceBEq, reduceIte, Nat.reduceEqDiff, Nat.reduceAdd, Nat.reduceSub, Nat.reduceLT, Nat.reduceLeDiff, reduceCtorEq, cond_true, Int.reduceBEq, beq_self_eq_true, fw, fd]))
 refine GcTo_own [0, 1, 2] (by rfl) (by simp) (by simp [fg])
end Go.Proofs.YtgefljdclekadaaGreat
