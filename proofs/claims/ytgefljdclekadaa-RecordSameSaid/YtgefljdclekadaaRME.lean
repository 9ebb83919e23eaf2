import Derived.Test.YtgefljdclekadaaRMD
import Derived.Test.YtgefljdclekadaaVi25
import Derived.Test.YtgefljdclekadaaVi31
set_option linter.unusedVariables false
set_option linter.unusedSimpArgs false
set_option linter.unnecessarySimpa false
namespace Go.Proofs.Ytgefljdclekadaa
open Go Go.Vi



structure As where
 kind : Int
 caller : Int
 number : Int
 user : Int
 id : Int
 se : Se
 ev : Ev
 qu : Qu
 cursor : ByteArray
 count : Int
 poll : Int
 slot : Int
 yes : Bool
 til : Int
def As.cells (a : As) : List D := [.int .i64 a.kind, .int .u32 a.caller, .int .u64 a.number, .int .u32 a.user, .int .u32 a.id, .int .i64 a.se.base, L (row2 .i64 .i64 a.se.turns), L (row3 a.se.shifts), L (row1 .i64 a.se.off), .int .i64 a.se.before, .int .i64 a.se.after, .int .i64 a.ev.start, .int .i64 a.ev.long, .bool a.ev.world, .bool a.ev.again, .int .i64 a.ev.rule.freq, .int .i64 a.ev.rule.interval, .int .i64 a.ev.rule.count, .int .i64 a.ev.rule.til, L (row1 .i64 a.ev.rule.bm), L (row1 .i64 a.ev.rule.bmd), L (row2 .i64 .i64 a.ev.rule.bd), L (row1 .i64 a.ev.rule.bsp), .int .i64 a.ev.rule.start, L (row1 .i64 a.ev.ex), L (row1 .i64 a.ev.plus), L (row3 a.ev.ch), .int .i64 a.qu.a, .int .i64 a.qu.b, .int .i64 a.qu.long, .int .i64 a.qu.grid, L (row1 .u32 a.qu.must), L (row2 .u32 .i64 a.qu.may), .int .i64 a.qu.seats, L (row2 .u32 .u32 a.qu.apart), L (row3 a.qu.prefer), .str a.cursor, .int .i64 a.count, .int .u32 a.poll, .int .i64 a.slot, .bool a.yes, .int .i64 a.til]
def eA2 (a : As) : List UInt8 := num (uI a.kind) ++ (num (uI a.caller) ++ (num (uI a.number)))
def xA2 (a : As) : Bool := decide (11 < uI a.kind)
def fA2 (a : As) : Prop := Fit a.kind ∧ ((0 ≤ a.caller ∧ a.caller ≤ 4294967295) ∧ ((0 ≤ a.number ∧ a.number ≤ 18446744073709551615)))
set_option maxHeartbeats 2000000 in
theorem cA2_w (l : List UInt8) (bad : Bool) (sz : Nat) (R : List D) (j : Nat) (a : As) (hk : a.kind = 2) (hR0 : R[j]? = some (.int .i64 a.kind)) (hR1 : R[j + 1]? = some (.int .u32 a.caller)) (hR2 : R[j + 2]? = some (.int .u64 a.number)) (hf : fA2 a) (hl : (l ++ eA2 a).length ≤ 1099511627776) :
  CallG Try.prog 18 [.ptr 0 0 0 1, .ptr 3 0 j 1] [Cw 1 bad, Ww 2 l.length, acc true 1 true (r8 l), Va sz R] (.tup [])
   [Cw 1 (bad || xA2 a), Ww 2 (l ++ eA2 a).length, acc true 1 true (r8 (l ++ eA2 a)), Va sz R] := by
 refine callG Try.func18 low18 (by simp [c18]) ?_
 simp only [c18]
 unfold fA2 at hf
 obtain ⟨l1, e1⟩ : ∃ l1, l1 = l ++ num (uI a.kind) := ⟨_, rfl⟩
 obtain ⟨b1, d1⟩ : ∃ b1, b1 = (bad || decide (11 < uI a.kind)) := ⟨_, rfl⟩
 obtain ⟨l2, e2⟩ : ∃ l2, l2 = l1 ++ num (uI a.caller) := ⟨_, rfl⟩
 obtain ⟨l3, e3⟩ : ∃ l3, l3 = l2 ++ num (uI a.number) := ⟨_, rfl⟩
 have el : l ++ eA2 a = l3 := by rw [e3, e2, e1]; simp only [eA2, List.append_assoc]
 have eb : (bad || xA2 a) = b1 := by rw [d1]; simp only [xA2]
 rw [el] at hl
 rw [el, eb]
 have g2 : l2.length ≤ l3.length := by rw [e3, List.length_append]; omega
 have g1 : l1.length ≤ l2.length := by rw [e2, List.length_append]; omega
 have g0 : l.length ≤ l1.length := by rw [e1, List.length_append]; omega
 have h1 := numI_w l bad sz R j 11 a.kind hR0 hf.1 (by omega) (by omega)
 rw [← e1, ← d1] at h1
 have h2 := name_w l1 b1 sz R (j + 1) a.caller hR1 hf.2.1 (by omega)
 rw [← e2] at h2
 have h3 := big_w l2 b1 sz R (j + 2) a.number hR2 hf.2.2 (by omega)
 rw [← e3] at h3
 clear e1 e2 e3 d1 el eb
 rw [hk] at hR0
 repeat' ((first | apply Run_seq | apply Run_skip | apply Run_block | apply Run_blk | refine Run_exit rfl ?_ | apply Run_ret | apply Run_nil | apply Run_condK | apply Run_ops mixed | with_reducible refine PostG_open ?_ | with_reducible refine ro_callA (f := .c (.fn 32 [])) ?_ | with_reducible refine ro_callA' (f := .c (.fn 32 [])) ?_ | with_reducible refine ro_callA (f := .c (.fn 33 [])) ?_ | with_reducible refine ro_callA' (f := .c (.fn 33 [])) ?_ | with_reducible refine ro_callA (f := .c (.fn 34 [])) ?_ | with_reducible refine ro_callA' (f := .c (.fn 34 [])) ?_ | with_reducible refine ro_callV ?_ | with_reducible refine CallE_use (h1) (by simp) ?_ | with_reducible refine CallE_use (h2) (by simp) ?_ | with_reducible refine CallE_use (h3) (by simp) ?_ | (refine CondK_split ?_ ?_ <;> intro hc <;> (try simp only [hc]) <;> try simp at hc) | (with_reducible refine And.intro ?_ ?_; (focus ((repeat' (with_reducible refine And.intro ?_ ?_)) <;> first | exact trivial | assumption | (simp; done) | (simp only [List.length_map] at *; omega) | omega | (simp [D.cells, D.ok, D.one, D.pt, D.pt1]; done) | exact r8_sz))) | (with_reducible intro x hx) | omega) <;> (try simp only [hR0, Nat.reduceBEq, argEnv, reduceIte, Nat.reduceEqDiff, Nat.reduceAdd, Nat.reduceSub, Nat.reduceLT, reduceCtorEq, binD, binInt, eqD, eqN, boolD, chkD, faddrD, loadD, D.pt1, D.pt0, cond_true, Int.reduceBEq, beq_self_eq_true, mapO, pull, pull2, pull1, pull0, pullσ, pullOb, Go.Vi.freeze, capt, reachL, reachO, isin, merge, mset, renOb, fr, D.ren, D.renL, ofRes, fw]))
 refine GcTo_own [0, 1, 2, 3] (by rfl) (by simp) (by simp [keptW, ObKW, ObW, imp_self, acc_real, acc_nl, acc_pure, acc_fz, acc_sz, acc_rows, acc_spare, D.pt1, D.pt0, pull, pull1, pull0, idx_hit, idx_miss, sucO_some, pullOb, or_false, mapO])
structure fAs (a : As) : Prop where
 kind : Fit a.kind
 caller : 0 ≤ a.caller ∧ a.caller ≤ 4294967295
 number : 0 ≤ a.number ∧ a.number ≤ 18446744073709551615
 id : 0 ≤ a.id ∧ a.id ≤ 4294967295
 se : fSe a.se
 ev : fEv a.ev
 qu : fQu a.qu
 cursor : a.cursor.size ≤ 1099511627776
 count : Fit a.count
 poll : 0 ≤ a.poll ∧ a.poll ≤ 4294967295
 slot : Fit a.slot
 til : Fit a.til
end Go.Proofs.Ytgefljdclekadaa

namespace Go.Proofs.Ytgefljdclekadaa
open Go Go.Vi



def Z42 : List D := [.int .i64 0, .int .u32 0, .int .u64 0, .int .u32 0, .int .u32 0, .int .i64 0, .list (some true) true [], .list (some true) true [], .list (some true) true [], .int .i64 0, .int .i64 0, .int .i64 0, .int .i64 0, .bool false, .bool false, .int .i64 0, .int .i64 0, .int .i64 0, .int .i64 0, .list (some true) true [], .list (some true) true [], .list (some true) true [], .list (some true) true [], .int .i64 0, .list (some true) true [], .list (some true) true [], .list (some true) true [], .int .i64 0, .int .i64 0, .int .i64 0, .int .i64 0, .list (some true) true [], .list (some true) true [], .int .i64 0, .list (some true) true [], .list (some true) true [], .str ⟨#[]⟩, .int .i64 0, .int .u32 0, .int .i64 0, .bool false, .int .i64 0]
def A0 (k c m : Nat) : As := ⟨k, c, m, c, 0, ⟨0, [], [], [], 0, 0⟩, ⟨0, 0, false, false, ⟨0, 0, 0, 0, [], [], [], [], 0⟩, [], [], []⟩, ⟨0, 0, 0, 0, [], [], 0, [], []⟩, ⟨#[]⟩, 0, 0, 0, false, 0⟩
def rA2 (k c m : Nat) (s3 : Rs) : As × Rs :=
 (A0 k c m, s3)
set_option maxHeartbeats 8000000 in
theorem ask2_r (s : Rs) (hk : (rqN 11 s).1 = 2) (hl : s.l.length ≤ 1099511627776) :
  ∃ R', R'.map nl1 = (rA2 (rqN 11 s).1 (rqN 4294967295 (rqN 11 s).2).1 (rqN 18446744073709551615 (rqN 4294967295 (rqN 11 s).2).2).1 (rqN 18446744073709551615 (rqN 4294967295 (rqN 11 s).2).2).2).1.cells ∧
  CallG Try.prog 18 [.ptr 0 0 0 1, .ptr 2 0 0 1] [Cr 1 s.cb, Rd s.l s.rb, Va 42 Z42] (.tup [])
   [Cr 1 (rA2 (rqN 11 s).1 (rqN 4294967295 (rqN 11 s).2).1 (rqN 18446744073709551615 (rqN 4294967295 (rqN 11 s).2).2).1 (rqN 18446744073709551615 (rqN 4294967295 (rqN 11 s).2).2).2).2.cb,
    Rd (rA2 (rqN 11 s).1 (rqN 4294967295 (rqN 11 s).2).1 (rqN 18446744073709551615 (rqN 4294967295 (rqN 11 s).2).2).1 (rqN 18446744073709551615 (rqN 4294967295 (rqN 11 s).2).2).2).2.l
     (rA2 (rqN 11 s).1 (rqN 4294967295 (rqN 11 s).2).1 (rqN 18446744073709551615 (rqN 4294967295 (rqN 11 s).2).2).1 (rqN 18446744073709551615 (rqN 4294967295 (rqN 11 s).2).2).2).2.rb, Va 42 R'] := by
 unfold rA2
 obtain ⟨R, eR⟩ : ∃ R, R = Z42 := ⟨_, rfl⟩
 rw [← eR]
 have hN6 : R[6]? = some (.list (some true) true []) := by subst eR; rfl
 have hN7 : R[7]? = some (.list (some true) true []) := by subst eR; rfl
 have hN8 : R[8]? = some (.list (some true) true []) := by subst eR; rfl
 have hN19 : R[19]? = some (.list (some true) true []) := by subst eR; rfl
 have hN20 : R[20]? = some (.list (some true) true []) := by subst eR; rfl
 have hN21 : R[21]? = some (.list (some true) true []) := by subst eR; rfl
 have hN22 : R[22]? = some (.list (some true) true []) := by subst eR; rfl
 have hN24 : R[24]? = some (.list (some true) true []) := by subst eR; rfl
 have hN25 : R[25]? = some (.list (some true) true []) := by subst eR; rfl
 have hN26 : R[26]? = some (.list (some true) true []) := by subst eR; rfl
 have hN31 : R[31]? = some (.list (some true) true []) := by subst eR; rfl
 have hN32 : R[32]? = some (.list (some true) true []) := by subst eR; rfl
 have hN34 : R[34]? = some (.list (some true) true []) := by subst eR; rfl
 have hN35 : R[35]? = some (.list (some true) true []) := by subst eR; rfl
 have z0 : R.length = 42 := by subst eR; rfl
 have k0 : ∀ x : Nat, True → R[x]? = R[x]? := fun _ _ => rfl
 have g1 := (rqN_le 11 (by omega) s).1
 have h1 : CallG Try.prog 32 [.ptr 0 0 0 1, .ptr 2 0 0 1, .int .u64 11] [Cr 1 s.cb, Rd s.l s.rb, Va 42 R] (.tup []) [Cr 1 (rqN 11 s).2.cb, Rd (rqN 11 s).2.l (rqN 11 s).2.rb, Va 42 (R.set 0 (.int .i64 (((rqN 11 s).1 : Nat) : Int)))] := numI_r s.l s.rb s.cb 42 R 0 11 (by omega) (by omega) (by omega) (by omega)
 generalize rqN 11 s = q1 at h1 g1 hk ⊢
 obtain ⟨v1, s1⟩ := q1
 dsimp only at h1 g1 hk ⊢
 obtain ⟨R1, e1⟩ : ∃ R1, R1 = R.set 0 (.int .i64 ((v1 : Nat) : Int)) := ⟨_, rfl⟩
 rw [← e1] at h1
 have z1 : R1.length = 42 := by rw [e1, List.length_set] <;> exact z0
 have k1 : ∀ x : Nat, x ≠ 0 → R1[x]? = R[x]? := fun x hx => by rw [e1, List.getElem?_set_ne (by omega)] <;> exact k0 x (by omega)
 have g2 := (rqN_le 4294967295 (by omega) s1).1
 have h2 : CallG Try.prog 33 [.ptr 0 0 0 1, .ptr 2 0 1 1] [Cr 1 s1.cb, Rd s1.l s1.rb, Va 42 R1] (.tup []) [Cr 1 (rqN 4294967295 s1).2.cb, Rd (rqN 4294967295 s1).2.l (rqN 4294967295 s1).2.rb, Va 42 (R1.set 1 (.int .u32 (((rqN 4294967295 s1).1 : Nat) : Int)))] := name_r s1.l s1.rb s1.cb 42 R1 1 (by omega) (by omega) (by omega)
 generalize rqN 4294967295 s1 = q2 at h2 g2 ⊢
 obtain ⟨v2, s2⟩ := q2
 dsimp only at h2 g2 ⊢
 obtain ⟨R2, e2⟩ : ∃ R2, R2 = R1.set 1 (.int .u32 ((v2 : Nat) : Int)) := ⟨_, rfl⟩
 rw [← e2] at h2
 have z2 : R2.length = 42 := by rw [e2, List.length_set] <;> exact z1
 have k2 : ∀ x : Nat, x ≠ 0 ∧ x ≠ 1 → R2[x]? = R[x]? := fun x hx => by rw [e2, List.getElem?_set_ne (by omega)] <;> exact k1 x (by omega)
 have g3 := (rqN_le 18446744073709551615 (by omega) s2).1
 have h3 : CallG Try.prog 34 [.ptr 0 0 0 1, .ptr 2 0 2 1, .int .u64 18446744073709551615] [Cr 1 s2.cb, Rd s2.l s2.rb, Va 42 R2] (.tup []) [Cr 1 (rqN 18446744073709551615 s2).2.cb, Rd (rqN 18446744073709551615 s2).2.l (rqN 18446744073709551615 s2).2.rb, Va 42 (R2.set 2 (.int .u64 (((rqN 18446744073709551615 s2).1 : Nat) : Int)))] := numQ_r s2.l s2.rb s2.cb 42 R2 2 18446744073709551615 (by omega) (by omega) (by omega) (by omega)
 generalize rqN 18446744073709551615 s2 = q3 at h3 g3 ⊢
 obtain ⟨v3, s3⟩ := q3
 dsimp only at h3 g3 ⊢
 obtain ⟨R3, e3⟩ : ∃ R3, R3 = R2.set 2 (.int .u64 ((v3 : Nat) : Int)) := ⟨_, rfl⟩
 rw [← e3] at h3
 have z3 : R3.length = 42 := by rw [e3, List.length_set] <;> exact z2
 have k3 : ∀ x : Nat, x ≠ 0 ∧ x ≠ 1 ∧ x ≠ 2 → R3[x]? = R[x]? := fun x hx => by rw [e3, List.getElem?_set_ne (by omega)] <;> exact k2 x (by omega)
 have hB : R3[1]? = some (.int .u32 (v2 : Int)) := by rw [e3, List.getElem?_set_ne (by omega), e2, List.getElem?_set_self (by omega)]
 have hK : (R3.set 3 (.int .u32 (v2 : Int)))[0]? = some (.int .i64 (v1 : Int)) := by rw [List.getElem?_set_ne (by omega), e3, List.getElem?_set_ne (by omega), e2, List.getElem?_set_ne (by omega), e1, List.getElem?_set_self (by omega)]
 have hS : R3.take 3 ++ [.int .u32 (v2 : Int)] ++ R3.drop 4 = R3.set 3 (.int .u32 (v2 : Int)) := spl1 (R := R3) (j := 3) (by omega) _
 have z3 : (R3.set 3 (.int .u32 (v2 : Int))).length = 42 := by rw [List.length_set]; exact z3
 have k3 : ∀ x : Nat, (x ≠ 0 ∧ x ≠ 1 ∧ x ≠ 2 ∧ x ≠ 3) → (R3.set 3 (.int .u32 (v2 : Int)))[x]? = R[x]? := fun x hx => by rw [List.getElem?_set_ne (by omega)] <;> exact k3 x (by omega)
 refine ⟨(R3.set 3 (.int .u32 (v2 : Int))), ?_, ?_⟩
 ·rw [e3, e2, e1, eR] <;> rfl
 have hK : (R3.set 3 (.int .u32 (v2 : Int)))[0]? = some (.int .i64 2) := by rw [hk] at hK; exact hK
 clear eR e1 e2 e3 z1 z2 z3 k0 k1 k2 k3
 refine callG Try.func18 low18 (by simp [c18]) ?_
 simp only [c18]
 repeat' ((first | apply Run_seq | apply Run_skip | apply Run_block | apply Run_blk | refine Run_exit rfl ?_ | apply Run_ret | apply Run_nil | apply Run_condK | apply Run_ops mixed | with_reducible refine PostG_open ?_ | with_reducible refine ro_callA (f := .c (.fn 32 [])) ?_ | with_reducible refine ro_callA' (f := .c (.fn 32 [])) ?_ | with_reducible refine ro_callA (f := .c (.fn 33 [])) ?_ | with_reducible refine ro_callA' (f := .c (.fn 33 [])) ?_ | with_reducible refine ro_callA (f := .c (.fn 34 [])) ?_ | with_reducible refine ro_callA' (f := .c (.fn 34 [])) ?_ | with_reducible refine ro_callV ?_ | with_reducible refine CallE_use (h1) (by simp) ?_ | with_reducible refine CallE_use (h2) (by simp) ?_ | with_reducible refine CallE_use (h3) (by simp) ?_ | (refine CondK_split ?_ ?_ <;> intro hc <;> (try simp only [hc]) <;> try simp at hc) | (with_reducible refine And.intro ?_ ?_; (focus ((repeat' (with_reducible refine And.intro ?_ ?_)) <;> first | exact trivial | assumption | (simp; done) | (simp only [List.length_map] at *; omega) | omega | (simp [D.cells, D.ok, D.one, D.pt, D.pt1]; done) | exact r8_sz))) | (with_reducible intro x hx) | omega) <;> (try simp only [hB, hK, hS, Nat.reduceBEq, argEnv, reduceIte, Nat.reduceEqDiff, Nat.reduceAdd, Nat.reduceSub, Nat.reduceLT, Nat.reduceLeDiff, reduceCtorEq, binD, binInt, eqD, eqN, boolD, chkD, faddrD, loadD, splice, D.cells, D.ok, D.one, D.pt1, D.pt0, cond_true, Int.reduceBEq, beq_self_eq_true, mapO, pull, pull2, pull1, pull0, pullσ, pullOb, Go.Vi.freeze, capt, reachL, reachO, isin, merge, mset, renOb, fr, D.ren, D.renL, ofRes, fw]))
 refine GcTo_own [0, 1, 2] (by rfl) (by simp) (by simp [keptW, ObKW, ObW, imp_self, D.pt1, D.pt0, pull, pull1, pull0, idx_hit, idx_miss, sucO_some, pullOb, or_false, mapO])
end Go.Proofs.Ytgefljdclekadaa
