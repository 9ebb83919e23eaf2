import Derived.Test.YtgefljdclekadaaRME
import Derived.Test.YtgefljdclekadaaVi25
import Derived.Test.YtgefljdclekadaaVi31
set_option linter.unusedVariables false
set_option linter.unusedSimpArgs false
namespace Go.Proofs.Ytgefljdclekadaa
open Go Go.Vi
def ib : List D := [.int .i64 0, .int .u32 0, .int .u64 0, .int .u32 0, .int .u32 0, .int .i64 0, .list (some true) true [], .list (some true) true [], .list (some true) true [], .int .i64 0, .int .i64 0, .int .i64 0, .int .i64 0, .bool false, .bool false, .int .i64 0, .int .i64 0, .int .i64 0, .int .i64 0, .list (some true) true [], .list (some true) true [], .list (some true) true [], .list (some true) true [], .int .i64 0, .list (some true) true [], .list (some true) true [], .list (some true) true [], .int .i64 0, .int .i64 0, .int .i64 0, .int .i64 0, .list (some true) true [], .list (some true) true [], .int .i64 0, .list (some true) true [], .list (some true) true [], .str ⟨#[]⟩, .int .i64 0, .int .u32 0, .int .i64 0, .bool false, .int .i64 0]
def A0 (k c m : Nat) : As := ⟨k, c, m, c, 0, ⟨0, [], [], [], 0, 0⟩, ⟨0, 0, false, false, ⟨0, 0, 0, 0, [], [], [], [], 0⟩, [], [], []⟩, ⟨0, 0, 0, 0, [], [], 0, [], []⟩, ⟨#[]⟩, 0, 0, 0, false, 0⟩
def rL (k c m : Nat) (s3 : Rs) : As × Rs :=
 match ip s3 with
 | (v4, s4) =>
 ({ A0 k c m with se := v4 }, s4)
def tZ (k c m : Nat) (s3 : Rs) : As × Rs :=
 (A0 k c m, s3)
def rD (k c m : Nat) (s3 : Rs) : As × Rs :=
 match aA 4294967295 s3 with
 | (v4, s4) =>
 match ir s4 with
 | (v5, s5) =>
 ({ A0 k c m with id := v4, ev := v5 }, s5)
def sK (k c m : Nat) (s3 : Rs) : As × Rs :=
 match aA 4294967295 s3 with
 | (v4, s4) =>
 ({ A0 k c m with id := v4 }, s4)
def sG (k c m : Nat) (s3 : Rs) : As × Rs :=
 match ew s3 with
 | (v4, s4) =>
 match qc 64 s4 with
 | (v5, s5) =>
 match aA 100 s5 with
 | (v6, s6) =>
 ({ A0 k c m with qu := v4, cursor := v5, count := v6 }, s6)
def sJ (k c m : Nat) (s3 : Rs) : As × Rs :=
 match aA 4294967295 s3 with
 | (v4, s4) =>
 match ew s4 with
 | (v5, s5) =>
 match aA 100 s5 with
 | (v6, s6) =>
 match cw s6 with
 | (v7, s7) =>
 ({ A0 k c m with poll := v4, qu := v5, count := v6, til := v7 }, s7)
def rQ (k c m : Nat) (s3 : Rs) : As × Rs :=
 match aA 4294967295 s3 with
 | (v4, s4) =>
 match aA 40 s4 with
 | (v5, s5) =>
 match gS s5 with
 | (v6, s6) =>
 ({ A0 k c m with poll := v4, slot := v5, yes := v6 }, s6)
def sY (k c m : Nat) (s3 : Rs) : As × Rs :=
 match aA 4294967295 s3 with
 | (v4, s4) =>
 ({ A0 k c m with poll := v4 }, s4)
def sg (k c m : Nat) (s3 : Rs) : As × Rs :=
 match aA 4294967295 s3 with
 | (v4, s4) =>
 match aA 4294967295 s4 with
 | (v5, s5) =>
 ({ A0 k c m with poll := v4, id := v5 }, s5)
def kF (k c m : Nat) (s3 : Rs) : As × Rs :=
 match aA 4294967295 s3 with
 | (v4, s4) =>
 ({ A0 k c m with poll := v4 }, s4)
def kt (k c m : Nat) (s3 : Rs) : As × Rs :=
 match cw s3 with
 | (v4, s4) =>
 ({ A0 k c m with til := v4 }, s4)
def tS (k c m : Nat) (s3 : Rs) : As × Rs :=
 (A0 k c m, ⟨s3.l, s3.rb, true⟩)
def fK (s : Rs) : As × Rs :=
 match aA 11 s with
 | (k, s1) =>
 match aA 4294967295 s1 with
 | (c, s2) =>
 match aA 18446744073709551615 s2 with
 | (m, s3) =>
 if k = 1 then rL k c m s3 else if k = 2 then tZ k c m s3 else if k = 3 then rD k c m s3 else if k = 4 then sK k c m s3 else if k = 5 then sG k c m s3 else if k = 6 then sJ k c m s3 else if k = 7 then rQ k c m s3 else if k = 8 then sY k c m s3 else if k = 9 then sg k c m s3 else if k = 10 then kF k c m s3 else if k = 11 then kt k c m s3 else tS k c m s3
def qA (f : Nat → Nat → Nat → Rs → As × Rs) (s : Rs) : As × Rs := f (aA 11 s).1 (aA 4294967295 (aA 11 s).2).1 (aA 18446744073709551615 (aA 4294967295 (aA 11 s).2).2).1 (aA 18446744073709551615 (aA 4294967295 (aA 11 s).2).2).2
theorem jA {R : List D} (h : R = ib) : R[6]? = some (.list (some true) true []) ∧ R[7]? = some (.list (some true) true []) ∧ R[8]? = some (.list (some true) true []) ∧ R[19]? = some (.list (some true) true []) ∧ R[20]? = some (.list (some true) true []) ∧ R[21]? = some (.list (some true) true []) ∧ R[22]? = some (.list (some true) true []) ∧ R[24]? = some (.list (some true) true []) ∧ R[25]? = some (.list (some true) true []) ∧ R[26]? = some (.list (some true) true []) ∧ R[31]? = some (.list (some true) true []) ∧ R[32]? = some (.list (some true) true []) ∧ R[34]? = some (.list (some true) true []) ∧ R[35]? = some (.list (some true) true []) := by
 subst h
 exact ⟨rfl, rfl, rfl, rfl, rfl, rfl, rfl, rfl, rfl, rfl, rfl, rfl, rfl, rfl⟩
theorem rM (s : Rs) : ((ir s).1.again = true ∧ (ir s).1.world = false) ∨ ((ir s).1.again = false ∧ (ir s).1.rule = Ru0 ∧ (ir s).1.ex = [] ∧ (ir s).1.plus = [] ∧ (ir s).1.ch = []) := by
 unfold ir
 generalize cw s = q1
 obtain ⟨v1, s1⟩ := q1
 dsimp only
 generalize aA 10080 s1 = q2
 obtain ⟨v2, s2⟩ := q2
 dsimp only
 generalize gS s2 = q3
 obtain ⟨v3, s3⟩ := q3
 dsimp only
 split
 ·unfold kT
  generalize fM s3 = q4
  obtain ⟨v4, s4⟩ := q4
  dsimp only
  generalize aM iX 50 s4 = q5
  obtain ⟨v5, s5⟩ := q5
  dsimp only
  generalize aM i5 50 s5 = q6
  obtain ⟨v6, s6⟩ := q6
  dsimp only
  generalize aM jd 50 s6 = q7
  obtain ⟨v7, s7⟩ := q7
  dsimp only
  exact .inl ⟨rfl, rfl⟩
 ·unfold kS
  generalize gS s3 = q4
  obtain ⟨v4, s4⟩ := q4
  dsimp only
  exact .inr ⟨rfl, rfl, rfl, rfl, rfl⟩
set_option maxHeartbeats 8000000 in
theorem xE (s : Rs) (hk : (aA 11 s).1 = 1) (hl : s.l.length ≤ 1099511627776) :
  ∃ R', R'.map gq = (qA rL s).1.cells ∧
  az Try.prog 18 [.ptr 0 0 0 1, .ptr 2 0 0 1] [Cr 1 s.cb, Rd s.l s.rb, Va 42 ib] (.tup [])
   [Cr 1 (qA rL s).2.cb,
    Rd (qA rL s).2.l
     (qA rL s).2.rb, Va 42 R'] := by
 unfold qA rL
 obtain ⟨R, eR⟩ : ∃ R, R = ib := ⟨_, rfl⟩
 rw [← eR]
 obtain ⟨hN6, hN7, hN8, hN19, hN20, hN21, hN22, hN24, hN25, hN26, hN31, hN32, hN34, hN35⟩ := jA eR
 have z0 : R.length = 42 := by subst eR; rfl
 have k0 : ∀ x : Nat, True → R[x]? = R[x]? := fun _ _ => rfl
 have g1 := (aH 11 (by omega) s).1
 have h1 : az Try.prog 32 [.ptr 0 0 0 1, .ptr 2 0 0 1, .int .u64 11] [Cr 1 s.cb, Rd s.l s.rb, Va 42 R] (.tup []) [Cr 1 (aA 11 s).2.cb, Rd (aA 11 s).2.l (aA 11 s).2.rb, Va 42 (R.set 0 (.int .i64 (((aA 11 s).1 : Nat) : Int)))] := bJ s.l s.rb s.cb 42 R 0 11 (by omega) (by omega) (by omega) (by omega)
 generalize aA 11 s = q1 at h1 g1 hk ⊢
 obtain ⟨v1, s1⟩ := q1
 dsimp only at h1 g1 hk ⊢
 obtain ⟨R1, e1⟩ : ∃ R1, R1 = R.set 0 (.int .i64 ((v1 : Nat) : Int)) := ⟨_, rfl⟩
 rw [← e1] at h1
 have z1 : R1.length = 42 := by rw [e1, List.length_set] <;> exact z0
 have k1 : ∀ x : Nat, x ≠ 0 → R1[x]? = R[x]? := fun x hx => by rw [e1, List.getElem?_set_ne (by omega)] <;> exact k0 x (by omega)
 have g2 := (aH 4294967295 (by omega) s1).1
 have h2 : az Try.prog 33 [.ptr 0 0 0 1, .ptr 2 0 1 1] [Cr 1 s1.cb, Rd s1.l s1.rb, Va 42 R1] (.tup []) [Cr 1 (aA 4294967295 s1).2.cb, Rd (aA 4294967295 s1).2.l (aA 4294967295 s1).2.rb, Va 42 (R1.set 1 (.int .u32 (((aA 4294967295 s1).1 : Nat) : Int)))] := cf s1.l s1.rb s1.cb 42 R1 1 (by omega) (by omega) (by omega)
 generalize aA 4294967295 s1 = q2 at h2 g2 ⊢
 obtain ⟨v2, s2⟩ := q2
 dsimp only at h2 g2 ⊢
 obtain ⟨R2, e2⟩ : ∃ R2, R2 = R1.set 1 (.int .u32 ((v2 : Nat) : Int)) := ⟨_, rfl⟩
 rw [← e2] at h2
 have z2 : R2.length = 42 := by rw [e2, List.length_set] <;> exact z1
 have k2 : ∀ x : Nat, x ≠ 0 ∧ x ≠ 1 → R2[x]? = R[x]? := fun x hx => by rw [e2, List.getElem?_set_ne (by omega)] <;> exact k1 x (by omega)
 have g3 := (aH 18446744073709551615 (by omega) s2).1
 have h3 : az Try.prog 34 [.ptr 0 0 0 1, .ptr 2 0 2 1, .int .u64 18446744073709551615] [Cr 1 s2.cb, Rd s2.l s2.rb, Va 42 R2] (.tup []) [Cr 1 (aA 18446744073709551615 s2).2.cb, Rd (aA 18446744073709551615 s2).2.l (aA 18446744073709551615 s2).2.rb, Va 42 (R2.set 2 (.int .u64 (((aA 18446744073709551615 s2).1 : Nat) : Int)))] := cr s2.l s2.rb s2.cb 42 R2 2 18446744073709551615 (by omega) (by omega) (by omega) (by omega)
 generalize aA 18446744073709551615 s2 = q3 at h3 g3 ⊢
 obtain ⟨v3, s3⟩ := q3
 dsimp only at h3 g3 ⊢
 obtain ⟨R3, e3⟩ : ∃ R3, R3 = R2.set 2 (.int .u64 ((v3 : Nat) : Int)) := ⟨_, rfl⟩
 rw [← e3] at h3
 have z3 : R3.length = 42 := by rw [e3, List.length_set] <;> exact z2
 have k3 : ∀ x : Nat, x ≠ 0 ∧ x ≠ 1 ∧ x ≠ 2 → R3[x]? = R[x]? := fun x hx => by rw [e3, List.getElem?_set_ne (by omega)] <;> exact k2 x (by omega)
 have hB : R3[1]? = some (.int .u32 (v2 : Int)) := by rw [e3, List.getElem?_set_ne (by omega), e2, List.getElem?_set_self (by omega)]
 have hK : (R3.set 3 (.int .u32 (v2 : Int)))[0]? = some (.int .i64 (v1 : Int)) := by rw [List.getElem?_set_ne (by omega), e3, List.getElem?_set_ne (by omega), e2, List.getElem?_set_ne (by omega), e1, List.getElem?_set_self (by omega)]
 have hS : R3.take 3 ++ [.int .u32 (v2 : Int)] ++ R3.drop 4 = R3.set 3 (.int .u32 (v2 : Int)) := dt (R := R3) (j := 3) (by omega) _
 have z3 : (R3.set 3 (.int .u32 (v2 : Int))).length = 42 := by rw [List.length_set]; exact z3
 have k3 : ∀ x : Nat, (x ≠ 0 ∧ x ≠ 1 ∧ x ≠ 2 ∧ x ≠ 3) → (R3.set 3 (.int .u32 (v2 : Int)))[x]? = R[x]? := fun x hx => by rw [List.getElem?_set_ne (by omega)] <;> exact k3 x (by omega)
 have g4 := xr s3
 have h4 : az Try.prog 35 [.ptr 0 0 0 1, .ptr 2 0 5 1] [Cr 1 s3.cb, Rd s3.l s3.rb, Va 42 (R3.set 3 (.int .u32 (v2 : Int)))] (.tup []) [Cr 1 (ip s3).2.cb, Rd (ip s3).2.l (ip s3).2.rb, Va 42 (cQ (R3.set 3 (.int .u32 (v2 : Int))) 5 [.int .i64 (ip s3).1.base, L (aS .i64 .i64 (ip s3).1.turns), L (bh (ip s3).1.shifts), L (aI .i64 (ip s3).1.off), .int .i64 (ip s3).1.before, .int .i64 (ip s3).1.after])] := cSe_r s3 42 (R3.set 3 (.int .u32 (v2 : Int))) 5 (by rw [k3 _ (by omega)]; exact hN6) (by rw [k3 _ (by omega)]; exact hN7) (by rw [k3 _ (by omega)]; exact hN8) (by omega) (by omega) (by omega)
 generalize ip s3 = q4 at h4 g4 ⊢
 obtain ⟨v4, s4⟩ := q4
 dsimp only at h4 g4 ⊢
 obtain ⟨R4, e4⟩ : ∃ R4, R4 = cQ (R3.set 3 (.int .u32 (v2 : Int))) 5 [.int .i64 v4.base, L (aS .i64 .i64 v4.turns), L (bh v4.shifts), L (aI .i64 v4.off), .int .i64 v4.before, .int .i64 v4.after] := ⟨_, rfl⟩
 rw [← e4] at h4
 have z4 : R4.length = 42 := by rw [e4, c0] <;> exact z3
 refine ⟨R4, ?_, ?_⟩
 ·rw [e4, e3, e2, e1, eR] <;> rfl
 have hK : (R3.set 3 (.int .u32 (v2 : Int)))[0]? = some (.int .i64 1) := by rw [hk] at hK; exact hK
 clear eR e1 e2 e3 e4 z1 z2 z3 z4 k0 k1 k2 k3
 refine aK Try.func18 low18 (by simp [c18]) ?_
 simp only [c18]
 repeat' ((first | apply ai | apply ah | apply am | apply au | refine aq rfl ?_ | apply al | apply aj | apply ae | apply ak mixed | (with_reducible first | refine af ?_ | refine ar (f := .c (.fn 32 [])) ?_ | refine ar (f := .c (.fn 33 [])) ?_ | refine ar (f := .c (.fn 34 [])) ?_ | refine ar (f := .c (.fn 35 [])) ?_ | refine ao ?_ | refine ab (h1) (by simp) ?_ | refine ab (h2) (by simp) ?_ | refine ab (h3) (by simp) ?_ | refine ab (h4) (by simp) ?_) | (refine aa ?_ ?_ <;> intro hc <;> (try simp only [hc]) <;> try simp at hc) | (with_reducible refine ⟨?_, ?_⟩; (focus ((repeat' with_reducible refine ⟨?_, ?_⟩) <;> first | exact trivial | assumption | (simp; done) | (simp only [List.length_map] at *; omega) | omega | (simp [fs]; done) | exact ay))) | (with_reducible intro x hx) | omega) <;> (try simp only [hB, hK, hS, Nat.reduceBEq, reduceIte, Nat.reduceEqDiff, Nat.reduceAdd, Nat.reduceSub, Nat.reduceLT, Nat.reduceLeDiff, reduceCtorEq, cond_true, beq_self_eq_true, fw, fd]))
 refine aw [0, 1, 2] (by rfl) (by simp) (by simp [fg])
set_option maxHeartbeats 8000000 in
theorem rO (s : Rs) (hk : (aA 11 s).1 = 2) (hl : s.l.length ≤ 1099511627776) :
  ∃ R', R'.map gq = (qA tZ s).1.cells ∧
  az Try.prog 18 [.ptr 0 0 0 1, .ptr 2 0 0 1] [Cr 1 s.cb, Rd s.l s.rb, Va 42 ib] (.tup [])
   [Cr 1 (qA tZ s).2.cb,
    Rd (qA tZ s).2.l
     (qA tZ s).2.rb, Va 42 R'] := by
 unfold qA tZ
 obtain ⟨R, eR⟩ : ∃ R, R = ib := ⟨_, rfl⟩
 rw [← eR]
 obtain ⟨hN6, hN7, hN8, hN19, hN20, hN21, hN22, hN24, hN25, hN26, hN31, hN32, hN34, hN35⟩ := jA eR
 have z0 : R.length = 42 := by subst eR; rfl
 have k0 : ∀ x : Nat, True → R[x]? = R[x]? := fun _ _ => rfl
 have g1 := (aH 11 (by omega) s).1
 have h1 : az Try.prog 32 [.ptr 0 0 0 1, .ptr 2 0 0 1, .int .u64 11] [Cr 1 s.cb, Rd s.l s.rb, Va 42 R] (.tup []) [Cr 1 (aA 11 s).2.cb, Rd (aA 11 s).2.l (aA 11 s).2.rb, Va 42 (R.set 0 (.int .i64 (((aA 11 s).1 : Nat) : Int)))] := bJ s.l s.rb s.cb 42 R 0 11 (by omega) (by omega) (by omega) (by omega)
 generalize aA 11 s = q1 at h1 g1 hk ⊢
 obtain ⟨v1, s1⟩ := q1
 dsimp only at h1 g1 hk ⊢
 obtain ⟨R1, e1⟩ : ∃ R1, R1 = R.set 0 (.int .i64 ((v1 : Nat) : Int)) := ⟨_, rfl⟩
 rw [← e1] at h1
 have z1 : R1.length = 42 := by rw [e1, List.length_set] <;> exact z0
 have k1 : ∀ x : Nat, x ≠ 0 → R1[x]? = R[x]? := fun x hx => by rw [e1, List.getElem?_set_ne (by omega)] <;> exact k0 x (by omega)
 have g2 := (aH 4294967295 (by omega) s1).1
 have h2 : az Try.prog 33 [.ptr 0 0 0 1, .ptr 2 0 1 1] [Cr 1 s1.cb, Rd s1.l s1.rb, Va 42 R1] (.tup []) [Cr 1 (aA 4294967295 s1).2.cb, Rd (aA 4294967295 s1).2.l (aA 4294967295 s1).2.rb, Va 42 (R1.set 1 (.int .u32 (((aA 4294967295 s1).1 : Nat) : Int)))] := cf s1.l s1.rb s1.cb 42 R1 1 (by omega) (by omega) (by omega)
 generalize aA 4294967295 s1 = q2 at h2 g2 ⊢
 obtain ⟨v2, s2⟩ := q2
 dsimp only at h2 g2 ⊢
 obtain ⟨R2, e2⟩ : ∃ R2, R2 = R1.set 1 (.int .u32 ((v2 : Nat) : Int)) := ⟨_, rfl⟩
 rw [← e2] at h2
 have z2 : R2.length = 42 := by rw [e2, List.length_set] <;> exact z1
 have k2 : ∀ x : Nat, x ≠ 0 ∧ x ≠ 1 → R2[x]? = R[x]? := fun x hx => by rw [e2, List.getElem?_set_ne (by omega)] <;> exact k1 x (by omega)
 have g3 := (aH 18446744073709551615 (by omega) s2).1
 have h3 : az Try.prog 34 [.ptr 0 0 0 1, .ptr 2 0 2 1, .int .u64 18446744073709551615] [Cr 1 s2.cb, Rd s2.l s2.rb, Va 42 R2] (.tup []) [Cr 1 (aA 18446744073709551615 s2).2.cb, Rd (aA 18446744073709551615 s2).2.l (aA 18446744073709551615 s2).2.rb, Va 42 (R2.set 2 (.int .u64 (((aA 18446744073709551615 s2).1 : Nat) : Int)))] := cr s2.l s2.rb s2.cb 42 R2 2 18446744073709551615 (by omega) (by omega) (by omega) (by omega)
 generalize aA 18446744073709551615 s2 = q3 at h3 g3 ⊢
 obtain ⟨v3, s3⟩ := q3
 dsimp only at h3 g3 ⊢
 obtain ⟨R3, e3⟩ : ∃ R3, R3 = R2.set 2 (.int .u64 ((v3 : Nat) : Int)) := ⟨_, rfl⟩
 rw [← e3] at h3
 have z3 : R3.length = 42 := by rw [e3, List.length_set] <;> exact z2
 have k3 : ∀ x : Nat, x ≠ 0 ∧ x ≠ 1 ∧ x ≠ 2 → R3[x]? = R[x]? := fun x hx => by rw [e3, List.getElem?_set_ne (by omega)] <;> exact k2 x (by omega)
 have hB : R3[1]? = some (.int .u32 (v2 : Int)) := by rw [e3, List.getElem?_set_ne (by omega), e2, List.getElem?_set_self (by omega)]
 have hK : (R3.set 3 (.int .u32 (v2 : Int)))[0]? = some (.int .i64 (v1 : Int)) := by rw [List.getElem?_set_ne (by omega), e3, List.getElem?_set_ne (by omega), e2, List.getElem?_set_ne (by omega), e1, List.getElem?_set_self (by omega)]
 have hS : R3.take 3 ++ [.int .u32 (v2 : Int)] ++ R3.drop 4 = R3.set 3 (.int .u32 (v2 : Int)) := dt (R := R3) (j := 3) (by omega) _
 have z3 : (R3.set 3 (.int .u32 (v2 : Int))).length = 42 := by rw [List.length_set]; exact z3
 have k3 : ∀ x : Nat, (x ≠ 0 ∧ x ≠ 1 ∧ x ≠ 2 ∧ x ≠ 3) → (R3.set 3 (.int .u32 (v2 : Int)))[x]? = R[x]? := fun x hx => by rw [List.getElem?_set_ne (by omega)] <;> exact k3 x (by omega)
 refine ⟨(R3.set 3 (.int .u32 (v2 : Int))), ?_, ?_⟩
 ·rw [e3, e2, e1, eR] <;> rfl
 have hK : (R3.set 3 (.int .u32 (v2 : Int)))[0]? = some (.int .i64 2) := by rw [hk] at hK; exact hK
 clear eR e1 e2 e3 z1 z2 z3 k0 k1 k2 k3
 refine aK Try.func18 low18 (by simp [c18]) ?_
 simp only [c18]
 repeat' ((first | apply ai | apply ah | apply am | apply au | refine aq rfl ?_ | apply al | apply aj | apply ae | apply ak mixed | (with_reducible first | refine af ?_ | refine ar (f := .c (.fn 32 [])) ?_ | refine ar (f := .c (.fn 33 [])) ?_ | refine ar (f := .c (.fn 34 [])) ?_ | refine ao ?_ | refine ab (h1) (by simp) ?_ | refine ab (h2) (by simp) ?_ | refine ab (h3) (by simp) ?_) | (refine aa ?_ ?_ <;> intro hc <;> (try simp only [hc]) <;> try simp at hc) | (with_reducible refine ⟨?_, ?_⟩; (focus ((repeat' with_reducible refine ⟨?_, ?_⟩) <;> first | exact trivial | assumption | (simp; done) | (simp only [List.length_map] at *; omega) | omega | (simp [fs]; done) | exact ay))) | (with_reducible intro x hx) | omega) <;> (try simp only [hB, hK, hS, Nat.reduceBEq, reduceIte, Nat.reduceEqDiff, Nat.reduceAdd, Nat.reduceSub, Nat.reduceLT, Nat.reduceLeDiff, reduceCtorEq, cond_true, Int.reduceBEq, beq_self_eq_true, fw, fd]))
 refine aw [0, 1, 2] (by rfl) (by simp) (by simp [fg])
set_option maxHeartbeats 8000000 in
theorem wQ (s : Rs) (hk : (aA 11 s).1 = 3) (hl : s.l.length ≤ 1099511627776) :
  ∃ R', R'.map gq = (qA rD s).1.cells ∧
  az Try.prog 18 [.ptr 0 0 0 1, .ptr 2 0 0 1] [Cr 1 s.cb, Rd s.l s.rb, Va 42 ib] (.tup [])
   [Cr 1 (qA rD s).2.cb,
    Rd (qA rD s).2.l
     (qA rD s).2.rb, Va 42 R'] := by
 unfold qA rD
 obtain ⟨R, eR⟩ : ∃ R, R = ib := ⟨_, rfl⟩
 rw [← eR]
 obtain ⟨hN6, hN7, hN8, hN19, hN20, hN21, hN22, hN24, hN25, hN26, hN31, hN32, hN34, hN35⟩ := jA eR
 have z0 : R.length = 42 := by subst eR; rfl
 have k0 : ∀ x : Nat, True → R[x]? = R[x]? := fun _ _ => rfl
 have g1 := (aH 11 (by omega) s).1
 have h1 : az Try.prog 32 [.ptr 0 0 0 1, .ptr 2 0 0 1, .int .u64 11] [Cr 1 s.cb, Rd s.l s.rb, Va 42 R] (.tup []) [Cr 1 (aA 11 s).2.cb, Rd (aA 11 s).2.l (aA 11 s).2.rb, Va 42 (R.set 0 (.int .i64 (((aA 11 s).1 : Nat) : Int)))] := bJ s.l s.rb s.cb 42 R 0 11 (by omega) (by omega) (by omega) (by omega)
 generalize aA 11 s = q1 at h1 g1 hk ⊢
 obtain ⟨v1, s1⟩ := q1
 dsimp only at h1 g1 hk ⊢
 obtain ⟨R1, e1⟩ : ∃ R1, R1 = R.set 0 (.int .i64 ((v1 : Nat) : Int)) := ⟨_, rfl⟩
 rw [← e1] at h1
 have z1 : R1.length = 42 := by rw [e1, List.length_set] <;> exact z0
 have k1 : ∀ x : Nat, x ≠ 0 → R1[x]? = R[x]? := fun x hx => by rw [e1, List.getElem?_set_ne (by omega)] <;> exact k0 x (by omega)
 have g2 := (aH 4294967295 (by omega) s1).1
 have h2 : az Try.prog 33 [.ptr 0 0 0 1, .ptr 2 0 1 1] [Cr 1 s1.cb, Rd s1.l s1.rb, Va 42 R1] (.tup []) [Cr 1 (aA 4294967295 s1).2.cb, Rd (aA 4294967295 s1).2.l (aA 4294967295 s1).2.rb, Va 42 (R1.set 1 (.int .u32 (((aA 4294967295 s1).1 : Nat) : Int)))] := cf s1.l s1.rb s1.cb 42 R1 1 (by omega) (by omega) (by omega)
 generalize aA 4294967295 s1 = q2 at h2 g2 ⊢
 obtain ⟨v2, s2⟩ := q2
 dsimp only at h2 g2 ⊢
 obtain ⟨R2, e2⟩ : ∃ R2, R2 = R1.set 1 (.int .u32 ((v2 : Nat) : Int)) := ⟨_, rfl⟩
 rw [← e2] at h2
 have z2 : R2.length = 42 := by rw [e2, List.length_set] <;> exact z1
 have k2 : ∀ x : Nat, x ≠ 0 ∧ x ≠ 1 → R2[x]? = R[x]? := fun x hx => by rw [e2, List.getElem?_set_ne (by omega)] <;> exact k1 x (by omega)
 have g3 := (aH 18446744073709551615 (by omega) s2).1
 have h3 : az Try.prog 34 [.ptr 0 0 0 1, .ptr 2 0 2 1, .int .u64 18446744073709551615] [Cr 1 s2.cb, Rd s2.l s2.rb, Va 42 R2] (.tup []) [Cr 1 (aA 18446744073709551615 s2).2.cb, Rd (aA 18446744073709551615 s2).2.l (aA 18446744073709551615 s2).2.rb, Va 42 (R2.set 2 (.int .u64 (((aA 18446744073709551615 s2).1 : Nat) : Int)))] := cr s2.l s2.rb s2.cb 42 R2 2 18446744073709551615 (by omega) (by omega) (by omega) (by omega)
 generalize aA 18446744073709551615 s2 = q3 at h3 g3 ⊢
 obtain ⟨v3, s3⟩ := q3
 dsimp only at h3 g3 ⊢
 obtain ⟨R3, e3⟩ : ∃ R3, R3 = R2.set 2 (.int .u64 ((v3 : Nat) : Int)) := ⟨_, rfl⟩
 rw [← e3] at h3
 have z3 : R3.length = 42 := by rw [e3, List.length_set] <;> exact z2
 have k3 : ∀ x : Nat, x ≠ 0 ∧ x ≠ 1 ∧ x ≠ 2 → R3[x]? = R[x]? := fun x hx => by rw [e3, List.getElem?_set_ne (by omega)] <;> exact k2 x (by omega)
 have hB : R3[1]? = some (.int .u32 (v2 : Int)) := by rw [e3, List.getElem?_set_ne (by omega), e2, List.getElem?_set_self (by omega)]
 have hK : (R3.set 3 (.int .u32 (v2 : Int)))[0]? = some (.int .i64 (v1 : Int)) := by rw [List.getElem?_set_ne (by omega), e3, List.getElem?_set_ne (by omega), e2, List.getElem?_set_ne (by omega), e1, List.getElem?_set_self (by omega)]
 have hS : R3.take 3 ++ [.int .u32 (v2 : Int)] ++ R3.drop 4 = R3.set 3 (.int .u32 (v2 : Int)) := dt (R := R3) (j := 3) (by omega) _
 have z3 : (R3.set 3 (.int .u32 (v2 : Int))).length = 42 := by rw [List.length_set]; exact z3
 have k3 : ∀ x : Nat, (x ≠ 0 ∧ x ≠ 1 ∧ x ≠ 2 ∧ x ≠ 3) → (R3.set 3 (.int .u32 (v2 : Int)))[x]? = R[x]? := fun x hx => by rw [List.getElem?_set_ne (by omega)] <;> exact k3 x (by omega)
 have g4 := (aH 4294967295 (by omega) s3).1
 have h4 : az Try.prog 33 [.ptr 0 0 0 1, .ptr 2 0 4 1] [Cr 1 s3.cb, Rd s3.l s3.rb, Va 42 (R3.set 3 (.int .u32 (v2 : Int)))] (.tup []) [Cr 1 (aA 4294967295 s3).2.cb, Rd (aA 4294967295 s3).2.l (aA 4294967295 s3).2.rb, Va 42 ((R3.set 3 (.int .u32 (v2 : Int))).set 4 (.int .u32 (((aA 4294967295 s3).1 : Nat) : Int)))] := cf s3.l s3.rb s3.cb 42 (R3.set 3 (.int .u32 (v2 : Int))) 4 (by omega) (by omega) (by omega)
 generalize aA 4294967295 s3 = q4 at h4 g4 ⊢
 obtain ⟨v4, s4⟩ := q4
 dsimp only at h4 g4 ⊢
 obtain ⟨R4, e4⟩ : ∃ R4, R4 = (R3.set 3 (.int .u32 (v2 : Int))).set 4 (.int .u32 ((v4 : Nat) : Int)) := ⟨_, rfl⟩
 rw [← e4] at h4
 have z4 : R4.length = 42 := by rw [e4, List.length_set] <;> exact z3
 have k4 : ∀ x : Nat, x ≠ 0 ∧ x ≠ 1 ∧ x ≠ 2 ∧ x ≠ 4 ∧ x ≠ 3 → R4[x]? = R[x]? := fun x hx => by rw [e4, List.getElem?_set_ne (by omega)] <;> exact k3 x (by omega)
 have g5 := wP s4
 have h5 : az Try.prog 36 [.ptr 0 0 0 1, .ptr 2 0 11 1] [Cr 1 s4.cb, Rd s4.l s4.rb, Va 42 R4] (.tup []) [Cr 1 (ir s4).2.cb, Rd (ir s4).2.l (ir s4).2.rb, Va 42 (evR R4 11 (ir s4).1)] := cEv_r s4 42 R4 11 (by rw [k4 _ (by omega)]; exact hN19) (by rw [k4 _ (by omega)]; exact hN20) (by rw [k4 _ (by omega)]; exact hN21) (by rw [k4 _ (by omega)]; exact hN22) (by rw [k4 _ (by omega)]; exact hN24) (by rw [k4 _ (by omega)]; exact hN25) (by rw [k4 _ (by omega)]; exact hN26) (by omega) (by omega) (by omega)
 have f := rM s4
 generalize ir s4 = q5 at h5 g5 f ⊢
 obtain ⟨v5, s5⟩ := q5
 dsimp only at h5 g5 f ⊢
 obtain ⟨R5, e5⟩ : ∃ R5, R5 = evR R4 11 v5 := ⟨_, rfl⟩
 rw [← e5] at h5
 refine ⟨R5, ?_, ?_⟩
 ·rw [e5, e4, e3, e2, e1, eR]
  obtain ⟨w1, w2, w3, w4, w5, w6, w7, w8⟩ := v5
  dsimp only at f
  rcases f with ⟨rfl, rfl⟩ | ⟨rfl, rfl, rfl, rfl, rfl⟩ <;> rfl
 have hK : (R3.set 3 (.int .u32 (v2 : Int)))[0]? = some (.int .i64 3) := by rw [hk] at hK; exact hK
 clear eR e1 e2 e3 e4 e5 z1 z2 z3 z4 k0 k1 k2 k3 k4
 refine aK Try.func18 low18 (by simp [c18]) ?_
 simp only [c18]
 repeat' ((first | apply ai | apply ah | apply am | apply au | refine aq rfl ?_ | apply al | apply aj | apply ae | apply ak mixed | (with_reducible first | refine af ?_ | refine ar (f := .c (.fn 32 [])) ?_ | refine ar (f := .c (.fn 33 [])) ?_ | refine ar (f := .c (.fn 34 [])) ?_ | refine ar (f := .c (.fn 36 [])) ?_ | refine ao ?_ | refine ab (h1) (by simp) ?_ | refine ab (h2) (by simp) ?_ | refine ab (h3) (by simp) ?_ | refine ab (h4) (by simp) ?_ | refine ab (h5) (by simp) ?_) | (refine aa ?_ ?_ <;> intro hc <;> (try simp only [hc]) <;> try simp at hc) | (with_reducible refine ⟨?_, ?_⟩; (focus ((repeat' with_reducible refine ⟨?_, ?_⟩) <;> first | exact trivial | assumption | (simp; done) | (simp only [List.length_map] at *; omega) | omega | (simp [fs]; done) | exact ay))) | (with_reducible intro x hx) | omega) <;> (try simp only [hB, hK, hS, Nat.reduceBEq, reduceIte, Nat.reduceEqDiff, Nat.reduceAdd, Nat.reduceSub, Nat.reduceLT, Nat.reduceLeDiff, reduceCtorEq, cond_true, Int.reduceBEq, beq_self_eq_true, fw, fd]))
 refine aw [0, 1, 2] (by rfl) (by simp) (by simp [fg])
set_option maxHeartbeats 8000000 in
theorem w0 (s : Rs) (hk : (aA 11 s).1 = 4) (hl : s.l.length ≤ 1099511627776) :
  ∃ R', R'.map gq = (qA sK s).1.cells ∧
  az Try.prog 18 [.ptr 0 0 0 1, .ptr 2 0 0 1] [Cr 1 s.cb, Rd s.l s.rb, Va 42 ib] (.tup [])
   [Cr 1 (qA sK s).2.cb,
    Rd (qA sK s).2.l
     (qA sK s).2.rb, Va 42 R'] := by
 unfold qA sK
 obtain ⟨R, eR⟩ : ∃ R, R = ib := ⟨_, rfl⟩
 rw [← eR]
 obtain ⟨hN6, hN7, hN8, hN19, hN20, hN21, hN22, hN24, hN25, hN26, hN31, hN32, hN34, hN35⟩ := jA eR
 have z0 : R.length = 42 := by subst eR; rfl
 have k0 : ∀ x : Nat, True → R[x]? = R[x]? := fun _ _ => rfl
 have g1 := (aH 11 (by omega) s).1
 have h1 : az Try.prog 32 [.ptr 0 0 0 1, .ptr 2 0 0 1, .int .u64 11] [Cr 1 s.cb, Rd s.l s.rb, Va 42 R] (.tup []) [Cr 1 (aA 11 s).2.cb, Rd (aA 11 s).2.l (aA 11 s).2.rb, Va 42 (R.set 0 (.int .i64 (((aA 11 s).1 : Nat) : Int)))] := bJ s.l s.rb s.cb 42 R 0 11 (by omega) (by omega) (by omega) (by omega)
 generalize aA 11 s = q1 at h1 g1 hk ⊢
 obtain ⟨v1, s1⟩ := q1
 dsimp only at h1 g1 hk ⊢
 obtain ⟨R1, e1⟩ : ∃ R1, R1 = R.set 0 (.int .i64 ((v1 : Nat) : Int)) := ⟨_, rfl⟩
 rw [← e1] at h1
 have z1 : R1.length = 42 := by rw [e1, List.length_set] <;> exact z0
 have k1 : ∀ x : Nat, x ≠ 0 → R1[x]? = R[x]? := fun x hx => by rw [e1, List.getElem?_set_ne (by omega)] <;> exact k0 x (by omega)
 have g2 := (aH 4294967295 (by omega) s1).1
 have h2 : az Try.prog 33 [.ptr 0 0 0 1, .ptr 2 0 1 1] [Cr 1 s1.cb, Rd s1.l s1.rb, Va 42 R1] (.tup []) [Cr 1 (aA 4294967295 s1).2.cb, Rd (aA 4294967295 s1).2.l (aA 4294967295 s1).2.rb, Va 42 (R1.set 1 (.int .u32 (((aA 4294967295 s1).1 : Nat) : Int)))] := cf s1.l s1.rb s1.cb 42 R1 1 (by omega) (by omega) (by omega)
 generalize aA 4294967295 s1 = q2 at h2 g2 ⊢
 obtain ⟨v2, s2⟩ := q2
 dsimp only at h2 g2 ⊢
 obtain ⟨R2, e2⟩ : ∃ R2, R2 = R1.set 1 (.int .u32 ((v2 : Nat) : Int)) := ⟨_, rfl⟩
 rw [← e2] at h2
 have z2 : R2.length = 42 := by rw [e2, List.length_set] <;> exact z1
 have k2 : ∀ x : Nat, x ≠ 0 ∧ x ≠ 1 → R2[x]? = R[x]? := fun x hx => by rw [e2, List.getElem?_set_ne (by omega)] <;> exact k1 x (by omega)
 have g3 := (aH 18446744073709551615 (by omega) s2).1
 have h3 : az Try.prog 34 [.ptr 0 0 0 1, .ptr 2 0 2 1, .int .u64 18446744073709551615] [Cr 1 s2.cb, Rd s2.l s2.rb, Va 42 R2] (.tup []) [Cr 1 (aA 18446744073709551615 s2).2.cb, Rd (aA 18446744073709551615 s2).2.l (aA 18446744073709551615 s2).2.rb, Va 42 (R2.set 2 (.int .u64 (((aA 18446744073709551615 s2).1 : Nat) : Int)))] := cr s2.l s2.rb s2.cb 42 R2 2 18446744073709551615 (by omega) (by omega) (by omega) (by omega)
 generalize aA 18446744073709551615 s2 = q3 at h3 g3 ⊢
 obtain ⟨v3, s3⟩ := q3
 dsimp only at h3 g3 ⊢
 obtain ⟨R3, e3⟩ : ∃ R3, R3 = R2.set 2 (.int .u64 ((v3 : Nat) : Int)) := ⟨_, rfl⟩
 rw [← e3] at h3
 have z3 : R3.length = 42 := by rw [e3, List.length_set] <;> exact z2
 have k3 : ∀ x : Nat, x ≠ 0 ∧ x ≠ 1 ∧ x ≠ 2 → R3[x]? = R[x]? := fun x hx => by rw [e3, List.getElem?_set_ne (by omega)] <;> exact k2 x (by omega)
 have hB : R3[1]? = some (.int .u32 (v2 : Int)) := by rw [e3, List.getElem?_set_ne (by omega), e2, List.getElem?_set_self (by omega)]
 have hK : (R3.set 3 (.int .u32 (v2 : Int)))[0]? = some (.int .i64 (v1 : Int)) := by rw [List.getElem?_set_ne (by omega), e3, List.getElem?_set_ne (by omega), e2, List.getElem?_set_ne (by omega), e1, List.getElem?_set_self (by omega)]
 have hS : R3.take 3 ++ [.int .u32 (v2 : Int)] ++ R3.drop 4 = R3.set 3 (.int .u32 (v2 : Int)) := dt (R := R3) (j := 3) (by omega) _
 have z3 : (R3.set 3 (.int .u32 (v2 : Int))).length = 42 := by rw [List.length_set]; exact z3
 have k3 : ∀ x : Nat, (x ≠ 0 ∧ x ≠ 1 ∧ x ≠ 2 ∧ x ≠ 3) → (R3.set 3 (.int .u32 (v2 : Int)))[x]? = R[x]? := fun x hx => by rw [List.getElem?_set_ne (by omega)] <;> exact k3 x (by omega)
 have g4 := (aH 4294967295 (by omega) s3).1
 have h4 : az Try.prog 33 [.ptr 0 0 0 1, .ptr 2 0 4 1] [Cr 1 s3.cb, Rd s3.l s3.rb, Va 42 (R3.set 3 (.int .u32 (v2 : Int)))] (.tup []) [Cr 1 (aA 4294967295 s3).2.cb, Rd (aA 4294967295 s3).2.l (aA 4294967295 s3).2.rb, Va 42 ((R3.set 3 (.int .u32 (v2 : Int))).set 4 (.int .u32 (((aA 4294967295 s3).1 : Nat) : Int)))] := cf s3.l s3.rb s3.cb 42 (R3.set 3 (.int .u32 (v2 : Int))) 4 (by omega) (by omega) (by omega)
 generalize aA 4294967295 s3 = q4 at h4 g4 ⊢
 obtain ⟨v4, s4⟩ := q4
 dsimp only at h4 g4 ⊢
 obtain ⟨R4, e4⟩ : ∃ R4, R4 = (R3.set 3 (.int .u32 (v2 : Int))).set 4 (.int .u32 ((v4 : Nat) : Int)) := ⟨_, rfl⟩
 rw [← e4] at h4
 have z4 : R4.length = 42 := by rw [e4, List.length_set] <;> exact z3
 have k4 : ∀ x : Nat, x ≠ 0 ∧ x ≠ 1 ∧ x ≠ 2 ∧ x ≠ 4 ∧ x ≠ 3 → R4[x]? = R[x]? := fun x hx => by rw [e4, List.getElem?_set_ne (by omega)] <;> exact k3 x (by omega)
 refine ⟨R4, ?_, ?_⟩
 ·rw [e4, e3, e2, e1, eR] <;> rfl
 have hK : (R3.set 3 (.int .u32 (v2 : Int)))[0]? = some (.int .i64 4) := by rw [hk] at hK; exact hK
 clear eR e1 e2 e3 e4 z1 z2 z3 z4 k0 k1 k2 k3 k4
 refine aK Try.func18 low18 (by simp [c18]) ?_
 simp only [c18]
 repeat' ((first | apply ai | apply ah | apply am | apply au | refine aq rfl ?_ | apply al | apply aj | apply ae | apply ak mixed | (with_reducible first | refine af ?_ | refine ar (f := .c (.fn 32 [])) ?_ | refine ar (f := .c (.fn 33 [])) ?_ | refine ar (f := .c (.fn 34 [])) ?_ | refine ao ?_ | refine ab (h1) (by simp) ?_ | refine ab (h2) (by simp) ?_ | refine ab (h3) (by simp) ?_ | refine ab (h4) (by simp) ?_) | (refine aa ?_ ?_ <;> intro hc <;> (try simp only [hc]) <;> try simp at hc) | (with_reducible refine ⟨?_, ?_⟩; (focus ((repeat' with_reducible refine ⟨?_, ?_⟩) <;> first | exact trivial | assumption | (simp; done) | (simp only [List.length_map] at *; omega) | omega | (simp [fs]; done) | exact ay))) | (with_reducible intro x hx) | omega) <;> (try simp only [hB, hK, hS, Nat.reduceBEq, reduceIte, Nat.reduceEqDiff, Nat.reduceAdd, Nat.reduceSub, Nat.reduceLT, Nat.reduceLeDiff, reduceCtorEq, cond_true, Int.reduceBEq, beq_self_eq_true, fw, fd]))
 refine aw [0, 1, 2] (by rfl) (by simp) (by simp [fg])
set_option maxHeartbeats 8000000 in
theorem wB (s : Rs) (hk : (aA 11 s).1 = 5) (hl : s.l.length ≤ 1099511627776) :
  ∃ R', R'.map gq = (qA sG s).1.cells ∧
  az Try.prog 18 [.ptr 0 0 0 1, .ptr 2 0 0 1] [Cr 1 s.cb, Rd s.l s.rb, Va 42 ib] (.tup [])
   [Cr 1 (qA sG s).2.cb,
    Rd (qA sG s).2.l
     (qA sG s).2.rb, Va 42 R'] := by
 unfold qA sG
 obtain ⟨R, eR⟩ : ∃ R, R = ib := ⟨_, rfl⟩
 rw [← eR]
 obtain ⟨hN6, hN7, hN8, hN19, hN20, hN21, hN22, hN24, hN25, hN26, hN31, hN32, hN34, hN35⟩ := jA eR
 have z0 : R.length = 42 := by subst eR; rfl
 have k0 : ∀ x : Nat, True → R[x]? = R[x]? := fun _ _ => rfl
 have g1 := (aH 11 (by omega) s).1
 have h1 : az Try.prog 32 [.ptr 0 0 0 1, .ptr 2 0 0 1, .int .u64 11] [Cr 1 s.cb, Rd s.l s.rb, Va 42 R] (.tup []) [Cr 1 (aA 11 s).2.cb, Rd (aA 11 s).2.l (aA 11 s).2.rb, Va 42 (R.set 0 (.int .i64 (((aA 11 s).1 : Nat) : Int)))] := bJ s.l s.rb s.cb 42 R 0 11 (by omega) (by omega) (by omega) (by omega)
 generalize aA 11 s = q1 at h1 g1 hk ⊢
 obtain ⟨v1, s1⟩ := q1
 dsimp only at h1 g1 hk ⊢
 obtain ⟨R1, e1⟩ : ∃ R1, R1 = R.set 0 (.int .i64 ((v1 : Nat) : Int)) := ⟨_, rfl⟩
 rw [← e1] at h1
 have z1 : R1.length = 42 := by rw [e1, List.length_set] <;> exact z0
 have k1 : ∀ x : Nat, x ≠ 0 → R1[x]? = R[x]? := fun x hx => by rw [e1, List.getElem?_set_ne (by omega)] <;> exact k0 x (by omega)
 have g2 := (aH 4294967295 (by omega) s1).1
 have h2 : az Try.prog 33 [.ptr 0 0 0 1, .ptr 2 0 1 1] [Cr 1 s1.cb, Rd s1.l s1.rb, Va 42 R1] (.tup []) [Cr 1 (aA 4294967295 s1).2.cb, Rd (aA 4294967295 s1).2.l (aA 4294967295 s1).2.rb, Va 42 (R1.set 1 (.int .u32 (((aA 4294967295 s1).1 : Nat) : Int)))] := cf s1.l s1.rb s1.cb 42 R1 1 (by omega) (by omega) (by omega)
 generalize aA 4294967295 s1 = q2 at h2 g2 ⊢
 obtain ⟨v2, s2⟩ := q2
 dsimp only at h2 g2 ⊢
 obtain ⟨R2, e2⟩ : ∃ R2, R2 = R1.set 1 (.int .u32 ((v2 : Nat) : Int)) := ⟨_, rfl⟩
 rw [← e2] at h2
 have z2 : R2.length = 42 := by rw [e2, List.length_set] <;> exact z1
 have k2 : ∀ x : Nat, x ≠ 0 ∧ x ≠ 1 → R2[x]? = R[x]? := fun x hx => by rw [e2, List.getElem?_set_ne (by omega)] <;> exact k1 x (by omega)
 have g3 := (aH 18446744073709551615 (by omega) s2).1
 have h3 : az Try.prog 34 [.ptr 0 0 0 1, .ptr 2 0 2 1, .int .u64 18446744073709551615] [Cr 1 s2.cb, Rd s2.l s2.rb, Va 42 R2] (.tup []) [Cr 1 (aA 18446744073709551615 s2).2.cb, Rd (aA 18446744073709551615 s2).2.l (aA 18446744073709551615 s2).2.rb, Va 42 (R2.set 2 (.int .u64 (((aA 18446744073709551615 s2).1 : Nat) : Int)))] := cr s2.l s2.rb s2.cb 42 R2 2 18446744073709551615 (by omega) (by omega) (by omega) (by omega)
 generalize aA 18446744073709551615 s2 = q3 at h3 g3 ⊢
 obtain ⟨v3, s3⟩ := q3
 dsimp only at h3 g3 ⊢
 obtain ⟨R3, e3⟩ : ∃ R3, R3 = R2.set 2 (.int .u64 ((v3 : Nat) : Int)) := ⟨_, rfl⟩
 rw [← e3] at h3
 have z3 : R3.length = 42 := by rw [e3, List.length_set] <;> exact z2
 have k3 : ∀ x : Nat, x ≠ 0 ∧ x ≠ 1 ∧ x ≠ 2 → R3[x]? = R[x]? := fun x hx => by rw [e3, List.getElem?_set_ne (by omega)] <;> exact k2 x (by omega)
 have hB : R3[1]? = some (.int .u32 (v2 : Int)) := by rw [e3, List.getElem?_set_ne (by omega), e2, List.getElem?_set_self (by omega)]
 have hK : (R3.set 3 (.int .u32 (v2 : Int)))[0]? = some (.int .i64 (v1 : Int)) := by rw [List.getElem?_set_ne (by omega), e3, List.getElem?_set_ne (by omega), e2, List.getElem?_set_ne (by omega), e1, List.getElem?_set_self (by omega)]
 have hS : R3.take 3 ++ [.int .u32 (v2 : Int)] ++ R3.drop 4 = R3.set 3 (.int .u32 (v2 : Int)) := dt (R := R3) (j := 3) (by omega) _
 have z3 : (R3.set 3 (.int .u32 (v2 : Int))).length = 42 := by rw [List.length_set]; exact z3
 have k3 : ∀ x : Nat, (x ≠ 0 ∧ x ≠ 1 ∧ x ≠ 2 ∧ x ≠ 3) → (R3.set 3 (.int .u32 (v2 : Int)))[x]? = R[x]? := fun x hx => by rw [List.getElem?_set_ne (by omega)] <;> exact k3 x (by omega)
 have g4 := sw s3
 have h4 : az Try.prog 37 [.ptr 0 0 0 1, .ptr 2 0 27 1] [Cr 1 s3.cb, Rd s3.l s3.rb, Va 42 (R3.set 3 (.int .u32 (v2 : Int)))] (.tup []) [Cr 1 (ew s3).2.cb, Rd (ew s3).2.l (ew s3).2.rb, Va 42 (cQ (R3.set 3 (.int .u32 (v2 : Int))) 27 [.int .i64 (ew s3).1.a, .int .i64 (ew s3).1.b, .int .i64 (ew s3).1.long, .int .i64 (ew s3).1.grid, L (aI .u32 (ew s3).1.must), L (aS .u32 .i64 (ew s3).1.may), .int .i64 (ew s3).1.seats, L (aS .u32 .u32 (ew s3).1.apart), L (bh (ew s3).1.prefer)])] := wb s3 42 (R3.set 3 (.int .u32 (v2 : Int))) 27 (by rw [k3 _ (by omega)]; exact hN31) (by rw [k3 _ (by omega)]; exact hN32) (by rw [k3 _ (by omega)]; exact hN34) (by rw [k3 _ (by omega)]; exact hN35) (by omega) (by omega) (by omega)
 generalize ew s3 = q4 at h4 g4 ⊢
 obtain ⟨v4, s4⟩ := q4
 dsimp only at h4 g4 ⊢
 obtain ⟨R4, e4⟩ : ∃ R4, R4 = cQ (R3.set 3 (.int .u32 (v2 : Int))) 27 [.int .i64 v4.a, .int .i64 v4.b, .int .i64 v4.long, .int .i64 v4.grid, L (aI .u32 v4.must), L (aS .u32 .i64 v4.may), .int .i64 v4.seats, L (aS .u32 .u32 v4.apart), L (bh v4.prefer)] := ⟨_, rfl⟩
 rw [← e4] at h4
 have z4 : R4.length = 42 := by rw [e4, c0] <;> exact z3
 have g5 := xF 64 (by omega) s4
 have h5 : az Try.prog 38 [.ptr 0 0 0 1, .ptr 2 0 36 1, .int .i64 64] [Cr 1 s4.cb, Rd s4.l s4.rb, Va 42 R4] (.tup []) [Cr 1 (qc 64 s4).2.cb, Rd (qc 64 s4).2.l (qc 64 s4).2.rb, Va 42 (R4.set 36 (.str (qc 64 s4).1))] := xX s4.l s4.rb s4.cb 42 R4 36 64 (by omega) (by omega) (by omega) (by omega)
 generalize qc 64 s4 = q5 at h5 g5 ⊢
 obtain ⟨v5, s5⟩ := q5
 dsimp only at h5 g5 ⊢
 obtain ⟨R5, e5⟩ : ∃ R5, R5 = R4.set 36 (.str v5) := ⟨_, rfl⟩
 rw [← e5] at h5
 have z5 : R5.length = 42 := by rw [e5, List.length_set] <;> exact z4
 have g6 := (aH 100 (by omega) s5).1
 have h6 : az Try.prog 32 [.ptr 0 0 0 1, .ptr 2 0 37 1, .int .u64 100] [Cr 1 s5.cb, Rd s5.l s5.rb, Va 42 R5] (.tup []) [Cr 1 (aA 100 s5).2.cb, Rd (aA 100 s5).2.l (aA 100 s5).2.rb, Va 42 (R5.set 37 (.int .i64 (((aA 100 s5).1 : Nat) : Int)))] := bJ s5.l s5.rb s5.cb 42 R5 37 100 (by omega) (by omega) (by omega) (by omega)
 generalize aA 100 s5 = q6 at h6 g6 ⊢
 obtain ⟨v6, s6⟩ := q6
 dsimp only at h6 g6 ⊢
 obtain ⟨R6, e6⟩ : ∃ R6, R6 = R5.set 37 (.int .i64 ((v6 : Nat) : Int)) := ⟨_, rfl⟩
 rw [← e6] at h6
 have z6 : R6.length = 42 := by rw [e6, List.length_set] <;> exact z5
 refine ⟨R6, ?_, ?_⟩
 ·rw [e6, e5, e4, e3, e2, e1, eR] <;> rfl
 have hK : (R3.set 3 (.int .u32 (v2 : Int)))[0]? = some (.int .i64 5) := by rw [hk] at hK; exact hK
 clear eR e1 e2 e3 e4 e5 e6 z1 z2 z3 z4 z5 z6 k0 k1 k2 k3
 refine aK Try.func18 low18 (by simp [c18]) ?_
 simp only [c18]
 repeat' ((first | apply ai | apply ah | apply am | apply au | refine aq rfl ?_ | apply al | apply aj | apply ae | apply ak mixed | (with_reducible first | refine af ?_ | refine ar (f := .c (.fn 32 [])) ?_ | refine ar (f := .c (.fn 33 [])) ?_ | refine ar (f := .c (.fn 34 [])) ?_ | refine ar (f := .c (.fn 37 [])) ?_ | refine ar (f := .c (.fn 38 [])) ?_ | refine ao ?_ | refine ab (h1) (by simp) ?_ | refine ab (h2) (by simp) ?_ | refine ab (h3) (by simp) ?_ | refine ab (h4) (by simp) ?_ | refine ab (h5) (by simp) ?_ | refine ab (h6) (by simp) ?_) | (refine aa ?_ ?_ <;> intro hc <;> (try simp only [hc]) <;> try simp at hc) | (with_reducible refine ⟨?_, ?_⟩; (focus ((repeat' with_reducible refine ⟨?_, ?_⟩) <;> first | exact trivial | assumption | (simp; done) | (simp only [List.length_map] at *; omega) | omega | (simp [fs]; done) | exact ay))) | (with_reducible intro x hx) | omega) <;> (try simp only [hB, hK, hS, Nat.reduceBEq, reduceIte, Nat.reduceEqDiff, Nat.reduceAdd, Nat.reduceSub, Nat.reduceLT, Nat.reduceLeDiff, reduceCtorEq, cond_true, Int.reduceBEq, beq_self_eq_true, fw, fd]))
 refine aw [0, 1, 2] (by rfl) (by simp) (by simp [fg])
set_option maxHeartbeats 8000000 in
theorem xT (s : Rs) (hk : (aA 11 s).1 = 6) (hl : s.l.length ≤ 1099511627776) :
  ∃ R', R'.map gq = (qA sJ s).1.cells ∧
  az Try.prog 18 [.ptr 0 0 0 1, .ptr 2 0 0 1] [Cr 1 s.cb, Rd s.l s.rb, Va 42 ib] (.tup [])
   [Cr 1 (qA sJ s).2.cb,
    Rd (qA sJ s).2.l
     (qA sJ s).2.rb, Va 42 R'] := by
 unfold qA sJ
 obtain ⟨R, eR⟩ : ∃ R, R = ib := ⟨_, rfl⟩
 rw [← eR]
 obtain ⟨hN6, hN7, hN8, hN19, hN20, hN21, hN22, hN24, hN25, hN26, hN31, hN32, hN34, hN35⟩ := jA eR
 have z0 : R.length = 42 := by subst eR; rfl
 have k0 : ∀ x : Nat, True → R[x]? = R[x]? := fun _ _ => rfl
 have g1 := (aH 11 (by omega) s).1
 have h1 : az Try.prog 32 [.ptr 0 0 0 1, .ptr 2 0 0 1, .int .u64 11] [Cr 1 s.cb, Rd s.l s.rb, Va 42 R] (.tup []) [Cr 1 (aA 11 s).2.cb, Rd (aA 11 s).2.l (aA 11 s).2.rb, Va 42 (R.set 0 (.int .i64 (((aA 11 s).1 : Nat) : Int)))] := bJ s.l s.rb s.cb 42 R 0 11 (by omega) (by omega) (by omega) (by omega)
 generalize aA 11 s = q1 at h1 g1 hk ⊢
 obtain ⟨v1, s1⟩ := q1
 dsimp only at h1 g1 hk ⊢
 obtain ⟨R1, e1⟩ : ∃ R1, R1 = R.set 0 (.int .i64 ((v1 : Nat) : Int)) := ⟨_, rfl⟩
 rw [← e1] at h1
 have z1 : R1.length = 42 := by rw [e1, List.length_set] <;> exact z0
 have k1 : ∀ x : Nat, x ≠ 0 → R1[x]? = R[x]? := fun x hx => by rw [e1, List.getElem?_set_ne (by omega)] <;> exact k0 x (by omega)
 have g2 := (aH 4294967295 (by omega) s1).1
 have h2 : az Try.prog 33 [.ptr 0 0 0 1, .ptr 2 0 1 1] [Cr 1 s1.cb, Rd s1.l s1.rb, Va 42 R1] (.tup []) [Cr 1 (aA 4294967295 s1).2.cb, Rd (aA 4294967295 s1).2.l (aA 4294967295 s1).2.rb, Va 42 (R1.set 1 (.int .u32 (((aA 4294967295 s1).1 : Nat) : Int)))] := cf s1.l s1.rb s1.cb 42 R1 1 (by omega) (by omega) (by omega)
 generalize aA 4294967295 s1 = q2 at h2 g2 ⊢
 obtain ⟨v2, s2⟩ := q2
 dsimp only at h2 g2 ⊢
 obtain ⟨R2, e2⟩ : ∃ R2, R2 = R1.set 1 (.int .u32 ((v2 : Nat) : Int)) := ⟨_, rfl⟩
 rw [← e2] at h2
 have z2 : R2.length = 42 := by rw [e2, List.length_set] <;> exact z1
 have k2 : ∀ x : Nat, x ≠ 0 ∧ x ≠ 1 → R2[x]? = R[x]? := fun x hx => by rw [e2, List.getElem?_set_ne (by omega)] <;> exact k1 x (by omega)
 have g3 := (aH 18446744073709551615 (by omega) s2).1
 have h3 : az Try.prog 34 [.ptr 0 0 0 1, .ptr 2 0 2 1, .int .u64 18446744073709551615] [Cr 1 s2.cb, Rd s2.l s2.rb, Va 42 R2] (.tup []) [Cr 1 (aA 18446744073709551615 s2).2.cb, Rd (aA 18446744073709551615 s2).2.l (aA 18446744073709551615 s2).2.rb, Va 42 (R2.set 2 (.int .u64 (((aA 18446744073709551615 s2).1 : Nat) : Int)))] := cr s2.l s2.rb s2.cb 42 R2 2 18446744073709551615 (by omega) (by omega) (by omega) (by omega)
 generalize aA 18446744073709551615 s2 = q3 at h3 g3 ⊢
 obtain ⟨v3, s3⟩ := q3
 dsimp only at h3 g3 ⊢
 obtain ⟨R3, e3⟩ : ∃ R3, R3 = R2.set 2 (.int .u64 ((v3 : Nat) : Int)) := ⟨_, rfl⟩
 rw [← e3] at h3
 have z3 : R3.length = 42 := by rw [e3, List.length_set] <;> exact z2
 have k3 : ∀ x : Nat, x ≠ 0 ∧ x ≠ 1 ∧ x ≠ 2 → R3[x]? = R[x]? := fun x hx => by rw [e3, List.getElem?_set_ne (by omega)] <;> exact k2 x (by omega)
 have hB : R3[1]? = some (.int .u32 (v2 : Int)) := by rw [e3, List.getElem?_set_ne (by omega), e2, List.getElem?_set_self (by omega)]
 have hK : (R3.set 3 (.int .u32 (v2 : Int)))[0]? = some (.int .i64 (v1 : Int)) := by rw [List.getElem?_set_ne (by omega), e3, List.getElem?_set_ne (by omega), e2, List.getElem?_set_ne (by omega), e1, List.getElem?_set_self (by omega)]
 have hS : R3.take 3 ++ [.int .u32 (v2 : Int)] ++ R3.drop 4 = R3.set 3 (.int .u32 (v2 : Int)) := dt (R := R3) (j := 3) (by omega) _
 have z3 : (R3.set 3 (.int .u32 (v2 : Int))).length = 42 := by rw [List.length_set]; exact z3
 have k3 : ∀ x : Nat, (x ≠ 0 ∧ x ≠ 1 ∧ x ≠ 2 ∧ x ≠ 3) → (R3.set 3 (.int .u32 (v2 : Int)))[x]? = R[x]? := fun x hx => by rw [List.getElem?_set_ne (by omega)] <;> exact k3 x (by omega)
 have g4 := (aH 4294967295 (by omega) s3).1
 have h4 : az Try.prog 33 [.ptr 0 0 0 1, .ptr 2 0 38 1] [Cr 1 s3.cb, Rd s3.l s3.rb, Va 42 (R3.set 3 (.int .u32 (v2 : Int)))] (.tup []) [Cr 1 (aA 4294967295 s3).2.cb, Rd (aA 4294967295 s3).2.l (aA 4294967295 s3).2.rb, Va 42 ((R3.set 3 (.int .u32 (v2 : Int))).set 38 (.int .u32 (((aA 4294967295 s3).1 : Nat) : Int)))] := cf s3.l s3.rb s3.cb 42 (R3.set 3 (.int .u32 (v2 : Int))) 38 (by omega) (by omega) (by omega)
 generalize aA 4294967295 s3 = q4 at h4 g4 ⊢
 obtain ⟨v4, s4⟩ := q4
 dsimp only at h4 g4 ⊢
 obtain ⟨R4, e4⟩ : ∃ R4, R4 = (R3.set 3 (.int .u32 (v2 : Int))).set 38 (.int .u32 ((v4 : Nat) : Int)) := ⟨_, rfl⟩
 rw [← e4] at h4
 have z4 : R4.length = 42 := by rw [e4, List.length_set] <;> exact z3
 have k4 : ∀ x : Nat, x ≠ 0 ∧ x ≠ 1 ∧ x ≠ 2 ∧ x ≠ 38 ∧ x ≠ 3 → R4[x]? = R[x]? := fun x hx => by rw [e4, List.getElem?_set_ne (by omega)] <;> exact k3 x (by omega)
 have g5 := sw s4
 have h5 : az Try.prog 37 [.ptr 0 0 0 1, .ptr 2 0 27 1] [Cr 1 s4.cb, Rd s4.l s4.rb, Va 42 R4] (.tup []) [Cr 1 (ew s4).2.cb, Rd (ew s4).2.l (ew s4).2.rb, Va 42 (cQ R4 27 [.int .i64 (ew s4).1.a, .int .i64 (ew s4).1.b, .int .i64 (ew s4).1.long, .int .i64 (ew s4).1.grid, L (aI .u32 (ew s4).1.must), L (aS .u32 .i64 (ew s4).1.may), .int .i64 (ew s4).1.seats, L (aS .u32 .u32 (ew s4).1.apart), L (bh (ew s4).1.prefer)])] := wb s4 42 R4 27 (by rw [k4 _ (by omega)]; exact hN31) (by rw [k4 _ (by omega)]; exact hN32) (by rw [k4 _ (by omega)]; exact hN34) (by rw [k4 _ (by omega)]; exact hN35) (by omega) (by omega) (by omega)
 generalize ew s4 = q5 at h5 g5 ⊢
 obtain ⟨v5, s5⟩ := q5
 dsimp only at h5 g5 ⊢
 obtain ⟨R5, e5⟩ : ∃ R5, R5 = cQ R4 27 [.int .i64 v5.a, .int .i64 v5.b, .int .i64 v5.long, .int .i64 v5.grid, L (aI .u32 v5.must), L (aS .u32 .i64 v5.may), .int .i64 v5.seats, L (aS .u32 .u32 v5.apart), L (bh v5.prefer)] := ⟨_, rfl⟩
 rw [← e5] at h5
 have z5 : R5.length = 42 := by rw [e5, c0] <;> exact z4
 have g6 := (aH 100 (by omega) s5).1
 have h6 : az Try.prog 32 [.ptr 0 0 0 1, .ptr 2 0 37 1, .int .u64 100] [Cr 1 s5.cb, Rd s5.l s5.rb, Va 42 R5] (.tup []) [Cr 1 (aA 100 s5).2.cb, Rd (aA 100 s5).2.l (aA 100 s5).2.rb, Va 42 (R5.set 37 (.int .i64 (((aA 100 s5).1 : Nat) : Int)))] := bJ s5.l s5.rb s5.cb 42 R5 37 100 (by omega) (by omega) (by omega) (by omega)
 generalize aA 100 s5 = q6 at h6 g6 ⊢
 obtain ⟨v6, s6⟩ := q6
 dsimp only at h6 g6 ⊢
 obtain ⟨R6, e6⟩ : ∃ R6, R6 = R5.set 37 (.int .i64 ((v6 : Nat) : Int)) := ⟨_, rfl⟩
 rw [← e6] at h6
 have z6 : R6.length = 42 := by rw [e6, List.length_set] <;> exact z5
 have g7 := cG s6
 have h7 : az Try.prog 39 [.ptr 0 0 0 1, .ptr 2 0 41 1] [Cr 1 s6.cb, Rd s6.l s6.rb, Va 42 R6] (.tup []) [Cr 1 (cw s6).2.cb, Rd (cw s6).2.l (cw s6).2.rb, Va 42 (R6.set 41 (.int .i64 ((cw s6).1 : Int)))] := cF s6.l s6.rb s6.cb 42 R6 41 (by omega) (by omega) (by omega)
 generalize cw s6 = q7 at h7 g7 ⊢
 obtain ⟨v7, s7⟩ := q7
 dsimp only at h7 g7 ⊢
 obtain ⟨R7, e7⟩ : ∃ R7, R7 = R6.set 41 (.int .i64 (v7 : Int)) := ⟨_, rfl⟩
 rw [← e7] at h7
 have z7 : R7.length = 42 := by rw [e7, List.length_set] <;> exact z6
 refine ⟨R7, ?_, ?_⟩
 ·rw [e7, e6, e5, e4, e3, e2, e1, eR] <;> rfl
 have hK : (R3.set 3 (.int .u32 (v2 : Int)))[0]? = some (.int .i64 6) := by rw [hk] at hK; exact hK
 clear eR e1 e2 e3 e4 e5 e6 e7 z1 z2 z3 z4 z5 z6 z7 k0 k1 k2 k3 k4
 refine aK Try.func18 low18 (by simp [c18]) ?_
 simp only [c18]
 repeat' ((first | apply ai | apply ah | apply am | apply au | refine aq rfl ?_ | apply al | apply aj | apply ae | apply ak mixed | (with_reducible first | refine af ?_ | refine ar (f := .c (.fn 32 [])) ?_ | refine ar (f := .c (.fn 33 [])) ?_ | refine ar (f := .c (.fn 34 [])) ?_ | refine ar (f := .c (.fn 37 [])) ?_ | refine ar (f := .c (.fn 39 [])) ?_ | refine ao ?_ | refine ab (h1) (by simp) ?_ | refine ab (h2) (by simp) ?_ | refine ab (h3) (by simp) ?_ | refine ab (h4) (by simp) ?_ | refine ab (h5) (by simp) ?_ | refine ab (h6) (by simp) ?_ | refine ab (h7) (by simp) ?_) | (refine aa ?_ ?_ <;> intro hc <;> (try simp only [hc]) <;> try simp at hc) | (with_reducible refine ⟨?_, ?_⟩; (focus ((repeat' with_reducible refine ⟨?_, ?_⟩) <;> first | exact trivial | assumption | (simp; done) | (simp only [List.length_map] at *; omega) | omega | (simp [fs]; done) | exact ay))) | (with_reducible intro x hx) | omega) <;> (try simp only [hB, hK, hS, Nat.reduceBEq, reduceIte, Nat.reduceEqDiff, Nat.reduceAdd, Nat.reduceSub, Nat.reduceLT, Nat.reduceLeDiff, reduceCtorEq, cond_true, Int.reduceBEq, beq_self_eq_true, fw, fd]))
 refine aw [0, 1, 2] (by rfl) (by simp) (by simp [fg])
set_option maxHeartbeats 8000000 in
theorem wD (s : Rs) (hk : (aA 11 s).1 = 7) (hl : s.l.length ≤ 1099511627776) :
  ∃ R', R'.map gq = (qA rQ s).1.cells ∧
  az Try.prog 18 [.ptr 0 0 0 1, .ptr 2 0 0 1] [Cr 1 s.cb, Rd s.l s.rb, Va 42 ib] (.tup [])
   [Cr 1 (qA rQ s).2.cb,
    Rd (qA rQ s).2.l
     (qA rQ s).2.rb, Va 42 R'] := by
 unfold qA rQ
 obtain ⟨R, eR⟩ : ∃ R, R = ib := ⟨_, rfl⟩
 rw [← eR]
 obtain ⟨hN6, hN7, hN8, hN19, hN20, hN21, hN22, hN24, hN25, hN26, hN31, hN32, hN34, hN35⟩ := jA eR
 have z0 : R.length = 42 := by subst eR; rfl
 have k0 : ∀ x : Nat, True → R[x]? = R[x]? := fun _ _ => rfl
 have g1 := (aH 11 (by omega) s).1
 have h1 : az Try.prog 32 [.ptr 0 0 0 1, .ptr 2 0 0 1, .int .u64 11] [Cr 1 s.cb, Rd s.l s.rb, Va 42 R] (.tup []) [Cr 1 (aA 11 s).2.cb, Rd (aA 11 s).2.l (aA 11 s).2.rb, Va 42 (R.set 0 (.int .i64 (((aA 11 s).1 : Nat) : Int)))] := bJ s.l s.rb s.cb 42 R 0 11 (by omega) (by omega) (by omega) (by omega)
 generalize aA 11 s = q1 at h1 g1 hk ⊢
 obtain ⟨v1, s1⟩ := q1
 dsimp only at h1 g1 hk ⊢
 obtain ⟨R1, e1⟩ : ∃ R1, R1 = R.set 0 (.int .i64 ((v1 : Nat) : Int)) := ⟨_, rfl⟩
 rw [← e1] at h1
 have z1 : R1.length = 42 := by rw [e1, List.length_set] <;> exact z0
 have k1 : ∀ x : Nat, x ≠ 0 → R1[x]? = R[x]? := fun x hx => by rw [e1, List.getElem?_set_ne (by omega)] <;> exact k0 x (by omega)
 have g2 := (aH 4294967295 (by omega) s1).1
 have h2 : az Try.prog 33 [.ptr 0 0 0 1, .ptr 2 0 1 1] [Cr 1 s1.cb, Rd s1.l s1.rb, Va 42 R1] (.tup []) [Cr 1 (aA 4294967295 s1).2.cb, Rd (aA 4294967295 s1).2.l (aA 4294967295 s1).2.rb, Va 42 (R1.set 1 (.int .u32 (((aA 4294967295 s1).1 : Nat) : Int)))] := cf s1.l s1.rb s1.cb 42 R1 1 (by omega) (by omega) (by omega)
 generalize aA 4294967295 s1 = q2 at h2 g2 ⊢
 obtain ⟨v2, s2⟩ := q2
 dsimp only at h2 g2 ⊢
 obtain ⟨R2, e2⟩ : ∃ R2, R2 = R1.set 1 (.int .u32 ((v2 : Nat) : Int)) := ⟨_, rfl⟩
 rw [← e2] at h2
 have z2 : R2.length = 42 := by rw [e2, List.length_set] <;> exact z1
 have k2 : ∀ x : Nat, x ≠ 0 ∧ x ≠ 1 → R2[x]? = R[x]? := fun x hx => by rw [e2, List.getElem?_set_ne (by omega)] <;> exact k1 x (by omega)
 have g3 := (aH 18446744073709551615 (by omega) s2).1
 have h3 : az Try.prog 34 [.ptr 0 0 0 1, .ptr 2 0 2 1, .int .u64 18446744073709551615] [Cr 1 s2.cb, Rd s2.l s2.rb, Va 42 R2] (.tup []) [Cr 1 (aA 18446744073709551615 s2).2.cb, Rd (aA 18446744073709551615 s2).2.l (aA 18446744073709551615 s2).2.rb, Va 42 (R2.set 2 (.int .u64 (((aA 18446744073709551615 s2).1 : Nat) : Int)))] := cr s2.l s2.rb s2.cb 42 R2 2 18446744073709551615 (by omega) (by omega) (by omega) (by omega)
 generalize aA 18446744073709551615 s2 = q3 at h3 g3 ⊢
 obtain ⟨v3, s3⟩ := q3
 dsimp only at h3 g3 ⊢
 obtain ⟨R3, e3⟩ : ∃ R3, R3 = R2.set 2 (.int .u64 ((v3 : Nat) : Int)) := ⟨_, rfl⟩
 rw [← e3] at h3
 have z3 : R3.length = 42 := by rw [e3, List.length_set] <;> exact z2
 have k3 : ∀ x : Nat, x ≠ 0 ∧ x ≠ 1 ∧ x ≠ 2 → R3[x]? = R[x]? := fun x hx => by rw [e3, List.getElem?_set_ne (by omega)] <;> exact k2 x (by omega)
 have hB : R3[1]? = some (.int .u32 (v2 : Int)) := by rw [e3, List.getElem?_set_ne (by omega), e2, List.getElem?_set_self (by omega)]
 have hK : (R3.set 3 (.int .u32 (v2 : Int)))[0]? = some (.int .i64 (v1 : Int)) := by rw [List.getElem?_set_ne (by omega), e3, List.getElem?_set_ne (by omega), e2, List.getElem?_set_ne (by omega), e1, List.getElem?_set_self (by omega)]
 have hS : R3.take 3 ++ [.int .u32 (v2 : Int)] ++ R3.drop 4 = R3.set 3 (.int .u32 (v2 : Int)) := dt (R := R3) (j := 3) (by omega) _
 have z3 : (R3.set 3 (.int .u32 (v2 : Int))).length = 42 := by rw [List.length_set]; exact z3
 have k3 : ∀ x : Nat, (x ≠ 0 ∧ x ≠ 1 ∧ x ≠ 2 ∧ x ≠ 3) → (R3.set 3 (.int .u32 (v2 : Int)))[x]? = R[x]? := fun x hx => by rw [List.getElem?_set_ne (by omega)] <;> exact k3 x (by omega)
 have g4 := (aH 4294967295 (by omega) s3).1
 have h4 : az Try.prog 33 [.ptr 0 0 0 1, .ptr 2 0 38 1] [Cr 1 s3.cb, Rd s3.l s3.rb, Va 42 (R3.set 3 (.int .u32 (v2 : Int)))] (.tup []) [Cr 1 (aA 4294967295 s3).2.cb, Rd (aA 4294967295 s3).2.l (aA 4294967295 s3).2.rb, Va 42 ((R3.set 3 (.int .u32 (v2 : Int))).set 38 (.int .u32 (((aA 4294967295 s3).1 : Nat) : Int)))] := cf s3.l s3.rb s3.cb 42 (R3.set 3 (.int .u32 (v2 : Int))) 38 (by omega) (by omega) (by omega)
 generalize aA 4294967295 s3 = q4 at h4 g4 ⊢
 obtain ⟨v4, s4⟩ := q4
 dsimp only at h4 g4 ⊢
 obtain ⟨R4, e4⟩ : ∃ R4, R4 = (R3.set 3 (.int .u32 (v2 : Int))).set 38 (.int .u32 ((v4 : Nat) : Int)) := ⟨_, rfl⟩
 rw [← e4] at h4
 have z4 : R4.length = 42 := by rw [e4, List.length_set] <;> exact z3
 have k4 : ∀ x : Nat, x ≠ 0 ∧ x ≠ 1 ∧ x ≠ 2 ∧ x ≠ 38 ∧ x ≠ 3 → R4[x]? = R[x]? := fun x hx => by rw [e4, List.getElem?_set_ne (by omega)] <;> exact k3 x (by omega)
 have g5 := (aH 40 (by omega) s4).1
 have h5 : az Try.prog 32 [.ptr 0 0 0 1, .ptr 2 0 39 1, .int .u64 40] [Cr 1 s4.cb, Rd s4.l s4.rb, Va 42 R4] (.tup []) [Cr 1 (aA 40 s4).2.cb, Rd (aA 40 s4).2.l (aA 40 s4).2.rb, Va 42 (R4.set 39 (.int .i64 (((aA 40 s4).1 : Nat) : Int)))] := bJ s4.l s4.rb s4.cb 42 R4 39 40 (by omega) (by omega) (by omega) (by omega)
 generalize aA 40 s4 = q5 at h5 g5 ⊢
 obtain ⟨v5, s5⟩ := q5
 dsimp only at h5 g5 ⊢
 obtain ⟨R5, e5⟩ : ∃ R5, R5 = R4.set 39 (.int .i64 ((v5 : Nat) : Int)) := ⟨_, rfl⟩
 rw [← e5] at h5
 have z5 : R5.length = 42 := by rw [e5, List.length_set] <;> exact z4
 have k5 : ∀ x : Nat, x ≠ 0 ∧ x ≠ 1 ∧ x ≠ 2 ∧ x ≠ 38 ∧ x ≠ 39 ∧ x ≠ 3 → R5[x]? = R[x]? := fun x hx => by rw [e5, List.getElem?_set_ne (by omega)] <;> exact k4 x (by omega)
 have g6 := jY s5
 have h6 : az Try.prog 40 [.ptr 0 0 0 1, .ptr 2 0 40 1] [Cr 1 s5.cb, Rd s5.l s5.rb, Va 42 R5] (.tup []) [Cr 1 (gS s5).2.cb, Rd (gS s5).2.l (gS s5).2.rb, Va 42 (R5.set 40 (.bool (gS s5).1))] := oV s5.l s5.rb s5.cb 42 R5 40 (by omega) (by omega) (by omega)
 generalize gS s5 = q6 at h6 g6 ⊢
 obtain ⟨v6, s6⟩ := q6
 dsimp only at h6 g6 ⊢
 obtain ⟨R6, e6⟩ : ∃ R6, R6 = R5.set 40 (.bool v6) := ⟨_, rfl⟩
 rw [← e6] at h6
 have z6 : R6.length = 42 := by rw [e6, List.length_set] <;> exact z5
 have k6 : ∀ x : Nat, x ≠ 0 ∧ x ≠ 1 ∧ x ≠ 2 ∧ x ≠ 38 ∧ x ≠ 39 ∧ x ≠ 40 ∧ x ≠ 3 → R6[x]? = R[x]? := fun x hx => by rw [e6, List.getElem?_set_ne (by omega)] <;> exact k5 x (by omega)
 refine ⟨R6, ?_, ?_⟩
 ·rw [e6, e5, e4, e3, e2, e1, eR] <;> rfl
 have hK : (R3.set 3 (.int .u32 (v2 : Int)))[0]? = some (.int .i64 7) := by rw [hk] at hK; exact hK
 clear eR e1 e2 e3 e4 e5 e6 z1 z2 z3 z4 z5 z6 k0 k1 k2 k3 k4 k5 k6
 refine aK Try.func18 low18 (by simp [c18]) ?_
 simp only [c18]
 repeat' ((first | apply ai | apply ah | apply am | apply au | refine aq rfl ?_ | apply al | apply aj | apply ae | apply ak mixed | (with_reducible first | refine af ?_ | refine ar (f := .c (.fn 32 [])) ?_ | refine ar (f := .c (.fn 33 [])) ?_ | refine ar (f := .c (.fn 34 [])) ?_ | refine ar (f := .c (.fn 40 [])) ?_ | refine ao ?_ | refine ab (h1) (by simp) ?_ | refine ab (h2) (by simp) ?_ | refine ab (h3) (by simp) ?_ | refine ab (h4) (by simp) ?_ | refine ab (h5) (by simp) ?_ | refine ab (h6) (by simp) ?_) | (refine aa ?_ ?_ <;> intro hc <;> (try simp only [hc]) <;> try simp at hc) | (with_reducible refine ⟨?_, ?_⟩; (focus ((repeat' with_reducible refine ⟨?_, ?_⟩) <;> first | exact trivial | assumption | (simp; done) | (simp only [List.length_map] at *; omega) | omega | (simp [fs]; done) | exact ay))) | (with_reducible intro x hx) | omega) <;> (try simp only [hB, hK, hS, Nat.reduceBEq, reduceIte, Nat.reduceEqDiff, Nat.reduceAdd, Nat.reduceSub, Nat.reduceLT, Nat.reduceLeDiff, reduceCtorEq, cond_true, Int.reduceBEq, beq_self_eq_true, fw, fd]))
 refine aw [0, 1, 2] (by rfl) (by simp) (by simp [fg])
set_option maxHeartbeats 8000000 in
theorem wT (s : Rs) (hk : (aA 11 s).1 = 8) (hl : s.l.length ≤ 1099511627776) :
  ∃ R', R'.map gq = (qA sY s).1.cells ∧
  az Try.prog 18 [.ptr 0 0 0 1, .ptr 2 0 0 1] [Cr 1 s.cb, Rd s.l s.rb, Va 42 ib] (.tup [])
   [Cr 1 (qA sY s).2.cb,
    Rd (qA sY s).2.l
     (qA sY s).2.rb, Va 42 R'] := by
 unfold qA sY
 obtain ⟨R, eR⟩ : ∃ R, R = ib := ⟨_, rfl⟩
 rw [← eR]
 obtain ⟨hN6, hN7, hN8, hN19, hN20, hN21, hN22, hN24, hN25, hN26, hN31, hN32, hN34, hN35⟩ := jA eR
 have z0 : R.length = 42 := by subst eR; rfl
 have k0 : ∀ x : Nat, True → R[x]? = R[x]? := fun _ _ => rfl
 have g1 := (aH 11 (by omega) s).1
 have h1 : az Try.prog 32 [.ptr 0 0 0 1, .ptr 2 0 0 1, .int .u64 11] [Cr 1 s.cb, Rd s.l s.rb, Va 42 R] (.tup []) [Cr 1 (aA 11 s).2.cb, Rd (aA 11 s).2.l (aA 11 s).2.rb, Va 42 (R.set 0 (.int .i64 (((aA 11 s).1 : Nat) : Int)))] := bJ s.l s.rb s.cb 42 R 0 11 (by omega) (by omega) (by omega) (by omega)
 generalize aA 11 s = q1 at h1 g1 hk ⊢
 obtain ⟨v1, s1⟩ := q1
 dsimp only at h1 g1 hk ⊢
 obtain ⟨R1, e1⟩ : ∃ R1, R1 = R.set 0 (.int .i64 ((v1 : Nat) : Int)) := ⟨_, rfl⟩
 rw [← e1] at h1
 have z1 : R1.length = 42 := by rw [e1, List.length_set] <;> exact z0
 have k1 : ∀ x : Nat, x ≠ 0 → R1[x]? = R[x]? := fun x hx => by rw [e1, List.getElem?_set_ne (by omega)] <;> exact k0 x (by omega)
 have g2 := (aH 4294967295 (by omega) s1).1
 have h2 : az Try.prog 33 [.ptr 0 0 0 1, .ptr 2 0 1 1] [Cr 1 s1.cb, Rd s1.l s1.rb, Va 42 R1] (.tup []) [Cr 1 (aA 4294967295 s1).2.cb, Rd (aA 4294967295 s1).2.l (aA 4294967295 s1).2.rb, Va 42 (R1.set 1 (.int .u32 (((aA 4294967295 s1).1 : Nat) : Int)))] := cf s1.l s1.rb s1.cb 42 R1 1 (by omega) (by omega) (by omega)
 generalize aA 4294967295 s1 = q2 at h2 g2 ⊢
 obtain ⟨v2, s2⟩ := q2
 dsimp only at h2 g2 ⊢
 obtain ⟨R2, e2⟩ : ∃ R2, R2 = R1.set 1 (.int .u32 ((v2 : Nat) : Int)) := ⟨_, rfl⟩
 rw [← e2] at h2
 have z2 : R2.length = 42 := by rw [e2, List.length_set] <;> exact z1
 have k2 : ∀ x : Nat, x ≠ 0 ∧ x ≠ 1 → R2[x]? = R[x]? := fun x hx => by rw [e2, List.getElem?_set_ne (by omega)] <;> exact k1 x (by omega)
 have g3 := (aH 18446744073709551615 (by omega) s2).1
 have h3 : az Try.prog 34 [.ptr 0 0 0 1, .ptr 2 0 2 1, .int .u64 18446744073709551615] [Cr 1 s2.cb, Rd s2.l s2.rb, Va 42 R2] (.tup []) [Cr 1 (aA 18446744073709551615 s2).2.cb, Rd (aA 18446744073709551615 s2).2.l (aA 18446744073709551615 s2).2.rb, Va 42 (R2.set 2 (.int .u64 (((aA 18446744073709551615 s2).1 : Nat) : Int)))] := cr s2.l s2.rb s2.cb 42 R2 2 18446744073709551615 (by omega) (by omega) (by omega) (by omega)
 generalize aA 18446744073709551615 s2 = q3 at h3 g3 ⊢
 obtain ⟨v3, s3⟩ := q3
 dsimp only at h3 g3 ⊢
 obtain ⟨R3, e3⟩ : ∃ R3, R3 = R2.set 2 (.int .u64 ((v3 : Nat) : Int)) := ⟨_, rfl⟩
 rw [← e3] at h3
 have z3 : R3.length = 42 := by rw [e3, List.length_set] <;> exact z2
 have k3 : ∀ x : Nat, x ≠ 0 ∧ x ≠ 1 ∧ x ≠ 2 → R3[x]? = R[x]? := fun x hx => by rw [e3, List.getElem?_set_ne (by omega)] <;> exact k2 x (by omega)
 have hB : R3[1]? = some (.int .u32 (v2 : Int)) := by rw [e3, List.getElem?_set_ne (by omega), e2, List.getElem?_set_self (by omega)]
 have hK : (R3.set 3 (.int .u32 (v2 : Int)))[0]? = some (.int .i64 (v1 : Int)) := by rw [List.getElem?_set_ne (by omega), e3, List.getElem?_set_ne (by omega), e2, List.getElem?_set_ne (by omega), e1, List.getElem?_set_self (by omega)]
 have hS : R3.take 3 ++ [.int .u32 (v2 : Int)] ++ R3.drop 4 = R3.set 3 (.int .u32 (v2 : Int)) := dt (R := R3) (j := 3) (by omega) _
 have z3 : (R3.set 3 (.int .u32 (v2 : Int))).length = 42 := by rw [List.length_set]; exact z3
 have k3 : ∀ x : Nat, (x ≠ 0 ∧ x ≠ 1 ∧ x ≠ 2 ∧ x ≠ 3) → (R3.set 3 (.int .u32 (v2 : Int)))[x]? = R[x]? := fun x hx => by rw [List.getElem?_set_ne (by omega)] <;> exact k3 x (by omega)
 have g4 := (aH 4294967295 (by omega) s3).1
 have h4 : az Try.prog 33 [.ptr 0 0 0 1, .ptr 2 0 38 1] [Cr 1 s3.cb, Rd s3.l s3.rb, Va 42 (R3.set 3 (.int .u32 (v2 : Int)))] (.tup []) [Cr 1 (aA 4294967295 s3).2.cb, Rd (aA 4294967295 s3).2.l (aA 4294967295 s3).2.rb, Va 42 ((R3.set 3 (.int .u32 (v2 : Int))).set 38 (.int .u32 (((aA 4294967295 s3).1 : Nat) : Int)))] := cf s3.l s3.rb s3.cb 42 (R3.set 3 (.int .u32 (v2 : Int))) 38 (by omega) (by omega) (by omega)
 generalize aA 4294967295 s3 = q4 at h4 g4 ⊢
 obtain ⟨v4, s4⟩ := q4
 dsimp only at h4 g4 ⊢
 obtain ⟨R4, e4⟩ : ∃ R4, R4 = (R3.set 3 (.int .u32 (v2 : Int))).set 38 (.int .u32 ((v4 : Nat) : Int)) := ⟨_, rfl⟩
 rw [← e4] at h4
 have z4 : R4.length = 42 := by rw [e4, List.length_set] <;> exact z3
 have k4 : ∀ x : Nat, x ≠ 0 ∧ x ≠ 1 ∧ x ≠ 2 ∧ x ≠ 38 ∧ x ≠ 3 → R4[x]? = R[x]? := fun x hx => by rw [e4, List.getElem?_set_ne (by omega)] <;> exact k3 x (by omega)
 refine ⟨R4, ?_, ?_⟩
 ·rw [e4, e3, e2, e1, eR] <;> rfl
 have hK : (R3.set 3 (.int .u32 (v2 : Int)))[0]? = some (.int .i64 8) := by rw [hk] at hK; exact hK
 clear eR e1 e2 e3 e4 z1 z2 z3 z4 k0 k1 k2 k3 k4
 refine aK Try.func18 low18 (by simp [c18]) ?_
 simp only [c18]
 repeat' ((first | apply ai | apply ah | apply am | apply au | refine aq rfl ?_ | apply al | apply aj | apply ae | apply ak mixed | (with_reducible first | refine af ?_ | refine ar (f := .c (.fn 32 [])) ?_ | refine ar (f := .c (.fn 33 [])) ?_ | refine ar (f := .c (.fn 34 [])) ?_ | refine ao ?_ | refine ab (h1) (by simp) ?_ | refine ab (h2) (by simp) ?_ | refine ab (h3) (by simp) ?_ | refine ab (h4) (by simp) ?_) | (refine aa ?_ ?_ <;> intro hc <;> (try simp only [hc]) <;> try simp at hc) | (with_reducible refine ⟨?_, ?_⟩; (focus ((repeat' with_reducible refine ⟨?_, ?_⟩) <;> first | exact trivial | assumption | (simp; done) | (simp only [List.length_map] at *; omega) | omega | (simp [fs]; done) | exact ay))) | (with_reducible intro x hx) | omega) <;> (try simp only [hB, hK, hS, Nat.reduceBEq, reduceIte, Nat.reduceEqDiff, Nat.reduceAdd, Nat.reduceSub, Nat.reduceLT, Nat.reduceLeDiff, reduceCtorEq, cond_true, Int.reduceBEq, beq_self_eq_true, fw, fd]))
 refine aw [0, 1, 2] (by rfl) (by simp) (by simp [fg])
set_option maxHeartbeats 8000000 in
theorem ww (s : Rs) (hk : (aA 11 s).1 = 9) (hl : s.l.length ≤ 1099511627776) :
  ∃ R', R'.map gq = (qA sg s).1.cells ∧
  az Try.prog 18 [.ptr 0 0 0 1, .ptr 2 0 0 1] [Cr 1 s.cb, Rd s.l s.rb, Va 42 ib] (.tup [])
   [Cr 1 (qA sg s).2.cb,
    Rd (qA sg s).2.l
     (qA sg s).2.rb, Va 42 R'] := by
 unfold qA sg
 obtain ⟨R, eR⟩ : ∃ R, R = ib := ⟨_, rfl⟩
 rw [← eR]
 obtain ⟨hN6, hN7, hN8, hN19, hN20, hN21, hN22, hN24, hN25, hN26, hN31, hN32, hN34, hN35⟩ := jA eR
 have z0 : R.length = 42 := by subst eR; rfl
 have k0 : ∀ x : Nat, True → R[x]? = R[x]? := fun _ _ => rfl
 have g1 := (aH 11 (by omega) s).1
 have h1 : az Try.prog 32 [.ptr 0 0 0 1, .ptr 2 0 0 1, .int .u64 11] [Cr 1 s.cb, Rd s.l s.rb, Va 42 R] (.tup []) [Cr 1 (aA 11 s).2.cb, Rd (aA 11 s).2.l (aA 11 s).2.rb, Va 42 (R.set 0 (.int .i64 (((aA 11 s).1 : Nat) : Int)))] := bJ s.l s.rb s.cb 42 R 0 11 (by omega) (by omega) (by omega) (by omega)
 generalize aA 11 s = q1 at h1 g1 hk ⊢
 obtain ⟨v1, s1⟩ := q1
 dsimp only at h1 g1 hk ⊢
 obtain ⟨R1, e1⟩ : ∃ R1, R1 = R.set 0 (.int .i64 ((v1 : Nat) : Int)) := ⟨_, rfl⟩
 rw [← e1] at h1
 have z1 : R1.length = 42 := by rw [e1, List.length_set] <;> exact z0
 have k1 : ∀ x : Nat, x ≠ 0 → R1[x]? = R[x]? := fun x hx => by rw [e1, List.getElem?_set_ne (by omega)] <;> exact k0 x (by omega)
 have g2 := (aH 4294967295 (by omega) s1).1
 have h2 : az Try.prog 33 [.ptr 0 0 0 1, .ptr 2 0 1 1] [Cr 1 s1.cb, Rd s1.l s1.rb, Va 42 R1] (.tup []) [Cr 1 (aA 4294967295 s1).2.cb, Rd (aA 4294967295 s1).2.l (aA 4294967295 s1).2.rb, Va 42 (R1.set 1 (.int .u32 (((aA 4294967295 s1).1 : Nat) : Int)))] := cf s1.l s1.rb s1.cb 42 R1 1 (by omega) (by omega) (by omega)
 generalize aA 4294967295 s1 = q2 at h2 g2 ⊢
 obtain ⟨v2, s2⟩ := q2
 dsimp only at h2 g2 ⊢
 obtain ⟨R2, e2⟩ : ∃ R2, R2 = R1.set 1 (.int .u32 ((v2 : Nat) : Int)) := ⟨_, rfl⟩
 rw [← e2] at h2
 have z2 : R2.length = 42 := by rw [e2, List.length_set] <;> exact z1
 have k2 : ∀ x : Nat, x ≠ 0 ∧ x ≠ 1 → R2[x]? = R[x]? := fun x hx => by rw [e2, List.getElem?_set_ne (by omega)] <;> exact k1 x (by omega)
 have g3 := (aH 18446744073709551615 (by omega) s2).1
 have h3 : az Try.prog 34 [.ptr 0 0 0 1, .ptr 2 0 2 1, .int .u64 18446744073709551615] [Cr 1 s2.cb, Rd s2.l s2.rb, Va 42 R2] (.tup []) [Cr 1 (aA 18446744073709551615 s2).2.cb, Rd (aA 18446744073709551615 s2).2.l (aA 18446744073709551615 s2).2.rb, Va 42 (R2.set 2 (.int .u64 (((aA 18446744073709551615 s2).1 : Nat) : Int)))] := cr s2.l s2.rb s2.cb 42 R2 2 18446744073709551615 (by omega) (by omega) (by omega) (by omega)
 generalize aA 18446744073709551615 s2 = q3 at h3 g3 ⊢
 obtain ⟨v3, s3⟩ := q3
 dsimp only at h3 g3 ⊢
 obtain ⟨R3, e3⟩ : ∃ R3, R3 = R2.set 2 (.int .u64 ((v3 : Nat) : Int)) := ⟨_, rfl⟩
 rw [← e3] at h3
 have z3 : R3.length = 42 := by rw [e3, List.length_set] <;> exact z2
 have k3 : ∀ x : Nat, x ≠ 0 ∧ x ≠ 1 ∧ x ≠ 2 → R3[x]? = R[x]? := fun x hx => by rw [e3, List.getElem?_set_ne (by omega)] <;> exact k2 x (by omega)
 have hB : R3[1]? = some (.int .u32 (v2 : Int)) := by rw [e3, List.getElem?_set_ne (by omega), e2, List.getElem?_set_self (by omega)]
 have hK : (R3.set 3 (.int .u32 (v2 : Int)))[0]? = some (.int .i64 (v1 : Int)) := by rw [List.getElem?_set_ne (by omega), e3, List.getElem?_set_ne (by omega), e2, List.getElem?_set_ne (by omega), e1, List.getElem?_set_self (by omega)]
 have hS : R3.take 3 ++ [.int .u32 (v2 : Int)] ++ R3.drop 4 = R3.set 3 (.int .u32 (v2 : Int)) := dt (R := R3) (j := 3) (by omega) _
 have z3 : (R3.set 3 (.int .u32 (v2 : Int))).length = 42 := by rw [List.length_set]; exact z3
 have k3 : ∀ x : Nat, (x ≠ 0 ∧ x ≠ 1 ∧ x ≠ 2 ∧ x ≠ 3) → (R3.set 3 (.int .u32 (v2 : Int)))[x]? = R[x]? := fun x hx => by rw [List.getElem?_set_ne (by omega)] <;> exact k3 x (by omega)
 have g4 := (aH 4294967295 (by omega) s3).1
 have h4 : az Try.prog 33 [.ptr 0 0 0 1, .ptr 2 0 38 1] [Cr 1 s3.cb, Rd s3.l s3.rb, Va 42 (R3.set 3 (.int .u32 (v2 : Int)))] (.tup []) [Cr 1 (aA 4294967295 s3).2.cb, Rd (aA 4294967295 s3).2.l (aA 4294967295 s3).2.rb, Va 42 ((R3.set 3 (.int .u32 (v2 : Int))).set 38 (.int .u32 (((aA 4294967295 s3).1 : Nat) : Int)))] := cf s3.l s3.rb s3.cb 42 (R3.set 3 (.int .u32 (v2 : Int))) 38 (by omega) (by omega) (by omega)
 generalize aA 4294967295 s3 = q4 at h4 g4 ⊢
 obtain ⟨v4, s4⟩ := q4
 dsimp only at h4 g4 ⊢
 obtain ⟨R4, e4⟩ : ∃ R4, R4 = (R3.set 3 (.int .u32 (v2 : Int))).set 38 (.int .u32 ((v4 : Nat) : Int)) := ⟨_, rfl⟩
 rw [← e4] at h4
 have z4 : R4.length = 42 := by rw [e4, List.length_set] <;> exact z3
 have k4 : ∀ x : Nat, x ≠ 0 ∧ x ≠ 1 ∧ x ≠ 2 ∧ x ≠ 38 ∧ x ≠ 3 → R4[x]? = R[x]? := fun x hx => by rw [e4, List.getElem?_set_ne (by omega)] <;> exact k3 x (by omega)
 have g5 := (aH 4294967295 (by omega) s4).1
 have h5 : az Try.prog 33 [.ptr 0 0 0 1, .ptr 2 0 4 1] [Cr 1 s4.cb, Rd s4.l s4.rb, Va 42 R4] (.tup []) [Cr 1 (aA 4294967295 s4).2.cb, Rd (aA 4294967295 s4).2.l (aA 4294967295 s4).2.rb, Va 42 (R4.set 4 (.int .u32 (((aA 4294967295 s4).1 : Nat) : Int)))] := cf s4.l s4.rb s4.cb 42 R4 4 (by omega) (by omega) (by omega)
 generalize aA 4294967295 s4 = q5 at h5 g5 ⊢
 obtain ⟨v5, s5⟩ := q5
 dsimp only at h5 g5 ⊢
 obtain ⟨R5, e5⟩ : ∃ R5, R5 = R4.set 4 (.int .u32 ((v5 : Nat) : Int)) := ⟨_, rfl⟩
 rw [← e5] at h5
 have z5 : R5.length = 42 := by rw [e5, List.length_set] <;> exact z4
 have k5 : ∀ x : Nat, x ≠ 0 ∧ x ≠ 1 ∧ x ≠ 2 ∧ x ≠ 38 ∧ x ≠ 4 ∧ x ≠ 3 → R5[x]? = R[x]? := fun x hx => by rw [e5, List.getElem?_set_ne (by omega)] <;> exact k4 x (by omega)
 refine ⟨R5, ?_, ?_⟩
 ·rw [e5, e4, e3, e2, e1, eR] <;> rfl
 have hK : (R3.set 3 (.int .u32 (v2 : Int)))[0]? = some (.int .i64 9) := by rw [hk] at hK; exact hK
 clear eR e1 e2 e3 e4 e5 z1 z2 z3 z4 z5 k0 k1 k2 k3 k4 k5
 refine aK Try.func18 low18 (by simp [c18]) ?_
 simp only [c18]
 repeat' ((first | apply ai | apply ah | apply am | apply au | refine aq rfl ?_ | apply al | apply aj | apply ae | apply ak mixed | (with_reducible first | refine af ?_ | refine ar (f := .c (.fn 32 [])) ?_ | refine ar (f := .c (.fn 33 [])) ?_ | refine ar (f := .c (.fn 34 [])) ?_ | refine ao ?_ | refine ab (h1) (by simp) ?_ | refine ab (h2) (by simp) ?_ | refine ab (h3) (by simp) ?_ | refine ab (h4) (by simp) ?_ | refine ab (h5) (by simp) ?_) | (refine aa ?_ ?_ <;> intro hc <;> (try simp only [hc]) <;> try simp at hc) | (with_reducible refine ⟨?_, ?_⟩; (focus ((repeat' with_reducible refine ⟨?_, ?_⟩) <;> first | exact trivial | assumption | (simp; done) | (simp only [List.length_map] at *; omega) | omega | (simp [fs]; done) | exact ay))) | (with_reducible intro x hx) | omega) <;> (try simp only [hB, hK, hS, Nat.reduceBEq, reduceIte, Nat.reduceEqDiff, Nat.reduceAdd, Nat.reduceSub, Nat.reduceLT, Nat.reduceLeDiff, reduceCtorEq, cond_true, Int.reduceBEq, beq_self_eq_true, fw, fd]))
 refine aw [0, 1, 2] (by rfl) (by simp) (by simp [fg])
set_option maxHeartbeats 8000000 in
theorem vg (s : Rs) (hk : (aA 11 s).1 = 10) (hl : s.l.length ≤ 1099511627776) :
  ∃ R', R'.map gq = (qA kF s).1.cells ∧
  az Try.prog 18 [.ptr 0 0 0 1, .ptr 2 0 0 1] [Cr 1 s.cb, Rd s.l s.rb, Va 42 ib] (.tup [])
   [Cr 1 (qA kF s).2.cb,
    Rd (qA kF s).2.l
     (qA kF s).2.rb, Va 42 R'] := by
 unfold qA kF
 obtain ⟨R, eR⟩ : ∃ R, R = ib := ⟨_, rfl⟩
 rw [← eR]
 obtain ⟨hN6, hN7, hN8, hN19, hN20, hN21, hN22, hN24, hN25, hN26, hN31, hN32, hN34, hN35⟩ := jA eR
 have z0 : R.length = 42 := by subst eR; rfl
 have k0 : ∀ x : Nat, True → R[x]? = R[x]? := fun _ _ => rfl
 have g1 := (aH 11 (by omega) s).1
 have h1 : az Try.prog 32 [.ptr 0 0 0 1, .ptr 2 0 0 1, .int .u64 11] [Cr 1 s.cb, Rd s.l s.rb, Va 42 R] (.tup []) [Cr 1 (aA 11 s).2.cb, Rd (aA 11 s).2.l (aA 11 s).2.rb, Va 42 (R.set 0 (.int .i64 (((aA 11 s).1 : Nat) : Int)))] := bJ s.l s.rb s.cb 42 R 0 11 (by omega) (by omega) (by omega) (by omega)
 generalize aA 11 s = q1 at h1 g1 hk ⊢
 obtain ⟨v1, s1⟩ := q1
 dsimp only at h1 g1 hk ⊢
 obtain ⟨R1, e1⟩ : ∃ R1, R1 = R.set 0 (.int .i64 ((v1 : Nat) : Int)) := ⟨_, rfl⟩
 rw [← e1] at h1
 have z1 : R1.length = 42 := by rw [e1, List.length_set] <;> exact z0
 have k1 : ∀ x : Nat, x ≠ 0 → R1[x]? = R[x]? := fun x hx => by rw [e1, List.getElem?_set_ne (by omega)] <;> exact k0 x (by omega)
 have g2 := (aH 4294967295 (by omega) s1).1
 have h2 : az Try.prog 33 [.ptr 0 0 0 1, .ptr 2 0 1 1] [Cr 1 s1.cb, Rd s1.l s1.rb, Va 42 R1] (.tup []) [Cr 1 (aA 4294967295 s1).2.cb, Rd (aA 4294967295 s1).2.l (aA 4294967295 s1).2.rb, Va 42 (R1.set 1 (.int .u32 (((aA 4294967295 s1).1 : Nat) : Int)))] := cf s1.l s1.rb s1.cb 42 R1 1 (by omega) (by omega) (by omega)
 generalize aA 4294967295 s1 = q2 at h2 g2 ⊢
 obtain ⟨v2, s2⟩ := q2
 dsimp only at h2 g2 ⊢
 obtain ⟨R2, e2⟩ : ∃ R2, R2 = R1.set 1 (.int .u32 ((v2 : Nat) : Int)) := ⟨_, rfl⟩
 rw [← e2] at h2
 have z2 : R2.length = 42 := by rw [e2, List.length_set] <;> exact z1
 have k2 : ∀ x : Nat, x ≠ 0 ∧ x ≠ 1 → R2[x]? = R[x]? := fun x hx => by rw [e2, List.getElem?_set_ne (by omega)] <;> exact k1 x (by omega)
 have g3 := (aH 18446744073709551615 (by omega) s2).1
 have h3 : az Try.prog 34 [.ptr 0 0 0 1, .ptr 2 0 2 1, .int .u64 18446744073709551615] [Cr 1 s2.cb, Rd s2.l s2.rb, Va 42 R2] (.tup []) [Cr 1 (aA 18446744073709551615 s2).2.cb, Rd (aA 18446744073709551615 s2).2.l (aA 18446744073709551615 s2).2.rb, Va 42 (R2.set 2 (.int .u64 (((aA 18446744073709551615 s2).1 : Nat) : Int)))] := cr s2.l s2.rb s2.cb 42 R2 2 18446744073709551615 (by omega) (by omega) (by omega) (by omega)
 generalize aA 18446744073709551615 s2 = q3 at h3 g3 ⊢
 obtain ⟨v3, s3⟩ := q3
 dsimp only at h3 g3 ⊢
 obtain ⟨R3, e3⟩ : ∃ R3, R3 = R2.set 2 (.int .u64 ((v3 : Nat) : Int)) := ⟨_, rfl⟩
 rw [← e3] at h3
 have z3 : R3.length = 42 := by rw [e3, List.length_set] <;> exact z2
 have k3 : ∀ x : Nat, x ≠ 0 ∧ x ≠ 1 ∧ x ≠ 2 → R3[x]? = R[x]? := fun x hx => by rw [e3, List.getElem?_set_ne (by omega)] <;> exact k2 x (by omega)
 have hB : R3[1]? = some (.int .u32 (v2 : Int)) := by rw [e3, List.getElem?_set_ne (by omega), e2, List.getElem?_set_self (by omega)]
 have hK : (R3.set 3 (.int .u32 (v2 : Int)))[0]? = some (.int .i64 (v1 : Int)) := by rw [List.getElem?_set_ne (by omega), e3, List.getElem?_set_ne (by omega), e2, List.getElem?_set_ne (by omega), e1, List.getElem?_set_self (by omega)]
 have hS : R3.take 3 ++ [.int .u32 (v2 : Int)] ++ R3.drop 4 = R3.set 3 (.int .u32 (v2 : Int)) := dt (R := R3) (j := 3) (by omega) _
 have z3 : (R3.set 3 (.int .u32 (v2 : Int))).length = 42 := by rw [List.length_set]; exact z3
 have k3 : ∀ x : Nat, (x ≠ 0 ∧ x ≠ 1 ∧ x ≠ 2 ∧ x ≠ 3) → (R3.set 3 (.int .u32 (v2 : Int)))[x]? = R[x]? := fun x hx => by rw [List.getElem?_set_ne (by omega)] <;> exact k3 x (by omega)
 have g4 := (aH 4294967295 (by omega) s3).1
 have h4 : az Try.prog 33 [.ptr 0 0 0 1, .ptr 2 0 38 1] [Cr 1 s3.cb, Rd s3.l s3.rb, Va 42 (R3.set 3 (.int .u32 (v2 : Int)))] (.tup []) [Cr 1 (aA 4294967295 s3).2.cb, Rd (aA 4294967295 s3).2.l (aA 4294967295 s3).2.rb, Va 42 ((R3.set 3 (.int .u32 (v2 : Int))).set 38 (.int .u32 (((aA 4294967295 s3).1 : Nat) : Int)))] := cf s3.l s3.rb s3.cb 42 (R3.set 3 (.int .u32 (v2 : Int))) 38 (by omega) (by omega) (by omega)
 generalize aA 4294967295 s3 = q4 at h4 g4 ⊢
 obtain ⟨v4, s4⟩ := q4
 dsimp only at h4 g4 ⊢
 obtain ⟨R4, e4⟩ : ∃ R4, R4 = (R3.set 3 (.int .u32 (v2 : Int))).set 38 (.int .u32 ((v4 : Nat) : Int)) := ⟨_, rfl⟩
 rw [← e4] at h4
 have z4 : R4.length = 42 := by rw [e4, List.length_set] <;> exact z3
 have k4 : ∀ x : Nat, x ≠ 0 ∧ x ≠ 1 ∧ x ≠ 2 ∧ x ≠ 38 ∧ x ≠ 3 → R4[x]? = R[x]? := fun x hx => by rw [e4, List.getElem?_set_ne (by omega)] <;> exact k3 x (by omega)
 refine ⟨R4, ?_, ?_⟩
 ·rw [e4, e3, e2, e1, eR] <;> rfl
 have hK : (R3.set 3 (.int .u32 (v2 : Int)))[0]? = some (.int .i64 10) := by rw [hk] at hK; exact hK
 clear eR e1 e2 e3 e4 z1 z2 z3 z4 k0 k1 k2 k3 k4
 refine aK Try.func18 low18 (by simp [c18]) ?_
 simp only [c18]
 repeat' ((first | apply ai | apply ah | apply am | apply au | refine aq rfl ?_ | apply al | apply aj | apply ae | apply ak mixed | (with_reducible first | refine af ?_ | refine ar (f := .c (.fn 32 [])) ?_ | refine ar (f := .c (.fn 33 [])) ?_ | refine ar (f := .c (.fn 34 [])) ?_ | refine ao ?_ | refine ab (h1) (by simp) ?_ | refine ab (h2) (by simp) ?_ | refine ab (h3) (by simp) ?_ | refine ab (h4) (by simp) ?_) | (refine aa ?_ ?_ <;> intro hc <;> (try simp only [hc]) <;> try simp at hc) | (with_reducible refine ⟨?_, ?_⟩; (focus ((repeat' with_reducible refine ⟨?_, ?_⟩) <;> first | exact trivial | assumption | (simp; done) | (simp only [List.length_map] at *; omega) | omega | (simp [fs]; done) | exact ay))) | (with_reducible intro x hx) | omega) <;> (try simp only [hB, hK, hS, Nat.reduceBEq, reduceIte, Nat.reduceEqDiff, Nat.reduceAdd, Nat.reduceSub, Nat.reduceLT, Nat.reduceLeDiff, reduceCtorEq, cond_true, Int.reduceBEq, beq_self_eq_true, fw, fd]))
 refine aw [0, 1, 2] (by rfl) (by simp) (by simp [fg])
set_option maxHeartbeats 8000000 in
theorem vn (s : Rs) (hk : (aA 11 s).1 = 11) (hl : s.l.length ≤ 1099511627776) :
  ∃ R', R'.map gq = (qA kt s).1.cells ∧
  az Try.prog 18 [.ptr 0 0 0 1, .ptr 2 0 0 1] [Cr 1 s.cb, Rd s.l s.rb, Va 42 ib] (.tup [])
   [Cr 1 (qA kt s).2.cb,
    Rd (qA kt s).2.l
     (qA kt s).2.rb, Va 42 R'] := by
 unfold qA kt
 obtain ⟨R, eR⟩ : ∃ R, R = ib := ⟨_, rfl⟩
 rw [← eR]
 obtain ⟨hN6, hN7, hN8, hN19, hN20, hN21, hN22, hN24, hN25, hN26, hN31, hN32, hN34, hN35⟩ := jA eR
 have z0 : R.length = 42 := by subst eR; rfl
 have k0 : ∀ x : Nat, True → R[x]? = R[x]? := fun _ _ => rfl
 have g1 := (aH 11 (by omega) s).1
 have h1 : az Try.prog 32 [.ptr 0 0 0 1, .ptr 2 0 0 1, .int .u64 11] [Cr 1 s.cb, Rd s.l s.rb, Va 42 R] (.tup []) [Cr 1 (aA 11 s).2.cb, Rd (aA 11 s).2.l (aA 11 s).2.rb, Va 42 (R.set 0 (.int .i64 (((aA 11 s).1 : Nat) : Int)))] := bJ s.l s.rb s.cb 42 R 0 11 (by omega) (by omega) (by omega) (by omega)
 generalize aA 11 s = q1 at h1 g1 hk ⊢
 obtain ⟨v1, s1⟩ := q1
 dsimp only at h1 g1 hk ⊢
 obtain ⟨R1, e1⟩ : ∃ R1, R1 = R.set 0 (.int .i64 ((v1 : Nat) : Int)) := ⟨_, rfl⟩
 rw [← e1] at h1
 have z1 : R1.length = 42 := by rw [e1, List.length_set] <;> exact z0
 have k1 : ∀ x : Nat, x ≠ 0 → R1[x]? = R[x]? := fun x hx => by rw [e1, List.getElem?_set_ne (by omega)] <;> exact k0 x (by omega)
 have g2 := (aH 4294967295 (by omega) s1).1
 have h2 : az Try.prog 33 [.ptr 0 0 0 1, .ptr 2 0 1 1] [Cr 1 s1.cb, Rd s1.l s1.rb, Va 42 R1] (.tup []) [Cr 1 (aA 4294967295 s1).2.cb, Rd (aA 4294967295 s1).2.l (aA 4294967295 s1).2.rb, Va 42 (R1.set 1 (.int .u32 (((aA 4294967295 s1).1 : Nat) : Int)))] := cf s1.l s1.rb s1.cb 42 R1 1 (by omega) (by omega) (by omega)
 generalize aA 4294967295 s1 = q2 at h2 g2 ⊢
 obtain ⟨v2, s2⟩ := q2
 dsimp only at h2 g2 ⊢
 obtain ⟨R2, e2⟩ : ∃ R2, R2 = R1.set 1 (.int .u32 ((v2 : Nat) : Int)) := ⟨_, rfl⟩
 rw [← e2] at h2
 have z2 : R2.length = 42 := by rw [e2, List.length_set] <;> exact z1
 have k2 : ∀ x : Nat, x ≠ 0 ∧ x ≠ 1 → R2[x]? = R[x]? := fun x hx => by rw [e2, List.getElem?_set_ne (by omega)] <;> exact k1 x (by omega)
 have g3 := (aH 18446744073709551615 (by omega) s2).1
 have h3 : az Try.prog 34 [.ptr 0 0 0 1, .ptr 2 0 2 1, .int .u64 18446744073709551615] [Cr 1 s2.cb, Rd s2.l s2.rb, Va 42 R2] (.tup []) [Cr 1 (aA 18446744073709551615 s2).2.cb, Rd (aA 18446744073709551615 s2).2.l (aA 18446744073709551615 s2).2.rb, Va 42 (R2.set 2 (.int .u64 (((aA 18446744073709551615 s2).1 : Nat) : Int)))] := cr s2.l s2.rb s2.cb 42 R2 2 18446744073709551615 (by omega) (by omega) (by omega) (by omega)
 generalize aA 18446744073709551615 s2 = q3 at h3 g3 ⊢
 obtain ⟨v3, s3⟩ := q3
 dsimp only at h3 g3 ⊢
 obtain ⟨R3, e3⟩ : ∃ R3, R3 = R2.set 2 (.int .u64 ((v3 : Nat) : Int)) := ⟨_, rfl⟩
 rw [← e3] at h3
 have z3 : R3.length = 42 := by rw [e3, List.length_set] <;> exact z2
 have k3 : ∀ x : Nat, x ≠ 0 ∧ x ≠ 1 ∧ x ≠ 2 → R3[x]? = R[x]? := fun x hx => by rw [e3, List.getElem?_set_ne (by omega)] <;> exact k2 x (by omega)
 have hB : R3[1]? = some (.int .u32 (v2 : Int)) := by rw [e3, List.getElem?_set_ne (by omega), e2, List.getElem?_set_self (by omega)]
 have hK : (R3.set 3 (.int .u32 (v2 : Int)))[0]? = some (.int .i64 (v1 : Int)) := by rw [List.getElem?_set_ne (by omega), e3, List.getElem?_set_ne (by omega), e2, List.getElem?_set_ne (by omega), e1, List.getElem?_set_self (by omega)]
 have hS : R3.take 3 ++ [.int .u32 (v2 : Int)] ++ R3.drop 4 = R3.set 3 (.int .u32 (v2 : Int)) := dt (R := R3) (j := 3) (by omega) _
 have z3 : (R3.set 3 (.int .u32 (v2 : Int))).length = 42 := by rw [List.length_set]; exact z3
 have k3 : ∀ x : Nat, (x ≠ 0 ∧ x ≠ 1 ∧ x ≠ 2 ∧ x ≠ 3) → (R3.set 3 (.int .u32 (v2 : Int)))[x]? = R[x]? := fun x hx => by rw [List.getElem?_set_ne (by omega)] <;> exact k3 x (by omega)
 have g4 := cG s3
 have h4 : az Try.prog 39 [.ptr 0 0 0 1, .ptr 2 0 41 1] [Cr 1 s3.cb, Rd s3.l s3.rb, Va 42 (R3.set 3 (.int .u32 (v2 : Int)))] (.tup []) [Cr 1 (cw s3).2.cb, Rd (cw s3).2.l (cw s3).2.rb, Va 42 ((R3.set 3 (.int .u32 (v2 : Int))).set 41 (.int .i64 ((cw s3).1 : Int)))] := cF s3.l s3.rb s3.cb 42 (R3.set 3 (.int .u32 (v2 : Int))) 41 (by omega) (by omega) (by omega)
 generalize cw s3 = q4 at h4 g4 ⊢
 obtain ⟨v4, s4⟩ := q4
 dsimp only at h4 g4 ⊢
 obtain ⟨R4, e4⟩ : ∃ R4, R4 = (R3.set 3 (.int .u32 (v2 : Int))).set 41 (.int .i64 (v4 : Int)) := ⟨_, rfl⟩
 rw [← e4] at h4
 have z4 : R4.length = 42 := by rw [e4, List.length_set] <;> exact z3
 have k4 : ∀ x : Nat, x ≠ 0 ∧ x ≠ 1 ∧ x ≠ 2 ∧ x ≠ 41 ∧ x ≠ 3 → R4[x]? = R[x]? := fun x hx => by rw [e4, List.getElem?_set_ne (by omega)] <;> exact k3 x (by omega)
 refine ⟨R4, ?_, ?_⟩
 ·rw [e4, e3, e2, e1, eR] <;> rfl
 have hK : (R3.set 3 (.int .u32 (v2 : Int)))[0]? = some (.int .i64 11) := by rw [hk] at hK; exact hK
 clear eR e1 e2 e3 e4 z1 z2 z3 z4 k0 k1 k2 k3 k4
 refine aK Try.func18 low18 (by simp [c18]) ?_
 simp only [c18]
 repeat' ((first | apply ai | apply ah | apply am | apply au | refine aq rfl ?_ | apply al | apply aj | apply ae | apply ak mixed | (with_reducible first | refine af ?_ | refine ar (f := .c (.fn 32 [])) ?_ | refine ar (f := .c (.fn 33 [])) ?_ | refine ar (f := .c (.fn 34 [])) ?_ | refine ar (f := .c (.fn 39 [])) ?_ | refine ao ?_ | refine ab (h1) (by simp) ?_ | refine ab (h2) (by simp) ?_ | refine ab (h3) (by simp) ?_ | refine ab (h4) (by simp) ?_) | (refine aa ?_ ?_ <;> intro hc <;> (try simp only [hc]) <;> try simp at hc) | (with_reducible refine ⟨?_, ?_⟩; (focus ((repeat' with_reducible refine ⟨?_, ?_⟩) <;> first | exact trivial | assumption | (simp; done) | (simp only [List.length_map] at *; omega) | omega | (simp [fs]; done) | exact ay))) | (with_reducible intro x hx) | omega) <;> (try simp only [hB, hK, hS, Nat.reduceBEq, reduceIte, Nat.reduceEqDiff, Nat.reduceAdd, Nat.reduceSub, Nat.reduceLT, Nat.reduceLeDiff, reduceCtorEq, cond_true, Int.reduceBEq, beq_self_eq_true, fw, fd]))
 refine aw [0, 1, 2] (by rfl) (by simp) (by simp [fg])
set_option maxHeartbeats 8000000 in
theorem xD (s : Rs) (hk : ∀ c : Nat, 1 ≤ c → c ≤ 11 → (aA 11 s).1 ≠ c) (hl : s.l.length ≤ 1099511627776) :
  ∃ R', R'.map gq = (qA tS s).1.cells ∧
  az Try.prog 18 [.ptr 0 0 0 1, .ptr 2 0 0 1] [Cr 1 s.cb, Rd s.l s.rb, Va 42 ib] (.tup [])
   [Cr 1 (qA tS s).2.cb,
    Rd (qA tS s).2.l
     (qA tS s).2.rb, Va 42 R'] := by
 unfold qA tS
 obtain ⟨R, eR⟩ : ∃ R, R = ib := ⟨_, rfl⟩
 rw [← eR]
 obtain ⟨hN6, hN7, hN8, hN19, hN20, hN21, hN22, hN24, hN25, hN26, hN31, hN32, hN34, hN35⟩ := jA eR
 have z0 : R.length = 42 := by subst eR; rfl
 have k0 : ∀ x : Nat, True → R[x]? = R[x]? := fun _ _ => rfl
 have g1 := (aH 11 (by omega) s).1
 have h1 : az Try.prog 32 [.ptr 0 0 0 1, .ptr 2 0 0 1, .int .u64 11] [Cr 1 s.cb, Rd s.l s.rb, Va 42 R] (.tup []) [Cr 1 (aA 11 s).2.cb, Rd (aA 11 s).2.l (aA 11 s).2.rb, Va 42 (R.set 0 (.int .i64 (((aA 11 s).1 : Nat) : Int)))] := bJ s.l s.rb s.cb 42 R 0 11 (by omega) (by omega) (by omega) (by omega)
 generalize aA 11 s = q1 at h1 g1 hk ⊢
 obtain ⟨v1, s1⟩ := q1
 dsimp only at h1 g1 hk ⊢
 obtain ⟨R1, e1⟩ : ∃ R1, R1 = R.set 0 (.int .i64 ((v1 : Nat) : Int)) := ⟨_, rfl⟩
 rw [← e1] at h1
 have z1 : R1.length = 42 := by rw [e1, List.length_set] <;> exact z0
 have k1 : ∀ x : Nat, x ≠ 0 → R1[x]? = R[x]? := fun x hx => by rw [e1, List.getElem?_set_ne (by omega)] <;> exact k0 x (by omega)
 have g2 := (aH 4294967295 (by omega) s1).1
 have h2 : az Try.prog 33 [.ptr 0 0 0 1, .ptr 2 0 1 1] [Cr 1 s1.cb, Rd s1.l s1.rb, Va 42 R1] (.tup []) [Cr 1 (aA 4294967295 s1).2.cb, Rd (aA 4294967295 s1).2.l (aA 4294967295 s1).2.rb, Va 42 (R1.set 1 (.int .u32 (((aA 4294967295 s1).1 : Nat) : Int)))] := cf s1.l s1.rb s1.cb 42 R1 1 (by omega) (by omega) (by omega)
 generalize aA 4294967295 s1 = q2 at h2 g2 ⊢
 obtain ⟨v2, s2⟩ := q2
 dsimp only at h2 g2 ⊢
 obtain ⟨R2, e2⟩ : ∃ R2, R2 = R1.set 1 (.int .u32 ((v2 : Nat) : Int)) := ⟨_, rfl⟩
 rw [← e2] at h2
 have z2 : R2.length = 42 := by rw [e2, List.length_set] <;> exact z1
 have k2 : ∀ x : Nat, x ≠ 0 ∧ x ≠ 1 → R2[x]? = R[x]? := fun x hx => by rw [e2, List.getElem?_set_ne (by omega)] <;> exact k1 x (by omega)
 have g3 := (aH 18446744073709551615 (by omega) s2).1
 have h3 : az Try.prog 34 [.ptr 0 0 0 1, .ptr 2 0 2 1, .int .u64 18446744073709551615] [Cr 1 s2.cb, Rd s2.l s2.rb, Va 42 R2] (.tup []) [Cr 1 (aA 18446744073709551615 s2).2.cb, Rd (aA 18446744073709551615 s2).2.l (aA 18446744073709551615 s2).2.rb, Va 42 (R2.set 2 (.int .u64 (((aA 18446744073709551615 s2).1 : Nat) : Int)))] := cr s2.l s2.rb s2.cb 42 R2 2 18446744073709551615 (by omega) (by omega) (by omega) (by omega)
 generalize aA 18446744073709551615 s2 = q3 at h3 g3 ⊢
 obtain ⟨v3, s3⟩ := q3
 dsimp only at h3 g3 ⊢
 obtain ⟨R3, e3⟩ : ∃ R3, R3 = R2.set 2 (.int .u64 ((v3 : Nat) : Int)) := ⟨_, rfl⟩
 rw [← e3] at h3
 have z3 : R3.length = 42 := by rw [e3, List.length_set] <;> exact z2
 have k3 : ∀ x : Nat, x ≠ 0 ∧ x ≠ 1 ∧ x ≠ 2 → R3[x]? = R[x]? := fun x hx => by rw [e3, List.getElem?_set_ne (by omega)] <;> exact k2 x (by omega)
 have hB : R3[1]? = some (.int .u32 (v2 : Int)) := by rw [e3, List.getElem?_set_ne (by omega), e2, List.getElem?_set_self (by omega)]
 have hK : (R3.set 3 (.int .u32 (v2 : Int)))[0]? = some (.int .i64 (v1 : Int)) := by rw [List.getElem?_set_ne (by omega), e3, List.getElem?_set_ne (by omega), e2, List.getElem?_set_ne (by omega), e1, List.getElem?_set_self (by omega)]
 have hS : R3.take 3 ++ [.int .u32 (v2 : Int)] ++ R3.drop 4 = R3.set 3 (.int .u32 (v2 : Int)) := dt (R := R3) (j := 3) (by omega) _
 have z3 : (R3.set 3 (.int .u32 (v2 : Int))).length = 42 := by rw [List.length_set]; exact z3
 have k3 : ∀ x : Nat, (x ≠ 0 ∧ x ≠ 1 ∧ x ≠ 2 ∧ x ≠ 3) → (R3.set 3 (.int .u32 (v2 : Int)))[x]? = R[x]? := fun x hx => by rw [List.getElem?_set_ne (by omega)] <;> exact k3 x (by omega)
 refine ⟨(R3.set 3 (.int .u32 (v2 : Int))), ?_, ?_⟩
 ·rw [e3, e2, e1, eR] <;> rfl
 have u1 : (((v1 : Nat) : Int) == 1) = false := beq_eq_false_iff_ne.2 (by have := hk 1 (by omega) (by omega); omega)
 have u2 : (((v1 : Nat) : Int) == 2) = false := beq_eq_false_iff_ne.2 (by have := hk 2 (by omega) (by omega); omega)
 have u3 : (((v1 : Nat) : Int) == 3) = false := beq_eq_false_iff_ne.2 (by have := hk 3 (by omega) (by omega); omega)
 have u4 : (((v1 : Nat) : Int) == 4) = false := beq_eq_false_iff_ne.2 (by have := hk 4 (by omega) (by omega); omega)
 have u5 : (((v1 : Nat) : Int) == 5) = false := beq_eq_false_iff_ne.2 (by have := hk 5 (by omega) (by omega); omega)
 have u6 : (((v1 : Nat) : Int) == 6) = false := beq_eq_false_iff_ne.2 (by have := hk 6 (by omega) (by omega); omega)
 have u7 : (((v1 : Nat) : Int) == 7) = false := beq_eq_false_iff_ne.2 (by have := hk 7 (by omega) (by omega); omega)
 have u8 : (((v1 : Nat) : Int) == 8) = false := beq_eq_false_iff_ne.2 (by have := hk 8 (by omega) (by omega); omega)
 have u9 : (((v1 : Nat) : Int) == 9) = false := beq_eq_false_iff_ne.2 (by have := hk 9 (by omega) (by omega); omega)
 have u10 : (((v1 : Nat) : Int) == 10) = false := beq_eq_false_iff_ne.2 (by have := hk 10 (by omega) (by omega); omega)
 have u11 : (((v1 : Nat) : Int) == 11) = false := beq_eq_false_iff_ne.2 (by have := hk 11 (by omega) (by omega); omega)
 clear eR e1 e2 e3 z1 z2 z3 k0 k1 k2 k3
 refine aK Try.func18 low18 (by simp [c18]) ?_
 simp only [c18]
 repeat' ((first | apply ai | apply ah | apply am | apply au | refine aq rfl ?_ | apply al | apply aj | apply ae | apply ak mixed | (with_reducible first | refine af ?_ | refine ar (f := .c (.fn 32 [])) ?_ | refine ar (f := .c (.fn 33 [])) ?_ | refine ar (f := .c (.fn 34 [])) ?_ | refine ao ?_ | refine ab (h1) (by simp) ?_ | refine ab (h2) (by simp) ?_ | refine ab (h3) (by simp) ?_) | (refine aa ?_ ?_ <;> intro hc <;> (try simp only [hc]) <;> try simp at hc) | (with_reducible refine ⟨?_, ?_⟩; (focus ((repeat' with_reducible refine ⟨?_, ?_⟩) <;> first | exact trivial | assumption | (simp; done) | (simp only [List.length_map] at *; omega) | omega | (simp [fs]; done) | exact ay))) | (with_reducible intro x hx) | omega) <;> (try simp only [hB, hK, hS, u1, u2, u3, u4, u5, u6, u7, u8, u9, u10, u11, Nat.reduceBEq, reduceIte, Nat.reduceEqDiff, Nat.reduceAdd, Nat.reduceSub, Nat.reduceLT, Nat.reduceLeDiff, reduceCtorEq, cond_true, fw, fd]))
 refine aw [0, 1, 2] (by rfl) (by simp) (by simp [fg])
end Go.Proofs.Ytgefljdclekadaa
