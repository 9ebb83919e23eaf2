import Derived.Test.YtgefljdclekadaaGreatWMA
import Derived.Test.YtgefljdclekadaaGreatVi25
set_option linter.unusedVariables false
set_option linter.unusedSimpArgs false
namespace Go.Proofs.YtgefljdclekadaaGreat
open Go Go.Vi
def bl (n : Nat) : List UInt8 := if h : n < 128 then [UInt8.ofNat n] else UInt8.ofNat (128 + n % 128) :: bl (n / 128)
theorem ci {n : Nat} (h : n < 128) : bl n = [UInt8.ofNat n] := by rw [bl, dif_pos h]
theorem gU {n : Nat} (h : 128 ≤ n) : bl n = UInt8.ofNat (128 + n % 128) :: bl (n / 128) := by rw [bl, dif_neg (by omega)]
theorem t7 : ∀ (k n : Nat), n < 2 ^ (7 * (k + 1)) → (bl n).length ≤ k + 1
 | k, n, h => by
  by_cases h1 : n < 128
  ·rw [ci h1]; simp
  ·cases k with
   | zero => simp at h; omega
   | succ k =>
    rw [gU (by omega)]
    have := t7 k (n / 128) (by
     rw [Nat.div_lt_iff_lt_mul (by decide)]
     have e : 2 ^ (7 * (k + 1 + 1)) = 2 ^ (7 * (k + 1)) * 128 := by rw [show 7 * (k + 1 + 1) = 7 * (k + 1) + 7 by omega, Nat.pow_add]
     omega)
    simp; omega
theorem bv {n : Nat} (h : n < 18446744073709551616) : (bl n).length ≤ 10 := t7 9 n (by
 have : 2 ^ (7 * (9 + 1)) = 1180591620717411303424 := by decide
 omega)
def r8 (l : List UInt8) : List (List D) := l.map fun b => [D.int .u8 (b.toNat : Int)]
theorem be {l : List UInt8} : (r8 l).length = l.length := by simp [r8]
abbrev Wr (k : Nat) : Ob := ⟨true, false, false, false, 1, [[.own 1 0 k k 1 none]], some 0⟩
theorem wu8m {n : Nat} : IntKind.u8.wrap (n : Int) = ((n % 256 : Nat) : Int) := by
 unfold IntKind.wrap
 simp [IntKind.bits, IntKind.signed]
theorem or128 (m : Nat) : jv .u8 (IntKind.u8.wrap (m : Int)) 128 = ((UInt8.ofNat (128 + m % 128)).toNat : Int) := by
 have key : ∀ x : Fin 256, jv .u8 ((x.1 : Nat) : Int) 128 = ((UInt8.ofNat (128 + x.1 % 128)).toNat : Int) := by decide +kernel
 rw [wu8m]
 have := key ⟨m % 256, Nat.mod_lt _ (by decide)⟩
 simp only at this
 rw [this]
 congr 4
 omega
theorem fN (l : List UInt8) (n : Nat) (x : Int) (hx : x = n) (hn : n < 18446744073709551616) (hl : l.length ≤ 1099511627776) : az Tryz.prog 97 [.ptr 0 0 0 1, .int .u64 x] [Wr l.length, ba true 1 true (r8 l)] (.tup []) [Wr (l ++ bl n).length, ba true 1 true (r8 (l ++ bl n))] := by
 subst hx
 refine aS Tryz.func97 low97 (by simp [c97]) ?_
 simp only [c97]
 repeat' ((first | apply ah | apply al | apply ao | apply av | refine aq rfl ?_ | apply ai | apply af | apply ab | apply ak mixed | with_reducible refine au ?_ | simp (disch := omega) only [aW, aF, aK, aL, bg, zI, zH] | (refine aa ?_ ?_ <;> intro hc <;> (try simp only [hc]) <;> try simp at hc) | (with_reducible refine ⟨?_, ?_⟩; (focus ((repeat' with_reducible refine ⟨?_, ?_⟩) <;> first | exact trivial | assumption | (simp; done) | (simp only [zA] at *; omega) | omega | (simp [fs]; done)))) | (with_reducible intro x hx) | omega) <;> (try simp only [Wr, cond_false, fw, fd]))
 refine aM (ι := {p : List UInt8 × Nat // p.1 ++ bl p.2 = l ++ bl n ∧ p.2 < 18446744073709551616}) (fun i => ([(0, .ptr 0 0 0 1), (1, .int .u64 i.1.2)], [Wr i.1.1.length, ba true 1 true (r8 i.1.1)])) (fun i => i.1.2) ⟨(l, n), rfl, hn⟩ ?_ ?_
 ·simp only [Wr]
  refine aC [0, 1] (by rfl) (by simp) (by simp [fg]) (by simp [fg])
 rintro ⟨⟨p, m⟩, hp, hm⟩ hk
 dsimp only at hp hm hk ⊢
 have h10 := bv hn
 have hlen := congrArg List.length hp
 simp only [zB] at hlen
 repeat' ((first | apply ah | apply al | apply ao | apply av | refine aq rfl ?_ | apply ai | apply af | apply ab | apply ak mixed | with_reducible refine au ?_ | simp (disch := omega) only [bg] | (refine aa ?_ ?_ <;> intro hc <;> (try simp only [hc]) <;> try simp at hc) | (with_reducible refine ⟨?_, ?_⟩; (focus ((repeat' with_reducible refine ⟨?_, ?_⟩) <;> first | exact trivial | assumption | (simp; done) | (simp only [zA] at *; omega) | omega | (simp [fs]; done)))) | (with_reducible intro x hx) | omega) <;> (try simp only [Wr, be, Nat.reduceBEq, reduceIte, Nat.reduceLeDiff, Int.reduceToNat, Int.reduceLE, IntKind.bits, Int.reducePow, fw, fd]))
 ·refine hk ⟨(p ++ [UInt8.ofNat (128 + m % 128)], m / 128), ?_, by dsimp only; omega⟩ _ _ (by dsimp only; omega) ?_
  ·dsimp only
   rw [gU (by omega)] at hp
   rw [← hp]; simp
  ·have e : r8 p ++ [[D.int IntKind.u8 (jv .u8 (IntKind.u8.wrap ↑m) 128)]] = r8 (p ++ [UInt8.ofNat (128 + m % 128)]) := by
    rw [or128]; simp [r8]
   simp only [e, Wr]
   refine aC [0, 1] (by rfl) (by simp) (by simp [fg]) (by simp [fg])
 ·have hms : m < 128 := by omega
  rw [ci hms] at hp hlen
  have e : r8 p ++ [[D.int IntKind.u8 ↑m]] = r8 (l ++ bl n) := by
   rw [← hp]
   simp [r8]; omega
  simp only [zK, zL] at hlen
  have e2 : p.length + 1 = l.length + (bl n).length := by omega
  simp only [e, e2]
  refine ay [0, 1] (by rfl) (by simp) (by simp [fg])
end Go.Proofs.YtgefljdclekadaaGreat

namespace Go.Proofs.YtgefljdclekadaaGreat
open Go Go.Vi
theorem ax {l : List UInt8} : ∀ r, r ∈ r8 l → r.length = 1 := fun r hr => by
 obtain ⟨b, _, rfl⟩ := List.mem_map.1 hr
 rfl
theorem rd : r8 [] = [] := rfl
theorem jC : az Tryz.prog 19 [] [] (.ptr 0 0 0 1) [Wr 0, ba true 1 true (r8 [])] := by
 refine aS Tryz.func19 low19 (by simp [c19]) ?_
 simp only [c19]
 repeat' ((first | apply ah | apply af | apply ak mixed | with_reducible refine au ?_ | (with_reducible refine ⟨?_, ?_⟩; (focus ((repeat' with_reducible refine ⟨?_, ?_⟩) <;> first | exact trivial | assumption | (simp; done) | (simp only [zA] at *; omega) | omega | (simp [fs]; done) | exact ax))) | (with_reducible intro x hx) | omega) <;> (try simp only [Wr, rd, reduceCtorEq, ne_eq, fw, fd]))
 refine ck (gq (l := 0) (j := 0) (i := 0) (b := true) 1 true (by decide) rfl rfl rfl rfl rfl) ?_
 repeat' ((first | apply ah | apply ai | apply af | apply ak mixed | with_reducible refine au ?_ | (with_reducible refine ⟨?_, ?_⟩; (focus ((repeat' with_reducible refine ⟨?_, ?_⟩) <;> first | exact trivial | assumption | (simp; done) | (simp only [zA] at *; omega) | omega | (simp [fs]; done) | exact ax))) | (with_reducible intro x hx) | omega) <;> (try simp only [cf, fw]))
 refine ay [0, 1] (by rfl) (by simp) (by simp [fg])
theorem zh {l : List UInt8} (h : (r8 l).isEmpty = true) : l = [] := by simpa [r8] using h
theorem rM (l : List UInt8) (hl : l.length ≤ 1099511627776) : az Tryz.prog 71 [.own 0 0 l.length l.length 1 none] [ba true 1 true (r8 l)] (.list none false (r8 l)) [ba true 1 true (r8 l)] := by
 refine aS Tryz.func71 low71 (by simp [c71]) ?_
 simp only [c71]
 repeat' ((first | apply ah | apply al | apply ai | apply af | apply ab | apply ak mixed | with_reducible refine au ?_ | (refine aa ?_ ?_ <;> intro hc <;> (try simp only [hc]) <;> try simp at hc) | (with_reducible refine ⟨?_, ?_⟩; (focus ((repeat' with_reducible refine ⟨?_, ?_⟩) <;> first | exact trivial | assumption | (simp; done) | (simp only [zA] at *; omega) | omega | (simp [fs]; done) | exact ax))) | (with_reducible intro x hx) | omega) <;> (try simp only [be, Nat.reduceBEq, reduceIte, cond_false, implies_true, fw, fd]))
 ·have h := zh (by simpa using hc)
  subst h
  simp only [rd]
  refine od [0] (by rfl) (by simp) (by simp [fg])
 ·have h : (r8 l).isEmpty = false := by simpa using hc
  refine od [0] (by rfl) (by simp) (by simp [be, fg])
theorem pD (l : List UInt8) (hl : l.length ≤ 1099511627776) : aP Tryz.prog 71 [.list none false (r8 l)] (.list none false (r8 l)) := by
 refine bf Tryz.func71 low71 (by simp [c71]) ?_
 simp only [c71]
 refine th 0 rfl fun b hb => ?_
 repeat' ((first | apply ah | apply al | apply ai | apply af | apply ab | apply ak mixed | with_reducible refine ac ?_ | (refine aa ?_ ?_ <;> intro hc <;> (try simp only [hc]) <;> try simp at hc) | (with_reducible refine ⟨?_, ?_⟩; (focus ((repeat' with_reducible refine ⟨?_, ?_⟩) <;> first | exact trivial | assumption | (simp; done) | (simp only [zA] at *; omega) | omega | (simp [fs]; done) | exact ax))) | (with_reducible intro x hx) | omega) <;> (try simp only [be, Nat.reduceBEq, reduceIte, cond_false, implies_true, fw, fd]))
 exact (hb hc).symm
theorem vP (l : List UInt8) (hl : l.length ≤ 1099511627776) : az Tryz.prog 61 [.ptr 0 0 0 1] [Wr l.length, ba true 1 true (r8 l)] (.list none false (r8 l)) [Wr l.length, ba true 1 true (r8 l)] := by
 refine aS Tryz.func61 low61 (by simp [c61]) ?_
 simp only [c61]
 repeat' ((first | apply ah | apply al | apply ai | apply af | apply ab | apply ak mixed | (with_reducible first | refine au ?_ | refine aT (f := .c (.fn 71 [])) (z := []) (q := [1]) ?_ | refine aO (f := .c (.fn 71 [])) (z := []) (q := [1]) ?_ | refine ar ?_ | refine am (rM _ (by omega)) (by simp) ?_) | (refine aa ?_ ?_ <;> intro hc <;> (try simp only [hc]) <;> try simp at hc) | (with_reducible refine ⟨?_, ?_⟩; (focus ((repeat' with_reducible refine ⟨?_, ?_⟩) <;> first | exact trivial | assumption | (simp; done) | (simp only [zA] at *; omega) | omega | (simp [fs]; done) | exact ax))) | (with_reducible intro x hx) | omega) <;> (try simp only [Wr, Nat.reduceBEq, reduceIte, Nat.reduceAdd, cond_false, fw, fd]))
 refine ay [0, 1] (by rfl) (by simp) (by simp [fg])
def zz (n : Int) : Nat := if 0 ≤ n then (2 * n).toNat else (2 * (-(n + 1)) + 1).toNat
theorem fu {n : Int} (h1 : -9223372036854775808 ≤ n) (h2 : n ≤ 9223372036854775807) : zz n < 18446744073709551616 := by unfold zz; split <;> omega
theorem dm (n : Int) : IntKind.u64.wrap n = n % 18446744073709551616 := by
 unfold IntKind.wrap
 simp [IntKind.bits, IntKind.signed]
theorem xor0 (x : Int) (h1 : 0 ≤ x) (h2 : x ≤ 18446744073709551615) : eJ .u64 x 0 = x := by
 have e : (BitVec.ofInt 64 x ^^^ BitVec.ofInt 64 0).toNat = x.toNat := by
  rw [show BitVec.ofInt 64 0 = 0#64 from rfl, BitVec.xor_zero, BitVec.toNat_ofInt]; omega
 have : eJ .u64 x 0 = IntKind.u64.wrap ((BitVec.ofInt 64 x ^^^ BitVec.ofInt 64 0).toNat : Nat) := rfl
 rw [this, e, aF (by omega) (by omega)]; omega
theorem xor1 (x : Int) (h1 : 0 ≤ x) (h2 : x ≤ 18446744073709551615) : eJ .u64 x 18446744073709551615 = 18446744073709551615 - x := by
 have e : (BitVec.ofInt 64 x ^^^ BitVec.ofInt 64 18446744073709551615).toNat = 18446744073709551615 - x.toNat := by
  rw [show BitVec.ofInt 64 18446744073709551615 = BitVec.allOnes 64 from rfl, BitVec.xor_allOnes, BitVec.toNat_not, BitVec.toNat_ofInt]; omega
 have : eJ .u64 x 18446744073709551615 = IntKind.u64.wrap ((BitVec.ofInt 64 x ^^^ BitVec.ofInt 64 18446744073709551615).toNat : Nat) := rfl
 rw [this, e, aF (by omega) (by omega)]; omega
theorem xk {n : Int} (h1 : -9223372036854775808 ≤ n) (h2 : n ≤ 9223372036854775807) : eJ .u64 (IntKind.u64.wrap (IntKind.u64.wrap n * 2)) (IntKind.u64.wrap (n / 9223372036854775808)) = zz n := by
 by_cases h : 0 ≤ n
 ·have e : n / 9223372036854775808 = 0 := by omega
  rw [e, dm 0, dm n, dm, show (0 : Int) % 18446744073709551616 = 0 from rfl, xor0 _ (by omega) (by omega)]
  unfold zz; rw [if_pos h]; omega
 ·have e : n / 9223372036854775808 = -1 := by omega
  rw [e, dm (-1), dm n, dm, show (-1 : Int) % 18446744073709551616 = 18446744073709551615 from rfl, xor1 _ (by omega) (by omega)]
  unfold zz; rw [if_neg h]; omega
theorem oX (l : List UInt8) (n : Int) (h1 : -9223372036854775808 ≤ n) (h2 : n ≤ 9223372036854775807) (hl : l.length ≤ 1099511627776) :
  az Tryz.prog 135 [.ptr 0 0 0 1, .int .i64 n] [Wr l.length, ba true 1 true (r8 l)] (.tup []) [Wr (l ++ bl (zz n)).length, ba true 1 true (r8 (l ++ bl (zz n)))] := by
 refine aS Tryz.func135 low135 (by simp [c135]) ?_
 simp only [c135]
 repeat' ((first | apply ah | apply ai | apply af | apply ak mixed | (with_reducible first | refine au ?_ | refine aT (f := .c (.fn 97 [])) (z := []) (q := [0, 1]) ?_ | refine aO (f := .c (.fn 97 [])) (z := []) (q := [0, 1]) ?_ | refine ar ?_ | refine am (fN _ _ _ (xk h1 h2) (fu h1 h2) (by omega)) (by simp) ?_) | simp (disch := omega) only [aW, aF, aK, aL, bg, zI, zH] | (with_reducible refine ⟨?_, ?_⟩; (focus ((repeat' with_reducible refine ⟨?_, ?_⟩) <;> first | exact trivial | assumption | (simp; done) | (simp only [zA] at *; omega) | omega | (simp [fs]; done) | exact ax))) | (with_reducible intro x hx) | omega) <;> (try simp only [Wr, Nat.reduceBEq, reduceIte, Nat.reduceAdd, Nat.reduceSub, Nat.reduceLeDiff, reduceCtorEq, Int.reduceToNat, Int.reduceLE, IntKind.bits, Int.reducePow, fw, fd]))
 refine ay [0, 1] (by rfl) (by simp) (by simp [fg])
theorem yV (l : List UInt8) (b : Bool) (hl : l.length ≤ 1099511627776) :
  az Tryz.prog 103 [.ptr 0 0 0 1, .bool b] [Wr l.length, ba true 1 true (r8 l)] (.tup []) [Wr (l ++ [if b then 1 else 0]).length, ba true 1 true (r8 (l ++ [if b then 1 else 0]))] := by
 refine aS Tryz.func103 low103 (by simp [c103]) ?_
 simp only [c103]
 repeat' ((first | apply ah | apply al | apply ai | apply af | apply ab | apply ak mixed | (with_reducible first | refine au ?_ | refine aT (f := .c (.fn 97 [])) (z := []) (q := [0, 1]) ?_ | refine aO (f := .c (.fn 97 [])) (z := []) (q := [0, 1]) ?_ | refine ar ?_ | refine am (fN _ 1 1 rfl (by omega) (by omega)) (by simp) ?_ | refine am (fN _ 0 0 rfl (by omega) (by omega)) (by simp) ?_) | (refine aa ?_ ?_ <;> intro hc <;> (try simp only [hc]) <;> try simp at hc) | (with_reducible refine ⟨?_, ?_⟩; (focus ((repeat' with_reducible refine ⟨?_, ?_⟩) <;> first | exact trivial | assumption | (simp; done) | (simp only [zA] at *; omega) | omega | (simp [fs]; done) | exact ax))) | (with_reducible intro x hx) | omega) <;> (try simp only [Wr, Nat.reduceBEq, reduceIte, Nat.reduceAdd, Nat.reduceSub, reduceCtorEq, fw, fd]))
 ·simp only [ci (show 1 < 128 by decide)]
  refine ay [0, 1] (by rfl) (by simp) (by simp [fg])
 ·simp only [ci (show 0 < 128 by decide)]
  refine ay [0, 1] (by rfl) (by simp) (by simp [fg])
end Go.Proofs.YtgefljdclekadaaGreat

namespace Go.Proofs.YtgefljdclekadaaGreat
open Go Go.Vi
abbrev Rd (l : List UInt8) (bad : Bool) : Ob := ⟨true, false, true, false, 2, [[.list none false (r8 l), .bool bad]], some 0⟩
theorem jB (nl : Option Bool) (tg : Bool) (l : List UInt8) (hl : l.length ≤ 1099511627776) : az Tryz.prog 30 [.list nl tg (r8 l)] [] (.ptr 0 0 0 1) [Rd l false] := by
 refine aS Tryz.func30 low30 (by simp [c30]) ?_
 simp only [c30]
 repeat' ((first | apply ah | apply ai | apply af | apply ak mixed | (with_reducible first | refine au ?_ | refine ar ?_) | refine ae (pD _ (by omega)) ?_ ?_ | (with_reducible refine ⟨?_, ?_⟩; (focus ((repeat' with_reducible refine ⟨?_, ?_⟩) <;> first | exact trivial | assumption | (simp; done) | (simp only [zA] at *; omega) | omega | (simp [fs]; done) | exact ax))) | (with_reducible intro x hx) | omega) <;> (try simp only [Rd, Nat.reduceBEq, reduceIte, Nat.reduceAdd, Nat.reduceLeDiff, reduceCtorEq, ne_eq, fw, fd]))
 refine ay [0] (by rfl) (by simp) (by simp [fg])
theorem cZ (l : List UInt8) (b : Bool) : aP Tryz.prog 98 [.elt [.list none false (r8 l), .bool b] 0] (.bool b) := by
 refine bf Tryz.func98 low98 (by simp [c98]) ?_
 simp only [c98]
 repeat' ((first | apply ah | apply ai | apply af | apply ak mixed | with_reducible refine ac ?_ | (refine aj ?_ ?_ <;> intro hc <;> (try simp only [hc]) <;> try simp at hc) | (with_reducible refine ⟨?_, ?_⟩; (focus ((repeat' with_reducible refine ⟨?_, ?_⟩) <;> first | exact trivial | assumption | (simp; done) | (simp only [zA] at *; omega) | omega | (simp [fs]; done) | exact ax))) | (with_reducible intro x hx) | omega) <;> (try simp only [Nat.reduceBEq, reduceIte, cond_false, fw, fd]))
theorem end_p (l : List UInt8) (b : Bool) : aP Tryz.prog 72 [.elt [.list none false (r8 l), .bool b] 0] (.bool (!b && l.isEmpty)) := by
 refine bf Tryz.func72 low72 (by simp [c72]) ?_
 simp only [c72]
 repeat' ((first | apply ah | apply ai | apply af | apply ak mixed | (with_reducible first | refine ac ?_ | refine ar ?_) | refine ae (cZ _ _) ?_ ?_ | (refine aj ?_ ?_ <;> intro hc <;> (try simp only [hc]) <;> try simp at hc) | (with_reducible refine ⟨?_, ?_⟩; (focus ((repeat' with_reducible refine ⟨?_, ?_⟩) <;> first | exact trivial | assumption | (simp; done) | (simp only [zA] at *; omega) | omega | (simp [fs]; done) | exact ax))) | (with_reducible intro x hx) | omega) <;> (try simp only [be, Nat.reduceBEq, reduceIte, cond_true, cond_false, fw, fd]))
 cases l <;> simp
 omega
theorem eZ (l : List UInt8) (b : Bool) : az Tryz.prog 133 [.ptr 0 0 0 1] [Rd l b] (.int .u64 0) [Rd l true] := by
 refine aS Tryz.func133 low133 (by simp [c133]) ?_
 simp only [c133]
 repeat' ((first | apply ah | apply al | apply ai | apply af | apply ab | apply ak mixed | with_reducible refine au ?_ | (refine aa ?_ ?_ <;> intro hc <;> (try simp only [hc]) <;> try simp at hc) | (with_reducible refine ⟨?_, ?_⟩; (focus ((repeat' with_reducible refine ⟨?_, ?_⟩) <;> first | exact trivial | assumption | (simp; done) | (simp only [zA] at *; omega) | omega | (simp [fs]; done) | exact ax))) | (with_reducible intro x hx) | omega) <;> (try simp only [Rd, Nat.reduceBEq, Nat.reduceAdd, cond_true, fw, fd]))
 refine ay [0] (by rfl) (by simp) (by simp [fg])
end Go.Proofs.YtgefljdclekadaaGreat

namespace Go.Proofs.YtgefljdclekadaaGreat
open Go Go.Vi
def eU (most : Nat) : List UInt8 → Nat → Nat → Nat × List UInt8 × Bool
 | [], _, _ => (0, [], true)
 | c :: cs, n, s => if 63 < s ∨ 18446744073709551616 ≤ c.toNat % 128 * 2 ^ s ∨ (c.toNat = 0 ∧ 0 < s) then (0, cs, true)
  else if c.toNat < 128 then (if most < n + c.toNat % 128 * 2 ^ s then (0, cs, true) else (n + c.toNat % 128 * 2 ^ s, cs, false))
  else eU most cs (n + c.toNat % 128 * 2 ^ s) (s + 7)
theorem cz (c : UInt8) : ip .u8 (c.toNat : Int) 127 = ((c.toNat % 128 : Nat) : Int) := by
 have key : ∀ x : Fin 256, ip .u8 ((x.1 : Nat) : Int) 127 = ((x.1 % 128 : Nat) : Int) := by decide +kernel
 exact key ⟨c.toNat, c.toNat_lt⟩
theorem yi {x y : Nat} (hx : x < 18446744073709551616) (hy : y < 18446744073709551616) : jv .u64 (x : Int) (y : Int) = ((x ||| y : Nat) : Int) := by
 have e : (BitVec.ofInt 64 (x : Int) ||| BitVec.ofInt 64 (y : Int)).toNat = x ||| y := by
  rw [BitVec.toNat_or, BitVec.ofInt_natCast, BitVec.ofInt_natCast, BitVec.toNat_ofNat, BitVec.toNat_ofNat, Nat.mod_eq_of_lt hx, Nat.mod_eq_of_lt hy]
 have h1 : jv .u64 (x : Int) (y : Int) = IntKind.u64.wrap ((BitVec.ofInt 64 (x : Int) ||| BitVec.ofInt 64 (y : Int)).toNat : Nat) := rfl
 have := Nat.or_lt_two_pow (n := 64) hx hy
 rw [h1, e, aF (by omega) (by omega)]
theorem dH (x s : Nat) : IntKind.u64.wrap ((x : Int) * 2 ^ s) = ((x * 2 ^ s % 18446744073709551616 : Nat) : Int) := by
 rw [dm]
 rw [show ((x : Int) * 2 ^ s) = ((x * 2 ^ s : Nat) : Int) by simp]
 omega
theorem yU {x s : Nat} (hs : s ≤ 63) : x * 2 ^ s % 18446744073709551616 / 2 ^ s = x ↔ x * 2 ^ s < 18446744073709551616 := by
 have e : 18446744073709551616 = 2 ^ s * 2 ^ (64 - s) := by rw [← Nat.pow_add, show s + (64 - s) = 64 by omega]
 have hp : 0 < 2 ^ s := Nat.two_pow_pos s
 rw [e, Nat.mul_comm x, Nat.mul_mod_mul_left, Nat.mul_div_cancel_left _ hp, Nat.mul_lt_mul_left hp]
 constructor
 ·intro h; rw [← h]; exact Nat.mod_lt _ (Nat.two_pow_pos _)
 ·exact Nat.mod_eq_of_lt
theorem dB {a s : Nat} : ((a : Nat) : Int).fdiv (2 ^ s) = ((a / 2 ^ s : Nat) : Int) := by
 rw [show ((2 : Int) ^ s) = ((2 ^ s : Nat) : Int) by simp, Int.fdiv_eq_ediv_of_nonneg _ (Int.natCast_nonneg _), Int.natCast_ediv]
theorem wm {n x s : Nat} (hn : n < 2 ^ s) (hx : x * 2 ^ s < 18446744073709551616) (hn' : n < 18446744073709551616) : jv .u64 (n : Int) ((x * 2 ^ s : Nat) : Int) = ((n + x * 2 ^ s : Nat) : Int) := by
 rw [yi hn' hx]
 have := Nat.shiftLeft_add_eq_or_of_lt hn x
 rw [Nat.shiftLeft_eq] at this
 rw [Nat.or_comm, ← this, Nat.add_comm]
theorem bY {c : UInt8} {cs : List UInt8} : (r8 (c :: cs))[0]? = some [.int .u8 (c.toNat : Int)] := rfl
theorem bX {l : List UInt8} {k : Nat} : (r8 l).drop k = r8 (l.drop k) := by simp [r8]
theorem cd {l : List UInt8} {k : Nat} : (r8 l).take k = r8 (l.take k) := by simp [r8]
set_option maxHeartbeats 1000000 in
theorem uA (l : List UInt8) (m : Nat) (x : Int) (hx : x = m) (hl : l.length ≤ 1099511627776) : az Tryz.prog 96 [.ptr 0 0 0 1, .int .u64 x] [Rd l false] (.int .u64 (eU m l 0 0).1) [Rd (eU m l 0 0).2.1 (eU m l 0 0).2.2] := by
 subst hx
 refine aS Tryz.func96 low96 (by simp [c96]) ?_
 simp only [c96]
 repeat' ((first | apply ah | apply al | apply ao | apply av | refine aq rfl ?_ | apply ai | apply af | apply ab | apply ak mixed | (with_reducible first | refine au ?_ | refine ar ?_) | simp (disch := omega) only [aW, aF, aK, aL, bg, zI, zH] | (with_reducible refine aU rfl rfl ?_ ?_; (focus ((try simp only [Wr, Rd, be, bY, bX, cd, List.take_length, cz, dH, dB, reduceIte, Nat.sub_zero, fw]) <;> ((repeat' (with_reducible refine And.intro ?_ ?_)) <;> first | exact trivial | assumption | (simp; done) | (simp only [zA] at *; omega) | omega | (simp [fs]; done) | exact ax)))) | ((first | refine aj ?_ ?_ | refine aa ?_ ?_) <;> intro hc <;> (try simp only [hc]) <;> try simp at hc) | (with_reducible refine ⟨?_, ?_⟩; (focus ((repeat' with_reducible refine ⟨?_, ?_⟩) <;> first | exact trivial | assumption | (simp; done) | (simp only [zA] at *; omega) | omega | (simp [fs]; done) | exact ax))) | (with_reducible intro x hx) | omega) <;> (try simp only [Rd, de, fw]))
 refine aM (ι := {p : List UInt8 × Nat × Nat // eU m p.1 p.2.1 p.2.2 = eU m l 0 0 ∧ p.2.1 < 2 ^ p.2.2 ∧ p.2.1 < 18446744073709551616 ∧ p.2.2 ≤ 70 ∧ p.1.length ≤ 1099511627776}) (fun i => ([(0, .ptr 0 0 0 1), (1, .int .u64 m), (5, .int .u64 i.1.2.1), (6, .int .i64 i.1.2.2)], [Rd i.1.1 false])) (fun i => i.1.1.length) ⟨(l, 0, 0), rfl, by simp, by simp, by simp, hl⟩ ?_ ?_
 ·refine aC [0] (by rfl) (by simp) (by simp [fg]) (by simp [fg])
 rintro ⟨⟨p, n, s⟩, hp, hn, hn', hs, hpl⟩ hk
 dsimp only at hp hn hn' hs hpl hk ⊢
 cases p with
 | nil =>
  repeat' ((first | apply ah | apply al | apply ao | apply av | refine aq rfl ?_ | apply ai | apply af | apply ab | apply ak mixed | (with_reducible first | refine au ?_ | refine aT (f := .c (.fn 133 [])) (z := []) (q := [0]) ?_ | refine aO (f := .c (.fn 133 [])) (z := []) (q := [0]) ?_ | refine ar ?_) | refine ae (cZ _ _) ?_ ?_ | with_reducible refine am (eZ _ _) (by simp) ?_ | simp (disch := omega) only [aW, aF, aK, aL, bg, zI, zH] | (with_reducible refine aU rfl rfl ?_ ?_; (focus ((try simp only [Wr, Rd, be, bY, bX, cd, List.take_length, cz, dH, dB, reduceIte, Nat.sub_zero, fw]) <;> ((repeat' (with_reducible refine And.intro ?_ ?_)) <;> first | exact trivial | assumption | (simp; done) | (simp only [zA] at *; omega) | omega | (simp [fs]; done) | exact ax)))) | ((first | refine aj ?_ ?_ | refine aa ?_ ?_) <;> intro hc <;> (try simp only [hc]) <;> try simp at hc) | (with_reducible refine ⟨?_, ?_⟩; (focus ((repeat' with_reducible refine ⟨?_, ?_⟩) <;> first | exact trivial | assumption | (simp; done) | (simp only [zA] at *; omega) | omega | (simp [fs]; done) | exact ax))) | (with_reducible intro x hx) | omega) <;> (try simp only [Rd, be, Nat.reduceBEq, reduceIte, cond_true, fw, fd]))
  have e : eU m l 0 0 = (0, [], true) := by rw [← hp, eU]
  simp only [e]
  refine ay [0] (by rfl) (by simp) (by simp [fg])
 | cons c cs =>
  by_cases h63 : 63 < s
  ·have e : eU m l 0 0 = (0, cs, true) := by rw [← hp, eU, if_pos (.inl h63)]
   have h1 : ((s : Int) > 63) = True := by simp; omega
   repeat' ((first | apply ah | apply al | apply ao | apply av | refine aq rfl ?_ | apply ai | apply af | apply ab | apply ak mixed | (with_reducible first | refine au ?_ | refine aT (f := .c (.fn 133 [])) (z := []) (q := [0]) ?_ | refine aO (f := .c (.fn 133 [])) (z := []) (q := [0]) ?_ | refine ar ?_) | refine ae (cZ _ _) ?_ ?_ | with_reducible refine am (eZ _ _) (by simp) ?_ | simp (disch := omega) only [aW, aF, aK, aL, bg, zI, zH] | (with_reducible refine aU rfl rfl ?_ ?_; (focus ((try simp only [Wr, Rd, be, bY, bX, cd, List.take_length, cz, dH, dB, reduceIte, Nat.sub_zero, fw]) <;> ((repeat' (with_reducible refine And.intro ?_ ?_)) <;> first | exact trivial | assumption | (simp; done) | (simp only [zA] at *; omega) | omega | (simp [fs]; done) | exact ax)))) | ((first | refine aj ?_ ?_ | refine aa ?_ ?_) <;> intro hc <;> (try simp only [hc]) <;> try simp at hc) | (with_reducible refine ⟨?_, ?_⟩; (focus ((repeat' with_reducible refine ⟨?_, ?_⟩) <;> first | exact trivial | assumption | (simp; done) | (simp only [zA] at *; omega) | omega | (simp [fs]; done) | exact ax))) | (with_reducible intro x hx) | omega) <;> (try simp only [Rd, be, bY, bX, cd, List.take_length, cz, h1, Nat.reduceBEq, reduceIte, Nat.reduceLeDiff, cond_true, Int.reduceToNat, Int.reduceLE, fw, fd]))
   simp only [e]
   refine ay [0] (by rfl) (by simp) (by simp [fg])
  have hm : min s 64 = s := by omega
  have h1 : ((s : Int) > 63) = False := by simp; omega
  have hsp : 0 < 2 ^ s := Nat.two_pow_pos s
  by_cases hbig : 18446744073709551616 ≤ c.toNat % 128 * 2 ^ s
  ·have e : eU m l 0 0 = (0, cs, true) := by rw [← hp, eU, if_pos (.inr (.inl hbig))]
   have h2 : (((c.toNat % 128 * 2 ^ s % 18446744073709551616 / 2 ^ s : Nat) : Int) != ((c.toNat % 128 : Nat) : Int)) = true := by
    have := mt (yU (x := c.toNat % 128) (s := s) (by omega)).1 (by omega)
    simp only [bne_iff_ne, ne_eq, Int.natCast_inj]
    exact this
   repeat' ((first | apply ah | apply al | apply ao | apply av | refine aq rfl ?_ | apply ai | apply af | apply ab | apply ak mixed | (with_reducible first | refine au ?_ | refine aT (f := .c (.fn 133 [])) (z := []) (q := [0]) ?_ | refine aO (f := .c (.fn 133 [])) (z := []) (q := [0]) ?_ | refine ar ?_) | refine ae (cZ _ _) ?_ ?_ | with_reducible refine am (eZ _ _) (by simp) ?_ | simp (disch := omega) only [aF] | (with_reducible refine aU rfl rfl ?_ ?_; (focus ((try simp only [Wr, Rd, be, bY, bX, cd, List.take_length, cz, dH, dB, reduceIte, Nat.sub_zero, fw]) <;> ((repeat' (with_reducible refine And.intro ?_ ?_)) <;> first | exact trivial | assumption | (simp; done) | (simp only [zA] at *; omega) | omega | (simp [fs]; done) | exact ax)))) | ((first | refine aj ?_ ?_ | refine aa ?_ ?_) <;> intro hc <;> (try simp only [hc]) <;> try simp at hc) | (with_reducible refine ⟨?_, ?_⟩; (focus ((repeat' with_reducible refine ⟨?_, ?_⟩) <;> first | exact trivial | assumption | (simp; done) | (simp only [zA] at *; omega) | omega | (simp [fs]; done) | exact ax))) | (with_reducible intro x hx) | omega) <;> (try simp only [Rd, be, bY, bX, cd, List.take_length, cz, dH, dB, h1, hm, h2, Nat.reduceBEq, reduceIte, Nat.reduceLeDiff, cond_true, cond_false, Int.reduceToNat, Int.reduceLE, IntKind.bits, fw, fd]))
   simp only [e]
   refine ay [0] (by rfl) (by simp) (by simp [fg])
  have hor := wm (x := c.toNat % 128) hn (by omega) hn'
  have h2 : (((c.toNat % 128 * 2 ^ s / 2 ^ s : Nat) : Int) != ((c.toNat % 128 : Nat) : Int)) = false := by
   rw [Nat.mul_div_cancel _ hsp]; simp
  have hnew : n + c.toNat % 128 * 2 ^ s < 2 ^ (s + 7) := by
   have e1 : 2 ^ (s + 7) = 128 * 2 ^ s := by rw [Nat.pow_add]; omega
   have e2 : c.toNat % 128 * 2 ^ s ≤ 127 * 2 ^ s := Nat.mul_le_mul_right _ (by omega)
   omega
  have hnew' : n + c.toNat % 128 * 2 ^ s < 18446744073709551616 := by
   have := Nat.or_lt_two_pow (n := 64) hn' (show c.toNat % 128 * 2 ^ s < 2 ^ 64 by omega)
   have e := Nat.shiftLeft_add_eq_or_of_lt hn (c.toNat % 128)
   rw [Nat.shiftLeft_eq] at e
   rw [Nat.or_comm, ← e] at this
   omega
  have hstep := hp
  rw [eU] at hstep
  generalize hv : c.toNat % 128 * 2 ^ s = v at *
  have hmod : v % 18446744073709551616 = v := Nat.mod_eq_of_lt (by omega)
  by_cases hz : c.toNat = 0 ∧ 0 < s
  ·have e : eU m l 0 0 = (0, cs, true) := by rw [← hstep, if_pos (.inr (.inr hz))]
   have h3 : ((c.toNat : Int) == 0) = true := by simp [hz.1]
   have h4 : ((s : Int) > 0) = True := by simp; omega
   repeat' ((first | apply ah | apply al | apply ao | apply av | refine aq rfl ?_ | apply ai | apply af | apply ab | apply ak mixed | (with_reducible first | refine au ?_ | refine aT (f := .c (.fn 133 [])) (z := []) (q := [0]) ?_ | refine aO (f := .c (.fn 133 [])) (z := []) (q := [0]) ?_ | refine ar ?_) | refine ae (cZ _ _) ?_ ?_ | with_reducible refine am (eZ _ _) (by simp) ?_ | simp (disch := omega) only [aF] | (with_reducible refine aU rfl rfl ?_ ?_; (focus ((try simp only [Wr, Rd, be, bY, bX, cd, List.take_length, cz, dH, dB, reduceIte, Nat.sub_zero, fw]) <;> ((repeat' (with_reducible refine And.intro ?_ ?_)) <;> first | exact trivial | assumption | (simp; done) | (simp only [zA] at *; omega) | omega | (simp [fs]; done) | exact ax)))) | ((first | refine aj ?_ ?_ | refine aa ?_ ?_) <;> intro hc <;> (try simp only [hc]) <;> try simp at hc) | (with_reducible refine ⟨?_, ?_⟩; (focus ((repeat' with_reducible refine ⟨?_, ?_⟩) <;> first | exact trivial | assumption | (simp; done) | (simp only [zA] at *; omega) | omega | (simp [fs]; done) | exact ax))) | (with_reducible intro x hx) | omega) <;> (try simp only [Rd, be, bY, bX, cd, List.take_length, cz, dH, dB, h1, hm, hv, hmod, h2, h3, h4, Nat.reduceBEq, reduceIte, Nat.reduceLeDiff, cond_true, cond_false, Int.reduceToNat, Int.reduceLE, IntKind.bits, fw, fd]))
   simp only [e]
   refine ay [0] (by rfl) (by simp) (by simp [fg])
  have hno : ¬ (63 < s ∨ 18446744073709551616 ≤ v ∨ (c.toNat = 0 ∧ 0 < s)) := by omega
  rw [if_neg hno] at hstep
  have h0 : (((c.toNat : Int) == 0) = false ∧ True) ∨ (((c.toNat : Int) == 0) = true ∧ ((s : Int) > 0) = False) := by
   by_cases h : c.toNat = 0
   ·exact .inr ⟨by simp [h], by simp; omega⟩
   ·exact .inl ⟨by simp; omega, trivial⟩
  by_cases hcl : c.toNat < 128
  ·rw [if_pos hcl] at hstep
   have h6 : ((c.toNat : Int) < 128) = True := by simp; omega
   by_cases hmm : m < n + v
   ·rw [if_pos hmm] at hstep
    have h7 : (((n + v : Nat) : Int) > (m : Int)) = True := by simp; omega
    rcases h0 with ⟨h3, h4⟩ | ⟨h3, h4⟩
    ·repeat' ((first | apply ah | apply al | apply ao | apply av | refine aq rfl ?_ | apply ai | apply af | apply ab | apply ak mixed | (with_reducible first | refine au ?_ | refine aT (f := .c (.fn 133 [])) (z := []) (q := [0]) ?_ | refine aO (f := .c (.fn 133 [])) (z := []) (q := [0]) ?_ | refine ar ?_) | refine ae (cZ _ _) ?_ ?_ | with_reducible refine am (eZ _ _) (by simp) ?_ | simp (disch := omega) only [aF] | (with_reducible refine aU rfl rfl ?_ ?_; (focus ((try simp only [Wr, Rd, be, bY, bX, cd, List.take_length, cz, dH, dB, reduceIte, Nat.sub_zero, fw]) <;> ((repeat' (with_reducible refine And.intro ?_ ?_)) <;> first | exact trivial | assumption | (simp; done) | (simp only [zA] at *; omega) | omega | (simp [fs]; done) | exact ax)))) | ((first | refine aj ?_ ?_ | refine aa ?_ ?_) <;> intro hc <;> (try simp only [hc]) <;> try simp at hc) | (with_reducible refine ⟨?_, ?_⟩; (focus ((repeat' with_reducible refine ⟨?_, ?_⟩) <;> first | exact trivial | assumption | (simp; done) | (simp only [zA] at *; omega) | omega | (simp [fs]; done) | exact ax))) | (with_reducible intro x hx) | omega) <;> (try simp only [Rd, be, bY, bX, cd, List.take_length, cz, dH, dB, h1, hm, hv, hmod, h2, h3, h6, h7, hor, Nat.reduceBEq, reduceIte, Nat.reduceLeDiff, cond_true, cond_false, Int.reduceToNat, Int.reduceLE, IntKind.bits, fw, fd]))
     simp only [← hstep]
     refine ay [0] (by rfl) (by simp) (by simp [fg])
    ·repeat' ((first | apply ah | apply al | apply ao | apply av | refine aq rfl ?_ | apply ai | apply af | apply ab | apply ak mixed | (with_reducible first | refine au ?_ | refine aT (f := .c (.fn 133 [])) (z := []) (q := [0]) ?_ | refine aO (f := .c (.fn 133 [])) (z := []) (q := [0]) ?_ | refine ar ?_) | refine ae (cZ _ _) ?_ ?_ | with_reducible refine am (eZ _ _) (by simp) ?_ | simp (disch := omega) only [aF] | (with_reducible refine aU rfl rfl ?_ ?_; (focus ((try simp only [Wr, Rd, be, bY, bX, cd, List.take_length, cz, dH, dB, reduceIte, Nat.sub_zero, fw]) <;> ((repeat' (with_reducible refine And.intro ?_ ?_)) <;> first | exact trivial | assumption | (simp; done) | (simp only [zA] at *; omega) | omega | (simp [fs]; done) | exact ax)))) | ((first | refine aj ?_ ?_ | refine aa ?_ ?_) <;> intro hc <;> (try simp only [hc]) <;> try simp at hc) | (with_reducible refine ⟨?_, ?_⟩; (focus ((repeat' with_reducible refine ⟨?_, ?_⟩) <;> first | exact trivial | assumption | (simp; done) | (simp only [zA] at *; omega) | omega | (simp [fs]; done) | exact ax))) | (with_reducible intro x hx) | omega) <;> (try simp only [Rd, be, bY, bX, cd, List.take_length, cz, dH, dB, h1, hm, hv, hmod, h2, h3, h4, h6, h7, hor, Nat.reduceBEq, reduceIte, Nat.reduceLeDiff, cond_true, cond_false, Int.reduceToNat, Int.reduceLE, IntKind.bits, fw, fd]))
     simp only [← hstep]
     refine ay [0] (by rfl) (by simp) (by simp [fg])
   ·rw [if_neg hmm] at hstep
    have h7 : (((n + v : Nat) : Int) > (m : Int)) = False := by simp; omega
    rcases h0 with ⟨h3, h4⟩ | ⟨h3, h4⟩
    ·repeat' ((first | apply ah | apply al | apply ao | apply av | refine aq rfl ?_ | apply ai | apply af | apply ab | apply ak mixed | (with_reducible first | refine au ?_ | refine aT (f := .c (.fn 133 [])) (z := []) (q := [0]) ?_ | refine aO (f := .c (.fn 133 [])) (z := []) (q := [0]) ?_ | refine ar ?_) | refine ae (cZ _ _) ?_ ?_ | with_reducible refine am (eZ _ _) (by simp) ?_ | simp (disch := omega) only [aF] | (with_reducible refine aU rfl rfl ?_ ?_; (focus ((try simp only [Wr, Rd, be, bY, bX, cd, List.take_length, cz, dH, dB, reduceIte, Nat.sub_zero, fw]) <;> ((repeat' (with_reducible refine And.intro ?_ ?_)) <;> first | exact trivial | assumption | (simp; done) | (simp only [zA] at *; omega) | omega | (simp [fs]; done) | exact ax)))) | ((first | refine aj ?_ ?_ | refine aa ?_ ?_) <;> intro hc <;> (try simp only [hc]) <;> try simp at hc) | (with_reducible refine ⟨?_, ?_⟩; (focus ((repeat' with_reducible refine ⟨?_, ?_⟩) <;> first | exact trivial | assumption | (simp; done) | (simp only [zA] at *; omega) | omega | (simp [fs]; done) | exact ax))) | (with_reducible intro x hx) | omega) <;> (try simp only [Rd, be, bY, bX, cd, List.take_length, cz, dH, dB, h1, hm, hv, hmod, h2, h3, h6, h7, hor, Nat.reduceBEq, reduceIte, Nat.reduceLeDiff, cond_true, cond_false, Int.reduceToNat, Int.reduceLE, IntKind.bits, fw, fd]))
     simp only [← hstep]
     refine ay [0] (by rfl) (by simp) (by simp [fg])
    ·repeat' ((first | apply ah | apply al | apply ao | apply av | refine aq rfl ?_ | apply ai | apply af | apply ab | apply ak mixed | (with_reducible first | refine au ?_ | refine aT (f := .c (.fn 133 [])) (z := []) (q := [0]) ?_ | refine aO (f := .c (.fn 133 [])) (z := []) (q := [0]) ?_ | refine ar ?_) | refine ae (cZ _ _) ?_ ?_ | with_reducible refine am (eZ _ _) (by simp) ?_ | simp (disch := omega) only [aF] | (with_reducible refine aU rfl rfl ?_ ?_; (focus ((try simp only [Wr, Rd, be, bY, bX, cd, List.take_length, cz, dH, dB, reduceIte, Nat.sub_zero, fw]) <;> ((repeat' (with_reducible refine And.intro ?_ ?_)) <;> first | exact trivial | assumption | (simp; done) | (simp only [zA] at *; omega) | omega | (simp [fs]; done) | exact ax)))) | ((first | refine aj ?_ ?_ | refine aa ?_ ?_) <;> intro hc <;> (try simp only [hc]) <;> try simp at hc) | (with_reducible refine ⟨?_, ?_⟩; (focus ((repeat' with_reducible refine ⟨?_, ?_⟩) <;> first | exact trivial | assumption | (simp; done) | (simp only [zA] at *; omega) | omega | (simp [fs]; done) | exact ax))) | (with_reducible intro x hx) | omega) <;> (try simp only [Rd, be, bY, bX, cd, List.take_length, cz, dH, dB, h1, hm, hv, hmod, h2, h3, h4, h6, h7, hor, Nat.reduceBEq, reduceIte, Nat.reduceLeDiff, cond_true, cond_false, Int.reduceToNat, Int.reduceLE, IntKind.bits, fw, fd]))
     simp only [← hstep]
     refine ay [0] (by rfl) (by simp) (by simp [fg])
  ·rw [if_neg hcl] at hstep
   have h6 : ((c.toNat : Int) < 128) = False := by simp; omega
   rcases h0 with ⟨h3, h4⟩ | ⟨h3, h4⟩
   ·repeat' ((first | apply ah | apply al | apply ao | apply av | refine aq rfl ?_ | apply ai | apply af | apply ab | apply ak mixed | (with_reducible first | refine au ?_ | refine aT (f := .c (.fn 133 [])) (z := []) (q := [0]) ?_ | refine aO (f := .c (.fn 133 [])) (z := []) (q := [0]) ?_ | refine ar ?_) | refine ae (cZ _ _) ?_ ?_ | with_reducible refine am (eZ _ _) (by simp) ?_ | simp (disch := omega) only [aW, aF] | (with_reducible refine aU rfl rfl ?_ ?_; (focus ((try simp only [Wr, Rd, be, bY, bX, cd, List.take_length, cz, dH, dB, reduceIte, Nat.sub_zero, fw]) <;> ((repeat' (with_reducible refine And.intro ?_ ?_)) <;> first | exact trivial | assumption | (simp; done) | (simp only [zA] at *; omega) | omega | (simp [fs]; done) | exact ax)))) | ((first | refine aj ?_ ?_ | refine aa ?_ ?_) <;> intro hc <;> (try simp only [hc]) <;> try simp at hc) | (with_reducible refine ⟨?_, ?_⟩; (focus ((repeat' with_reducible refine ⟨?_, ?_⟩) <;> first | exact trivial | assumption | (simp; done) | (simp only [zA] at *; omega) | omega | (simp [fs]; done) | exact ax))) | (with_reducible intro x hx) | omega) <;> (try simp only [Rd, be, bY, bX, cd, List.take_length, cz, dH, dB, h1, hm, hv, hmod, h2, h3, h6, hor, Nat.reduceBEq, reduceIte, Nat.reduceLeDiff, cond_true, cond_false, Int.reduceToNat, Int.reduceLE, IntKind.bits, fw, fd]))
    refine hk ⟨(cs, n + v, s + 7), hstep, hnew, hnew', by dsimp only; omega, by dsimp only; simp at hpl; omega⟩ _ _ (by dsimp only; simp) ?_
    refine aC [0] (by rfl) (by simp) (by simp [fg]) (by simp [fg])
   ·repeat' ((first | apply ah | apply al | apply ao | apply av | refine aq rfl ?_ | apply ai | apply af | apply ab | apply ak mixed | (with_reducible first | refine au ?_ | refine aT (f := .c (.fn 133 [])) (z := []) (q := [0]) ?_ | refine aO (f := .c (.fn 133 [])) (z := []) (q := [0]) ?_ | refine ar ?_) | refine ae (cZ _ _) ?_ ?_ | with_reducible refine am (eZ _ _) (by simp) ?_ | simp (disch := omega) only [aW, aF] | (with_reducible refine aU rfl rfl ?_ ?_; (focus ((try simp only [Wr, Rd, be, bY, bX, cd, List.take_length, cz, dH, dB, reduceIte, Nat.sub_zero, fw]) <;> ((repeat' (with_reducible refine And.intro ?_ ?_)) <;> first | exact trivial | assumption | (simp; done) | (simp only [zA] at *; omega) | omega | (simp [fs]; done) | exact ax)))) | ((first | refine aj ?_ ?_ | refine aa ?_ ?_) <;> intro hc <;> (try simp only [hc]) <;> try simp at hc) | (with_reducible refine ⟨?_, ?_⟩; (focus ((repeat' with_reducible refine ⟨?_, ?_⟩) <;> first | exact trivial | assumption | (simp; done) | (simp only [zA] at *; omega) | omega | (simp [fs]; done) | exact ax))) | (with_reducible intro x hx) | omega) <;> (try simp only [Rd, be, bY, bX, cd, List.take_length, cz, dH, dB, h1, hm, hv, hmod, h2, h3, h4, h6, hor, Nat.reduceBEq, reduceIte, Nat.reduceLeDiff, cond_true, cond_false, Int.reduceToNat, Int.reduceLE, IntKind.bits, fw, fd]))
    refine hk ⟨(cs, n + v, s + 7), hstep, hnew, hnew', by dsimp only; omega, by dsimp only; simp at hpl; omega⟩ _ _ (by dsimp only; simp) ?_
    refine aC [0] (by rfl) (by simp) (by simp [fg]) (by simp [fg])
theorem sr (l : List UInt8) (x : Int) : az Tryz.prog 96 [.ptr 0 0 0 1, .int .u64 x] [Rd l true] (.int .u64 0) [Rd l true] := by
 refine aS Tryz.func96 low96 (by simp [c96]) ?_
 simp only [c96]
 repeat' ((first | apply ah | apply al | apply ao | apply av | refine aq rfl ?_ | apply ai | apply af | apply ab | apply ak mixed | (with_reducible first | refine au ?_ | refine ar ?_) | simp (disch := omega) only [aW, aF, aK, aL, bg, zI, zH] | (with_reducible refine aU rfl rfl ?_ ?_; (focus ((try simp only [Wr, Rd, be, bY, bX, cd, List.take_length, cz, dH, dB, reduceIte, Nat.sub_zero, fw]) <;> ((repeat' (with_reducible refine And.intro ?_ ?_)) <;> first | exact trivial | assumption | (simp; done) | (simp only [zA] at *; omega) | omega | (simp [fs]; done) | exact ax)))) | ((first | refine aj ?_ ?_ | refine aa ?_ ?_) <;> intro hc <;> (try simp only [hc]) <;> try simp at hc) | (with_reducible refine ⟨?_, ?_⟩; (focus ((repeat' with_reducible refine ⟨?_, ?_⟩) <;> first | exact trivial | assumption | (simp; done) | (simp only [zA] at *; omega) | omega | (simp [fs]; done) | exact ax))) | (with_reducible intro x hx) | omega) <;> (try simp only [Rd, de, fw]))
 refine aM (ι := Unit) (fun i => ([(0, .ptr 0 0 0 1)], [Rd l true])) (fun i => 0) () ?_ ?_
 ·refine aC [0] (by rfl) (by simp) (by simp [fg]) (by simp [fg])
 rintro ⟨⟩ hk
 dsimp only at hk ⊢
 repeat' ((first | apply ah | apply al | apply ao | apply av | refine aq rfl ?_ | apply ai | apply af | apply ab | apply ak mixed | (with_reducible first | refine au ?_ | refine aT (f := .c (.fn 133 [])) (z := []) (q := [0]) ?_ | refine aO (f := .c (.fn 133 [])) (z := []) (q := [0]) ?_ | refine ar ?_) | refine ae (cZ _ _) ?_ ?_ | with_reducible refine am (eZ _ _) (by simp) ?_ | simp (disch := omega) only [aW, aF, aK, aL, bg, zI, zH] | (with_reducible refine aU rfl rfl ?_ ?_; (focus ((try simp only [Wr, Rd, be, bY, bX, cd, List.take_length, cz, dH, dB, reduceIte, Nat.sub_zero, fw]) <;> ((repeat' (with_reducible refine And.intro ?_ ?_)) <;> first | exact trivial | assumption | (simp; done) | (simp only [zA] at *; omega) | omega | (simp [fs]; done) | exact ax)))) | ((first | refine aj ?_ ?_ | refine aa ?_ ?_) <;> intro hc <;> (try simp only [hc]) <;> try simp at hc) | (with_reducible refine ⟨?_, ?_⟩; (focus ((repeat' with_reducible refine ⟨?_, ?_⟩) <;> first | exact trivial | assumption | (simp; done) | (simp only [zA] at *; omega) | omega | (simp [fs]; done) | exact ax))) | (with_reducible intro x hx) | omega) <;> (try simp only [Rd, Nat.reduceBEq, reduceIte, cond_false, fw, fd]))
 refine ay [0] (by rfl) (by simp) (by simp [fg])
end Go.Proofs.YtgefljdclekadaaGreat

namespace Go.Proofs.YtgefljdclekadaaGreat
open Go Go.Vi
def bs (l : List UInt8) : ByteArray := ⟨l.toArray⟩
theorem ce {l : List UInt8} : (⟨l.toArray⟩ : ByteArray) = bs l := rfl
theorem dq {l : List UInt8} : (bs l).size = l.length := by simp [bs, ByteArray.size]
theorem i2 {l m : List UInt8} : bs l ++ bs m = bs (l ++ m) := by
 apply ByteArray.ext
 simp [bs]
theorem xr {s : ByteArray} : bs s.data.toList = s := by
 apply ByteArray.ext; simp [bs]
theorem yj {l m : List UInt8} (h : bs l = bs m) : l = m := by
 have := congrArg (fun s => s.data.toList) h
 simpa [bs] using this
theorem j9 (l : List UInt8) : bytesOf (r8 l) = some l := by
 induction l with
 | nil => rfl
 | cons c cs ih =>
  have : r8 (c :: cs) = [.int .u8 (c.toNat : Int)] :: r8 cs := rfl
  rw [this, bytesOf, ih]; simp
theorem and1 (v : Nat) (h : v < 18446744073709551616) : ip .u64 (v : Int) 1 = ((v % 2 : Nat) : Int) := by
 have e : (BitVec.ofInt 64 (v : Int) &&& BitVec.ofInt 64 1).toNat = v % 2 := by
  rw [BitVec.toNat_and, BitVec.ofInt_natCast, BitVec.toNat_ofNat, Nat.mod_eq_of_lt h, show (BitVec.ofInt 64 1).toNat = 1 from rfl, Nat.and_one_is_mod]
 have h1 : ip .u64 (v : Int) 1 = IntKind.u64.wrap ((BitVec.ofInt 64 (v : Int) &&& BitVec.ofInt 64 1).toNat : Nat) := rfl
 rw [h1, e, aF (by omega) (by omega)]
def eK (v : Nat) : Int := if v % 2 = 0 then (v / 2 : Nat) else -((v / 2 : Nat) : Int) - 1
theorem rF (n : Int) : eK (zz n) = n := by
 unfold eK zz
 by_cases h : 0 ≤ n
 ·rw [if_pos h, if_pos (by omega)]; omega
 ·rw [if_neg h, if_neg (by omega)]; omega
theorem xorS0 (x : Nat) (h : x < 9223372036854775808) : eJ .i64 (x : Int) 0 = x := by
 have e : (BitVec.ofInt 64 (x : Int) ^^^ BitVec.ofInt 64 0).toNat = x := by
  rw [show BitVec.ofInt 64 0 = 0#64 from rfl, BitVec.xor_zero, BitVec.ofInt_natCast, BitVec.toNat_ofNat]; omega
 have h1 : eJ .i64 (x : Int) 0 = IntKind.i64.wrap ((BitVec.ofInt 64 (x : Int) ^^^ BitVec.ofInt 64 0).toNat : Nat) := rfl
 rw [h1, e, aW (by omega) (by omega)]
theorem xorS1 (x : Nat) (h : x < 9223372036854775808) : eJ .i64 (x : Int) (-1) = -(x : Int) - 1 := by
 have e : (BitVec.ofInt 64 (x : Int) ^^^ BitVec.ofInt 64 (-1)).toNat = 18446744073709551615 - x := by
  rw [show BitVec.ofInt 64 (-1) = BitVec.allOnes 64 from rfl, BitVec.xor_allOnes, BitVec.toNat_not, BitVec.ofInt_natCast, BitVec.toNat_ofNat]; omega
 have h1 : eJ .i64 (x : Int) (-1) = IntKind.i64.wrap ((BitVec.ofInt 64 (x : Int) ^^^ BitVec.ofInt 64 (-1)).toNat : Nat) := rfl
 rw [h1, e]
 unfold IntKind.wrap
 simp [IntKind.bits, IntKind.signed]
 omega
theorem sR {v : Nat} (h : v < 18446744073709551616) : eJ .i64 (IntKind.i64.wrap ((v : Int) / 2)) (IntKind.i64.wrap (0 - IntKind.i64.wrap (ip .u64 v 1))) = eK v := by
 rw [and1 v h, aW (n := (v : Int) / 2) (by omega) (by omega), aW (n := ((v % 2 : Nat) : Int)) (by omega) (by omega), aW (by omega) (by omega)]
 rw [show (v : Int) / 2 = ((v / 2 : Nat) : Int) by omega]
 unfold eK
 by_cases h2 : v % 2 = 0
 ·rw [if_pos h2, h2]; exact xorS0 _ (by omega)
 ·rw [if_neg h2, show v % 2 = 1 by omega]; exact xorS1 _ (by omega)
theorem rg : ∀ (m : Nat) (l : List UInt8) (n s : Nat), m < 18446744073709551616 → (eU m l n s).1 < 18446744073709551616 ∧ (eU m l n s).2.1.length ≤ l.length ∧ (eU m l n s).1 ≤ m
 | m, [], n, s, hm => by simp [eU]
 | m, c :: cs, n, s, hm => by
  rw [eU]
  split
  ·simp
  ·split
   ·split
    ·simp
    ·simp; omega
   ·have := rg m cs (n + c.toNat % 128 * 2 ^ s) (s + 7) hm
    simp only [zK]; omega
theorem fA (n : Nat) : ∀ (x : Int), x = n → n < 18446744073709551616 → aP Tryz.prog 63 [.int .u64 x] (.str (bs (bl n))) := by
 induction n using Nat.strongRecOn with
 | _ n ih =>
  intro x hx hn
  subst hx
  have h10 := bv hn
  refine bf Tryz.func63 low63 (by simp [c63]) ?_
  simp only [c63]
  by_cases h : n < 128
  ·have h1 : ((n : Int) < 128) = True := by simp; omega
   rw [ci h]
   repeat' ((first | apply ah | apply al | apply ai | apply af | apply ab | apply ak mixed | apply ap mixed | (with_reducible first | refine ac ?_ | refine aw ?_) | simp (disch := omega) only [bg] | (refine aa ?_ ?_ <;> intro hc <;> (try simp only [hc]) <;> try simp at hc) | (with_reducible refine ⟨?_, ?_⟩; (focus ((repeat' with_reducible refine ⟨?_, ?_⟩) <;> first | exact trivial | assumption | (simp; done) | (simp only [zA] at *; omega) | omega | (simp [fs]; done) | exact ax))) | (with_reducible intro x hx) | omega) <;> (try simp only [ce, h1, bytesOf, Nat.reduceBEq, reduceIte, fw, fd]))
   skip
  ·have h1 : ((n : Int) < 128) = False := by simp; omega
   have hc := ih (n / 128) (by omega) _ rfl (by omega)
   rw [gU (by omega)] at h10 ⊢
   have e1 : (n : Int).tmod 128 = ((n % 128 : Nat) : Int) := by rw [zH (by omega)]; omega
   have e2 : (n : Int).tdiv 128 = ((n / 128 : Nat) : Int) := by rw [zI (by omega)]; omega
   have e3 : (128 : Int) + ((n % 128 : Nat) : Int) = ((128 + n % 128 : Nat) : Int) := by omega
   simp only [zK] at h10
   repeat' ((first | apply ah | apply al | apply ai | apply af | apply ab | apply ak mixed | apply ap mixed | (with_reducible first | refine ac ?_ | refine aw ?_) | refine ae (hc) ?_ ?_ | simp (disch := omega) only [aF, bg] | (refine aa ?_ ?_ <;> intro hc <;> (try simp only [hc]) <;> try simp at hc) | (with_reducible refine ⟨?_, ?_⟩; (focus ((repeat' with_reducible refine ⟨?_, ?_⟩) <;> first | exact trivial | assumption | (simp; done) | (simp only [zA] at *; omega) | omega | (simp [fs]; done) | exact ax))) | (with_reducible intro x hx) | omega) <;> (try simp only [ce, dq, h1, e1, e2, e3, bytesOf, i2, Nat.reduceBEq, reduceIte, ne_eq, Int.reduceEq, fw, fd]))
   skip
end Go.Proofs.YtgefljdclekadaaGreat

namespace Go.Proofs.YtgefljdclekadaaGreat
open Go Go.Vi
theorem tj {l m : List UInt8} : (bs l == bs m) = decide (l = m) := by
 show ((⟨l⟩ : Array UInt8) == ⟨m⟩) = decide (l = m)
 rw [zN]; simp
theorem nD {s t : ByteArray} : (s == t) = decide (s = t) := by
 rw [← xr (s := s), ← xr (s := t), tj]
 rw [zN]
 simp only [zO]
 exact ⟨fun h => by rw [h], yj⟩
theorem zi (m : Nat) (t : List UInt8) : ∀ (k n s : Nat), n < 2 ^ s → n + k * 2 ^ s < 18446744073709551616 → (s = 0 ∨ 0 < k) → n + k * 2 ^ s ≤ m → eU m (bl k ++ t) n s = (n + k * 2 ^ s, t, false) := by
 intro k
 induction k using Nat.strongRecOn with
 | _ k ih =>
  intro n s hn hb hz hm
  have hs : ¬ 63 < s := fun h => by
   have h1 : 0 < k := by omega
   have h2 : 2 ^ 64 ≤ 2 ^ s := Nat.pow_le_pow_right (by decide) (by omega)
   have h3 : 1 * 2 ^ s ≤ k * 2 ^ s := Nat.mul_le_mul_right _ h1
   omega
  have hp : 0 < 2 ^ s := Nat.two_pow_pos s
  by_cases h : k < 128
  ·rw [ci h, List.cons_append, List.nil_append, eU]
   have e1 : (UInt8.ofNat k).toNat = k := by simp; omega
   have e2 : k % 128 = k := Nat.mod_eq_of_lt h
   rw [e1, e2, if_neg (by omega), if_pos h, if_neg (by omega)]
  ·rw [gU (by omega), List.cons_append, eU]
   have e1 : (UInt8.ofNat (128 + k % 128)).toNat = 128 + k % 128 := by simp; omega
   have e2 : (128 + k % 128) % 128 = k % 128 := by omega
   have e3 : k % 128 * 2 ^ s ≤ k * 2 ^ s := Nat.mul_le_mul_right _ (Nat.mod_le _ _)
   have e4 : 2 ^ (s + 7) = 128 * 2 ^ s := by rw [Nat.pow_add]; omega
   have e5 : n + k % 128 * 2 ^ s + k / 128 * 2 ^ (s + 7) = n + k * 2 ^ s := by
    have e6 : k / 128 * (128 * 2 ^ s) = (k / 128 * 128) * 2 ^ s := by rw [Nat.mul_assoc]
    have e7 : k % 128 * 2 ^ s + (k / 128 * 128) * 2 ^ s = k * 2 ^ s := by rw [← Nat.add_mul]; congr 1; omega
    rw [e4, e6]; omega
   have e8 : k % 128 * 2 ^ s ≤ 127 * 2 ^ s := Nat.mul_le_mul_right _ (by omega)
   rw [e1, e2, if_neg (by omega), if_neg (by omega), ih (k / 128) (by omega) _ _ (by rw [e4]; omega) (by rw [e5]; exact hb) (.inr (by omega)) (by rw [e5]; exact hm), e5]
theorem iO (m k : Nat) (t : List UInt8) (hk : k < 18446744073709551616) (hm : k ≤ m) : eU m (bl k ++ t) 0 0 = (k, t, false) := by
 have := zi m t k 0 0 (by simp) (by simpa using hk) (.inl rfl) (by simpa using hm)
 simpa using this
end Go.Proofs.YtgefljdclekadaaGreat

namespace Go.Proofs.YtgefljdclekadaaGreat
open Go Go.Vi
theorem jF (n : Int) (h1 : -9223372036854775808 ≤ n) (h2 : n ≤ 9223372036854775807) : aP Tryz.prog 64 [.int .i64 n] (.str (bs (bl (zz n)))) := by
 refine bf Tryz.func64 low64 (by simp [c64]) ?_
 simp only [c64]
 have hlt := fu h1 h2
 by_cases h : 0 ≤ n
 ·have hz : (((2 * n.toNat : Nat)) : Int) = zz n := by unfold zz; rw [if_pos h]; omega
  have hz' : zz n = 2 * n.toNat := by omega
  have c1 : (n ≥ 0) = True := by simp; omega
  have e1 : IntKind.u64.wrap n = n := by rw [dm]; omega
  have e2 : IntKind.u64.wrap (2 * n) = 2 * n := by rw [dm]; omega
  repeat' ((first | apply ah | apply al | apply ai | apply af | apply ab | apply ak mixed | (with_reducible first | refine ac ?_ | refine ar ?_) | refine ae (fA (zz n) _ (by omega) (by omega)) ?_ ?_ | simp (disch := omega) only [aW, aF, aK, aL, bg, zI, zH] | (refine aa ?_ ?_ <;> intro hc <;> (try simp only [hc]) <;> try simp at hc) | (with_reducible refine ⟨?_, ?_⟩; (focus ((repeat' with_reducible refine ⟨?_, ?_⟩) <;> first | exact trivial | assumption | (simp; done) | (simp only [zA] at *; omega) | omega | (simp [fs]; done) | exact ax))) | (with_reducible intro x hx) | omega) <;> (try simp only [ce, c1, e1, e2, Nat.reduceBEq, reduceIte, fw, fd]))
 ·have hz' : (zz n : Int) = 2 * (-(n + 1)) + 1 := by unfold zz; rw [if_neg h]; omega
  have c1 : (n ≥ 0) = False := by simp; omega
  have e1 : IntKind.u64.wrap (-(n + 1)) = -(n + 1) := by rw [dm]; omega
  have e2 : IntKind.u64.wrap (2 * -(n + 1)) = 2 * -(n + 1) := by rw [dm]; omega
  have e3 : IntKind.u64.wrap (2 * -(n + 1) + 1) = 2 * -(n + 1) + 1 := by rw [dm]; omega
  repeat' ((first | apply ah | apply al | apply ai | apply af | apply ab | apply ak mixed | (with_reducible first | refine ac ?_ | refine ar ?_) | refine ae (fA (zz n) _ (by omega) (by omega)) ?_ ?_ | simp (disch := omega) only [aW, aF] | (refine aa ?_ ?_ <;> intro hc <;> (try simp only [hc]) <;> try simp at hc) | (with_reducible refine ⟨?_, ?_⟩; (focus ((repeat' with_reducible refine ⟨?_, ?_⟩) <;> first | exact trivial | assumption | (simp; done) | (simp only [zA] at *; omega) | omega | (simp [fs]; done) | exact ax))) | (with_reducible intro x hx) | omega) <;> (try simp only [ce, c1, Nat.reduceBEq, reduceIte, fw, fd]))
theorem su (b : Bool) : aP Tryz.prog 66 [.bool b] (.str (bs [if b then 1 else 0])) := by
 refine bf Tryz.func66 low66 (by simp [c66]) ?_
 simp only [c66]
 cases b
 ·repeat' ((first | apply ah | apply al | apply ai | apply af | apply ab | apply ak mixed | with_reducible refine ac ?_ | (refine aa ?_ ?_ <;> intro hc <;> (try simp only [hc]) <;> try simp at hc) | (with_reducible refine ⟨?_, ?_⟩; (focus ((repeat' with_reducible refine ⟨?_, ?_⟩) <;> first | exact trivial | assumption | (simp; done) | (simp only [zA] at *; omega) | omega | (simp [fs]; done) | exact ax))) | (with_reducible intro x hx) | omega) <;> (try simp only [ce, Nat.reduceBEq, reduceIte, reduceCtorEq, fw, fd]))
  rfl
 ·repeat' ((first | apply ah | apply al | apply ai | apply af | apply ab | apply ak mixed | with_reducible refine ac ?_ | (refine aa ?_ ?_ <;> intro hc <;> (try simp only [hc]) <;> try simp at hc) | (with_reducible refine ⟨?_, ?_⟩; (focus ((repeat' with_reducible refine ⟨?_, ?_⟩) <;> first | exact trivial | assumption | (simp; done) | (simp only [zA] at *; omega) | omega | (simp [fs]; done) | exact ax))) | (with_reducible intro x hx) | omega) <;> (try simp only [ce, Nat.reduceBEq, reduceIte, fw, fd]))
  rfl
end Go.Proofs.YtgefljdclekadaaGreat
