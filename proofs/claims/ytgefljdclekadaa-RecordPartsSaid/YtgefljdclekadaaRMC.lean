import Derived.Test.YtgefljdclekadaaRMA
import Derived.Test.YtgefljdclekadaaVi25
set_option linter.unusedVariables false
set_option linter.unusedSimpArgs false
namespace Go.Proofs.Ytgefljdclekadaa
open Go Go.Vi
def aX (n : Nat) : List UInt8 := if h : n < 128 then [UInt8.ofNat n] else UInt8.ofNat (128 + n % 128) :: aX (n / 128)
theorem ck {n : Nat} (h : n < 128) : aX n = [UInt8.ofNat n] := by rw [aX, dif_pos h]
theorem iJ {n : Nat} (h : 128 ≤ n) : aX n = UInt8.ofNat (128 + n % 128) :: aX (n / 128) := by rw [aX, dif_neg (by omega)]
theorem sm : ∀ (k n : Nat), n < 2 ^ (7 * (k + 1)) → (aX n).length ≤ k + 1
 | k, n, h => by
  by_cases h1 : n < 128
  ·rw [ck h1]; simp
  ·cases k with
   | zero => simp at h; omega
   | succ k =>
    rw [iJ (by omega)]
    have := sm k (n / 128) (by
     rw [Nat.div_lt_iff_lt_mul (by decide)]
     have e : 2 ^ (7 * (k + 1 + 1)) = 2 ^ (7 * (k + 1)) * 128 := by rw [show 7 * (k + 1 + 1) = 7 * (k + 1) + 7 by omega, Nat.pow_add]
     omega)
    simp; omega
theorem eI {n : Nat} (h : n < 18446744073709551616) : (aX n).length ≤ 10 := sm 9 n (by
 have : 2 ^ (7 * (9 + 1)) = 1180591620717411303424 := by decide
 omega)
def r8 (l : List UInt8) : List (List D) := l.map fun b => [D.int .u8 (b.toNat : Int)]
theorem aV {l : List UInt8} : (r8 l).length = l.length := by simp [r8]
abbrev Wr (k : Nat) : Ob := ⟨true, false, false, false, 1, [[.own 1 0 k k 1 none]], some 0⟩
theorem wu8m {n : Nat} : IntKind.u8.wrap (n : Int) = ((n % 256 : Nat) : Int) := by
 unfold IntKind.wrap
 simp [IntKind.bits, IntKind.signed]
theorem or128 (m : Nat) : i3 .u8 (IntKind.u8.wrap (m : Int)) 128 = ((UInt8.ofNat (128 + m % 128)).toNat : Int) := by
 have key : ∀ x : Fin 256, i3 .u8 ((x.1 : Nat) : Int) 128 = ((UInt8.ofNat (128 + x.1 % 128)).toNat : Int) := by decide +kernel
 rw [wu8m]
 have := key ⟨m % 256, Nat.mod_lt _ (by decide)⟩
 simp only at this
 rw [this]
 congr 4
 omega
theorem eH (l : List UInt8) (n : Nat) (x : Int) (hx : x = n) (hn : n < 18446744073709551616) (hl : l.length ≤ 1099511627776) : az Try.prog 59 [.ptr 0 0 0 1, .int .u64 x] [Wr l.length, aU true 1 true (r8 l)] (.tup []) [Wr (l ++ aX n).length, aU true 1 true (r8 (l ++ aX n))] := by
 subst hx
 refine aK Try.func59 low59 (by simp [c59]) ?_
 simp only [c59]
 repeat' ((first | apply ai | apply ah | apply am | apply au | refine aq rfl ?_ | apply al | apply aj | apply ae | apply ak mixed | with_reducible refine af ?_ | simp (disch := omega) only [bf, aG, aN, aO, bp, Int.tdiv_eq_ediv_of_nonneg, Int.tmod_eq_emod_of_nonneg] | (refine aa ?_ ?_ <;> intro hc <;> (try simp only [hc]) <;> try simp at hc) | (with_reducible refine ⟨?_, ?_⟩; (focus ((repeat' with_reducible refine ⟨?_, ?_⟩) <;> first | exact trivial | assumption | (simp; done) | (simp only [List.length_map] at *; omega) | omega | (simp [fs]; done)))) | (with_reducible intro x hx) | omega) <;> (try simp only [Wr, cond_false, fw, fd]))
 refine aT (ι := {p : List UInt8 × Nat // p.1 ++ aX p.2 = l ++ aX n ∧ p.2 < 18446744073709551616}) (fun i => ([(0, .ptr 0 0 0 1), (1, .int .u64 i.1.2)], [Wr i.1.1.length, aU true 1 true (r8 i.1.1)])) (fun i => i.1.2) ⟨(l, n), rfl, hn⟩ ?_ ?_
 ·simp only [Wr]
  refine aJ [0, 1] (by rfl) (by simp) (by simp [fg]) (by simp [fg])
 rintro ⟨⟨p, m⟩, hp, hm⟩ hk
 dsimp only at hp hm hk ⊢
 have h10 := eI hn
 have hlen := congrArg List.length hp
 simp only [List.length_append] at hlen
 repeat' ((first | apply ai | apply ah | apply am | apply au | refine aq rfl ?_ | apply al | apply aj | apply ae | apply ak mixed | with_reducible refine af ?_ | simp (disch := omega) only [bp] | (refine aa ?_ ?_ <;> intro hc <;> (try simp only [hc]) <;> try simp at hc) | (with_reducible refine ⟨?_, ?_⟩; (focus ((repeat' with_reducible refine ⟨?_, ?_⟩) <;> first | exact trivial | assumption | (simp; done) | (simp only [List.length_map] at *; omega) | omega | (simp [fs]; done)))) | (with_reducible intro x hx) | omega) <;> (try simp only [Wr, aV, Nat.reduceBEq, reduceIte, Nat.reduceLeDiff, Int.reduceToNat, Int.reduceLE, IntKind.bits, Int.reducePow, fw, fd]))
 ·refine hk ⟨(p ++ [UInt8.ofNat (128 + m % 128)], m / 128), ?_, by dsimp only; omega⟩ _ _ (by dsimp only; omega) ?_
  ·dsimp only
   rw [iJ (by omega)] at hp
   rw [← hp]; simp
  ·have e : r8 p ++ [[D.int IntKind.u8 (i3 .u8 (IntKind.u8.wrap ↑m) 128)]] = r8 (p ++ [UInt8.ofNat (128 + m % 128)]) := by
    rw [or128]; simp [r8]
   simp only [e, Wr]
   refine aJ [0, 1] (by rfl) (by simp) (by simp [fg]) (by simp [fg])
 ·have hms : m < 128 := by omega
  rw [ck hms] at hp hlen
  have e : r8 p ++ [[D.int IntKind.u8 ↑m]] = r8 (l ++ aX n) := by
   rw [← hp]
   simp [r8]; omega
  simp only [List.length_cons, List.length_nil] at hlen
  have e2 : p.length + 1 = l.length + (aX n).length := by omega
  simp only [e, e2]
  refine aw [0, 1] (by rfl) (by simp) (by simp [fg])
end Go.Proofs.Ytgefljdclekadaa

namespace Go.Proofs.Ytgefljdclekadaa
open Go Go.Vi
theorem ay {l : List UInt8} : ∀ r, r ∈ r8 l → r.length = 1 := fun r hr => by
 obtain ⟨b, _, rfl⟩ := List.mem_map.1 hr
 rfl
theorem im : r8 [] = [] := rfl
theorem ja : az Try.prog 17 [] [] (.ptr 0 0 0 1) [Wr 0, aU true 1 true (r8 [])] := by
 refine aK Try.func17 low17 (by simp [c17]) ?_
 simp only [c17]
 repeat' ((first | apply ai | apply aj | apply ak mixed | with_reducible refine af ?_ | (with_reducible refine ⟨?_, ?_⟩; (focus ((repeat' with_reducible refine ⟨?_, ?_⟩) <;> first | exact trivial | assumption | (simp; done) | (simp only [List.length_map] at *; omega) | omega | (simp [fs]; done) | exact ay))) | (with_reducible intro x hx) | omega) <;> (try simp only [Wr, im, reduceCtorEq, ne_eq, fw, fd]))
 refine aW (cO (l := 0) (j := 0) (i := 0) (b := true) 1 true (by decide) rfl rfl rfl rfl rfl) ?_
 repeat' ((first | apply ai | apply al | apply aj | apply ak mixed | with_reducible refine af ?_ | (with_reducible refine ⟨?_, ?_⟩; (focus ((repeat' with_reducible refine ⟨?_, ?_⟩) <;> first | exact trivial | assumption | (simp; done) | (simp only [List.length_map] at *; omega) | omega | (simp [fs]; done) | exact ay))) | (with_reducible intro x hx) | omega) <;> (try simp only [bg, fw]))
 refine aw [0, 1] (by rfl) (by simp) (by simp [fg])
theorem wr {l : List UInt8} (h : (r8 l).isEmpty = true) : l = [] := by simpa [r8] using h
theorem qv (l : List UInt8) (hl : l.length ≤ 1099511627776) : az Try.prog 46 [.own 0 0 l.length l.length 1 none] [aU true 1 true (r8 l)] (.list none false (r8 l)) [aU true 1 true (r8 l)] := by
 refine aK Try.func46 low46 (by simp [c46]) ?_
 simp only [c46]
 repeat' ((first | apply ai | apply ah | apply al | apply aj | apply ae | apply ak mixed | with_reducible refine af ?_ | (refine aa ?_ ?_ <;> intro hc <;> (try simp only [hc]) <;> try simp at hc) | (with_reducible refine ⟨?_, ?_⟩; (focus ((repeat' with_reducible refine ⟨?_, ?_⟩) <;> first | exact trivial | assumption | (simp; done) | (simp only [List.length_map] at *; omega) | omega | (simp [fs]; done) | exact ay))) | (with_reducible intro x hx) | omega) <;> (try simp only [aV, Nat.reduceBEq, reduceIte, cond_false, implies_true, fw, fd]))
 ·have h := wr (by simpa using hc)
  subst h
  simp only [im]
  refine nS [0] (by rfl) (by simp) (by simp [fg])
 ·have h : (r8 l).isEmpty = false := by simpa using hc
  refine nS [0] (by rfl) (by simp) (by simp [aV, fg])
theorem oZ (l : List UInt8) (hl : l.length ≤ 1099511627776) : br Try.prog 46 [.list none false (r8 l)] (.list none false (r8 l)) := by
 refine bX Try.func46 low46 (by simp [c46]) ?_
 simp only [c46]
 refine tK 0 rfl fun b hb => ?_
 repeat' ((first | apply ai | apply ah | apply al | apply aj | apply ae | apply ak mixed | with_reducible refine ax ?_ | (refine aa ?_ ?_ <;> intro hc <;> (try simp only [hc]) <;> try simp at hc) | (with_reducible refine ⟨?_, ?_⟩; (focus ((repeat' with_reducible refine ⟨?_, ?_⟩) <;> first | exact trivial | assumption | (simp; done) | (simp only [List.length_map] at *; omega) | omega | (simp [fs]; done) | exact ay))) | (with_reducible intro x hx) | omega) <;> (try simp only [aV, Nat.reduceBEq, reduceIte, cond_false, implies_true, fw, fd]))
 exact (hb hc).symm
theorem vb (l : List UInt8) (hl : l.length ≤ 1099511627776) : az Try.prog 41 [.ptr 0 0 0 1] [Wr l.length, aU true 1 true (r8 l)] (.list none false (r8 l)) [Wr l.length, aU true 1 true (r8 l)] := by
 refine aK Try.func41 low41 (by simp [c41]) ?_
 simp only [c41]
 repeat' ((first | apply ai | apply ah | apply al | apply aj | apply ae | apply ak mixed | (with_reducible first | refine af ?_ | refine aP (f := .c (.fn 46 [])) (z := []) (q := [1]) ?_ | refine aL (f := .c (.fn 46 [])) (z := []) (q := [1]) ?_ | refine ao ?_ | refine ab (qv _ (by omega)) (by simp) ?_) | (refine aa ?_ ?_ <;> intro hc <;> (try simp only [hc]) <;> try simp at hc) | (with_reducible refine ⟨?_, ?_⟩; (focus ((repeat' with_reducible refine ⟨?_, ?_⟩) <;> first | exact trivial | assumption | (simp; done) | (simp only [List.length_map] at *; omega) | omega | (simp [fs]; done) | exact ay))) | (with_reducible intro x hx) | omega) <;> (try simp only [Wr, Nat.reduceBEq, reduceIte, Nat.reduceAdd, cond_false, fw, fd]))
 refine aw [0, 1] (by rfl) (by simp) (by simp [fg])
def zz (n : Int) : Nat := if 0 ≤ n then (2 * n).toNat else (2 * (-(n + 1)) + 1).toNat
theorem lS {n : Int} (h1 : -9223372036854775808 ≤ n) (h2 : n ≤ 9223372036854775807) : zz n < 18446744073709551616 := by unfold zz; split <;> omega
theorem i9 (n : Int) : IntKind.u64.wrap n = n % 18446744073709551616 := by
 unfold IntKind.wrap
 simp [IntKind.bits, IntKind.signed]
theorem xor0 (x : Int) (h1 : 0 ≤ x) (h2 : x ≤ 18446744073709551615) : ef .u64 x 0 = x := by
 have e : (BitVec.ofInt 64 x ^^^ BitVec.ofInt 64 0).toNat = x.toNat := by
  rw [show BitVec.ofInt 64 0 = 0#64 from rfl, BitVec.xor_zero, BitVec.toNat_ofInt]; omega
 have : ef .u64 x 0 = IntKind.u64.wrap ((BitVec.ofInt 64 x ^^^ BitVec.ofInt 64 0).toNat : Nat) := rfl
 rw [this, e, aG (by omega) (by omega)]; omega
theorem xor1 (x : Int) (h1 : 0 ≤ x) (h2 : x ≤ 18446744073709551615) : ef .u64 x 18446744073709551615 = 18446744073709551615 - x := by
 have e : (BitVec.ofInt 64 x ^^^ BitVec.ofInt 64 18446744073709551615).toNat = 18446744073709551615 - x.toNat := by
  rw [show BitVec.ofInt 64 18446744073709551615 = BitVec.allOnes 64 from rfl, BitVec.xor_allOnes, BitVec.toNat_not, BitVec.toNat_ofInt]; omega
 have : ef .u64 x 18446744073709551615 = IntKind.u64.wrap ((BitVec.ofInt 64 x ^^^ BitVec.ofInt 64 18446744073709551615).toNat : Nat) := rfl
 rw [this, e, aG (by omega) (by omega)]; omega
theorem vm {n : Int} (h1 : -9223372036854775808 ≤ n) (h2 : n ≤ 9223372036854775807) : ef .u64 (IntKind.u64.wrap (IntKind.u64.wrap n * 2)) (IntKind.u64.wrap (n / 9223372036854775808)) = zz n := by
 by_cases h : 0 ≤ n
 ·have e : n / 9223372036854775808 = 0 := by omega
  rw [e, i9 0, i9 n, i9, show (0 : Int) % 18446744073709551616 = 0 from rfl, xor0 _ (by omega) (by omega)]
  unfold zz; rw [if_pos h]; omega
 ·have e : n / 9223372036854775808 = -1 := by omega
  rw [e, i9 (-1), i9 n, i9, show (-1 : Int) % 18446744073709551616 = 18446744073709551615 from rfl, xor1 _ (by omega) (by omega)]
  unfold zz; rw [if_neg h]; omega
theorem nI (l : List UInt8) (n : Int) (h1 : -9223372036854775808 ≤ n) (h2 : n ≤ 9223372036854775807) (hl : l.length ≤ 1099511627776) :
  az Try.prog 95 [.ptr 0 0 0 1, .int .i64 n] [Wr l.length, aU true 1 true (r8 l)] (.tup []) [Wr (l ++ aX (zz n)).length, aU true 1 true (r8 (l ++ aX (zz n)))] := by
 refine aK Try.func95 low95 (by simp [c95]) ?_
 simp only [c95]
 repeat' ((first | apply ai | apply al | apply aj | apply ak mixed | (with_reducible first | refine af ?_ | refine aP (f := .c (.fn 59 [])) (z := []) (q := [0, 1]) ?_ | refine aL (f := .c (.fn 59 [])) (z := []) (q := [0, 1]) ?_ | refine ao ?_ | refine ab (eH _ _ _ (vm h1 h2) (lS h1 h2) (by omega)) (by simp) ?_) | simp (disch := omega) only [bf, aG, aN, aO, bp, Int.tdiv_eq_ediv_of_nonneg, Int.tmod_eq_emod_of_nonneg] | (with_reducible refine ⟨?_, ?_⟩; (focus ((repeat' with_reducible refine ⟨?_, ?_⟩) <;> first | exact trivial | assumption | (simp; done) | (simp only [List.length_map] at *; omega) | omega | (simp [fs]; done) | exact ay))) | (with_reducible intro x hx) | omega) <;> (try simp only [Wr, Nat.reduceBEq, reduceIte, Nat.reduceAdd, Nat.reduceSub, Nat.reduceLeDiff, reduceCtorEq, Int.reduceToNat, Int.reduceLE, IntKind.bits, Int.reducePow, fw, fd]))
 refine aw [0, 1] (by rfl) (by simp) (by simp [fg])
theorem xS (l : List UInt8) (b : Bool) (hl : l.length ≤ 1099511627776) :
  az Try.prog 81 [.ptr 0 0 0 1, .bool b] [Wr l.length, aU true 1 true (r8 l)] (.tup []) [Wr (l ++ [if b then 1 else 0]).length, aU true 1 true (r8 (l ++ [if b then 1 else 0]))] := by
 refine aK Try.func81 low81 (by simp [c81]) ?_
 simp only [c81]
 repeat' ((first | apply ai | apply ah | apply al | apply aj | apply ae | apply ak mixed | (with_reducible first | refine af ?_ | refine aP (f := .c (.fn 59 [])) (z := []) (q := [0, 1]) ?_ | refine aL (f := .c (.fn 59 [])) (z := []) (q := [0, 1]) ?_ | refine ao ?_ | refine ab (eH _ 1 1 rfl (by omega) (by omega)) (by simp) ?_ | refine ab (eH _ 0 0 rfl (by omega) (by omega)) (by simp) ?_) | (refine aa ?_ ?_ <;> intro hc <;> (try simp only [hc]) <;> try simp at hc) | (with_reducible refine ⟨?_, ?_⟩; (focus ((repeat' with_reducible refine ⟨?_, ?_⟩) <;> first | exact trivial | assumption | (simp; done) | (simp only [List.length_map] at *; omega) | omega | (simp [fs]; done) | exact ay))) | (with_reducible intro x hx) | omega) <;> (try simp only [Wr, Nat.reduceBEq, reduceIte, Nat.reduceAdd, Nat.reduceSub, reduceCtorEq, fw, fd]))
 ·simp only [ck (show 1 < 128 by decide)]
  refine aw [0, 1] (by rfl) (by simp) (by simp [fg])
 ·simp only [ck (show 0 < 128 by decide)]
  refine aw [0, 1] (by rfl) (by simp) (by simp [fg])
theorem xW (l : List UInt8) (s : ByteArray) (hs : s.size ≤ 1099511627776) (hl : l.length ≤ 1099511627776) :
  az Try.prog 78 [.ptr 0 0 0 1, .str s] [Wr l.length, aU true 1 true (r8 l)] (.tup []) [Wr (l ++ (aX s.size ++ s.data.toList)).length, aU true 1 true (r8 (l ++ (aX s.size ++ s.data.toList)))] := by
 refine aK Try.func78 low78 (by simp [c78]) ?_
 simp only [c78]
 have h10 := eI (n := s.size) (by omega)
 have hsz : s.data.toList.length = s.size := by simp
 repeat' ((first | apply ai | apply ah | apply al | apply aj | apply ae | apply ak mixed | (with_reducible first | refine af ?_ | refine aP (f := .c (.fn 59 [])) (z := []) (q := [0, 1]) ?_ | refine aL (f := .c (.fn 59 [])) (z := []) (q := [0, 1]) ?_ | refine ao ?_ | refine ab (eH _ s.size _ rfl (by omega) (by omega)) (by simp) ?_) | simp (disch := omega) only [aG] | (refine aa ?_ ?_ <;> intro hc <;> (try simp only [hc]) <;> try simp at hc) | (with_reducible refine ⟨?_, ?_⟩; (focus ((repeat' with_reducible refine ⟨?_, ?_⟩) <;> first | exact trivial | assumption | (simp; done) | (simp only [List.length_map] at *; omega) | omega | (simp [fs]; done) | exact ay))) | (with_reducible intro x hx) | omega) <;> (try simp only [Wr, aV, Nat.reduceBEq, reduceIte, Nat.reduceAdd, Nat.reduceSub, reduceCtorEq, cond_true, fw, fd]))
 have e : r8 (l ++ aX s.size) ++ List.map (fun b => [D.int IntKind.u8 ↑b.toNat]) s.data.toList = r8 (l ++ (aX s.size ++ s.data.toList)) := by simp [r8]
 simp only [e, Nat.add_assoc]
 refine aw [0, 1] (by rfl) (by simp) (by simp [fg])
end Go.Proofs.Ytgefljdclekadaa

namespace Go.Proofs.Ytgefljdclekadaa
open Go Go.Vi
abbrev Rd (l : List UInt8) (bad : Bool) : Ob := ⟨true, false, true, false, 2, [[.list none false (r8 l), .bool bad]], some 0⟩
theorem iZ (nl : Option Bool) (tg : Bool) (l : List UInt8) (hl : l.length ≤ 1099511627776) : az Try.prog 23 [.list nl tg (r8 l)] [] (.ptr 0 0 0 1) [Rd l false] := by
 refine aK Try.func23 low23 (by simp [c23]) ?_
 simp only [c23]
 repeat' ((first | apply ai | apply al | apply aj | apply ak mixed | (with_reducible first | refine af ?_ | refine ao ?_) | refine av (oZ _ (by omega)) ?_ ?_ | (with_reducible refine ⟨?_, ?_⟩; (focus ((repeat' with_reducible refine ⟨?_, ?_⟩) <;> first | exact trivial | assumption | (simp; done) | (simp only [List.length_map] at *; omega) | omega | (simp [fs]; done) | exact ay))) | (with_reducible intro x hx) | omega) <;> (try simp only [Rd, Nat.reduceBEq, reduceIte, Nat.reduceAdd, Nat.reduceLeDiff, reduceCtorEq, ne_eq, fw, fd]))
 refine aw [0] (by rfl) (by simp) (by simp [fg])
theorem bw (l : List UInt8) (b : Bool) : br Try.prog 83 [.elt [.list none false (r8 l), .bool b] 0] (.bool b) := by
 refine bX Try.func83 low83 (by simp [c83]) ?_
 simp only [c83]
 repeat' ((first | apply ai | apply al | apply aj | apply ak mixed | with_reducible refine ax ?_ | (refine ac ?_ ?_ <;> intro hc <;> (try simp only [hc]) <;> try simp at hc) | (with_reducible refine ⟨?_, ?_⟩; (focus ((repeat' with_reducible refine ⟨?_, ?_⟩) <;> first | exact trivial | assumption | (simp; done) | (simp only [List.length_map] at *; omega) | omega | (simp [fs]; done) | exact ay))) | (with_reducible intro x hx) | omega) <;> (try simp only [Nat.reduceBEq, reduceIte, cond_false, fw, fd]))
theorem end_p (l : List UInt8) (b : Bool) : br Try.prog 47 [.elt [.list none false (r8 l), .bool b] 0] (.bool (!b && l.isEmpty)) := by
 refine bX Try.func47 low47 (by simp [c47]) ?_
 simp only [c47]
 repeat' ((first | apply ai | apply al | apply aj | apply ak mixed | (with_reducible first | refine ax ?_ | refine ao ?_) | refine av (bw _ _) ?_ ?_ | (refine ac ?_ ?_ <;> intro hc <;> (try simp only [hc]) <;> try simp at hc) | (with_reducible refine ⟨?_, ?_⟩; (focus ((repeat' with_reducible refine ⟨?_, ?_⟩) <;> first | exact trivial | assumption | (simp; done) | (simp only [List.length_map] at *; omega) | omega | (simp [fs]; done) | exact ay))) | (with_reducible intro x hx) | omega) <;> (try simp only [aV, Nat.reduceBEq, reduceIte, cond_true, cond_false, fw, fd]))
 cases l <;> simp
 omega
theorem dM (l : List UInt8) (b : Bool) : az Try.prog 85 [.ptr 0 0 0 1] [Rd l b] (.int .u64 0) [Rd l true] := by
 refine aK Try.func85 low85 (by simp [c85]) ?_
 simp only [c85]
 repeat' ((first | apply ai | apply ah | apply al | apply aj | apply ae | apply ak mixed | with_reducible refine af ?_ | (refine aa ?_ ?_ <;> intro hc <;> (try simp only [hc]) <;> try simp at hc) | (with_reducible refine ⟨?_, ?_⟩; (focus ((repeat' with_reducible refine ⟨?_, ?_⟩) <;> first | exact trivial | assumption | (simp; done) | (simp only [List.length_map] at *; omega) | omega | (simp [fs]; done) | exact ay))) | (with_reducible intro x hx) | omega) <;> (try simp only [Rd, Nat.reduceBEq, Nat.reduceAdd, cond_true, fw, fd]))
 refine aw [0] (by rfl) (by simp) (by simp [fg])
end Go.Proofs.Ytgefljdclekadaa

namespace Go.Proofs.Ytgefljdclekadaa
open Go Go.Vi
def dq (most : Nat) : List UInt8 → Nat → Nat → Nat × List UInt8 × Bool
 | [], _, _ => (0, [], true)
 | c :: cs, n, s => if 63 < s ∨ 18446744073709551616 ≤ c.toNat % 128 * 2 ^ s ∨ (c.toNat = 0 ∧ 0 < s) then (0, cs, true)
  else if c.toNat < 128 then (if most < n + c.toNat % 128 * 2 ^ s then (0, cs, true) else (n + c.toNat % 128 * 2 ^ s, cs, false))
  else dq most cs (n + c.toNat % 128 * 2 ^ s) (s + 7)
theorem cx (c : UInt8) : gU .u8 (c.toNat : Int) 127 = ((c.toNat % 128 : Nat) : Int) := by
 have key : ∀ x : Fin 256, gU .u8 ((x.1 : Nat) : Int) 127 = ((x.1 % 128 : Nat) : Int) := by decide +kernel
 exact key ⟨c.toNat, c.toNat_lt⟩
theorem w9 {x y : Nat} (hx : x < 18446744073709551616) (hy : y < 18446744073709551616) : i3 .u64 (x : Int) (y : Int) = ((x ||| y : Nat) : Int) := by
 have e : (BitVec.ofInt 64 (x : Int) ||| BitVec.ofInt 64 (y : Int)).toNat = x ||| y := by
  rw [BitVec.toNat_or, BitVec.ofInt_natCast, BitVec.ofInt_natCast, BitVec.toNat_ofNat, BitVec.toNat_ofNat, Nat.mod_eq_of_lt hx, Nat.mod_eq_of_lt hy]
 have h1 : i3 .u64 (x : Int) (y : Int) = IntKind.u64.wrap ((BitVec.ofInt 64 (x : Int) ||| BitVec.ofInt 64 (y : Int)).toNat : Nat) := rfl
 have := Nat.or_lt_two_pow (n := 64) hx hy
 rw [h1, e, aG (by omega) (by omega)]
theorem dh (x s : Nat) : IntKind.u64.wrap ((x : Int) * 2 ^ s) = ((x * 2 ^ s % 18446744073709551616 : Nat) : Int) := by
 rw [i9]
 rw [show ((x : Int) * 2 ^ s) = ((x * 2 ^ s : Nat) : Int) by simp]
 omega
theorem xp {x s : Nat} (hs : s ≤ 63) : x * 2 ^ s % 18446744073709551616 / 2 ^ s = x ↔ x * 2 ^ s < 18446744073709551616 := by
 have e : 18446744073709551616 = 2 ^ s * 2 ^ (64 - s) := by rw [← Nat.pow_add, show s + (64 - s) = 64 by omega]
 have hp : 0 < 2 ^ s := Nat.two_pow_pos s
 rw [e, Nat.mul_comm x, Nat.mul_mod_mul_left, Nat.mul_div_cancel_left _ hp, Nat.mul_lt_mul_left hp]
 constructor
 ·intro h; rw [← h]; exact Nat.mod_lt _ (Nat.two_pow_pos _)
 ·exact Nat.mod_eq_of_lt
theorem dg {a s : Nat} : ((a : Nat) : Int).fdiv (2 ^ s) = ((a / 2 ^ s : Nat) : Int) := by
 rw [show ((2 : Int) ^ s) = ((2 ^ s : Nat) : Int) by simp, Int.fdiv_eq_ediv_of_nonneg _ (Int.natCast_nonneg _), Int.natCast_ediv]
theorem uc {n x s : Nat} (hn : n < 2 ^ s) (hx : x * 2 ^ s < 18446744073709551616) (hn' : n < 18446744073709551616) : i3 .u64 (n : Int) ((x * 2 ^ s : Nat) : Int) = ((n + x * 2 ^ s : Nat) : Int) := by
 rw [w9 hn' hx]
 have := Nat.shiftLeft_add_eq_or_of_lt hn x
 rw [Nat.shiftLeft_eq] at this
 rw [Nat.or_comm, ← this, Nat.add_comm]
theorem bV {c : UInt8} {cs : List UInt8} : (r8 (c :: cs))[0]? = some [.int .u8 (c.toNat : Int)] := rfl
theorem bI {l : List UInt8} {k : Nat} : (r8 l).drop k = r8 (l.drop k) := by simp [r8]
theorem bG {l : List UInt8} {k : Nat} : (r8 l).take k = r8 (l.take k) := by simp [r8]
set_option maxHeartbeats 1000000 in
theorem rV (l : List UInt8) (m : Nat) (x : Int) (hx : x = m) (hl : l.length ≤ 1099511627776) : az Try.prog 58 [.ptr 0 0 0 1, .int .u64 x] [Rd l false] (.int .u64 (dq m l 0 0).1) [Rd (dq m l 0 0).2.1 (dq m l 0 0).2.2] := by
 subst hx
 refine aK Try.func58 low58 (by simp [c58]) ?_
 simp only [c58]
 repeat' ((first | apply ai | apply ah | apply am | apply au | refine aq rfl ?_ | apply al | apply aj | apply ae | apply ak mixed | (with_reducible first | refine af ?_ | refine ao ?_) | simp (disch := omega) only [bf, aG, aN, aO, bp, Int.tdiv_eq_ediv_of_nonneg, Int.tmod_eq_emod_of_nonneg] | (with_reducible refine aZ rfl rfl ?_ ?_; (focus ((try simp only [Wr, Rd, aV, bV, bI, bG, List.take_length, cx, dh, dg, reduceIte, Nat.sub_zero, fw]) <;> ((repeat' (with_reducible refine And.intro ?_ ?_)) <;> first | exact trivial | assumption | (simp; done) | (simp only [List.length_map] at *; omega) | omega | (simp [fs]; done) | exact ay)))) | ((first | refine ac ?_ ?_ | refine aa ?_ ?_) <;> intro hc <;> (try simp only [hc]) <;> try simp at hc) | (with_reducible refine ⟨?_, ?_⟩; (focus ((repeat' with_reducible refine ⟨?_, ?_⟩) <;> first | exact trivial | assumption | (simp; done) | (simp only [List.length_map] at *; omega) | omega | (simp [fs]; done) | exact ay))) | (with_reducible intro x hx) | omega) <;> (try simp only [Rd, cY, fw]))
 refine aT (ι := {p : List UInt8 × Nat × Nat // dq m p.1 p.2.1 p.2.2 = dq m l 0 0 ∧ p.2.1 < 2 ^ p.2.2 ∧ p.2.1 < 18446744073709551616 ∧ p.2.2 ≤ 70 ∧ p.1.length ≤ 1099511627776}) (fun i => ([(0, .ptr 0 0 0 1), (1, .int .u64 m), (5, .int .u64 i.1.2.1), (6, .int .i64 i.1.2.2)], [Rd i.1.1 false])) (fun i => i.1.1.length) ⟨(l, 0, 0), rfl, by simp, by simp, by simp, hl⟩ ?_ ?_
 ·refine aJ [0] (by rfl) (by simp) (by simp [fg]) (by simp [fg])
 rintro ⟨⟨p, n, s⟩, hp, hn, hn', hs, hpl⟩ hk
 dsimp only at hp hn hn' hs hpl hk ⊢
 cases p with
 | nil =>
  repeat' ((first | apply ai | apply ah | apply am | apply au | refine aq rfl ?_ | apply al | apply aj | apply ae | apply ak mixed | (with_reducible first | refine af ?_ | refine aP (f := .c (.fn 85 [])) (z := []) (q := [0]) ?_ | refine aL (f := .c (.fn 85 [])) (z := []) (q := [0]) ?_ | refine ao ?_) | refine av (bw _ _) ?_ ?_ | with_reducible refine ab (dM _ _) (by simp) ?_ | simp (disch := omega) only [bf, aG, aN, aO, bp, Int.tdiv_eq_ediv_of_nonneg, Int.tmod_eq_emod_of_nonneg] | (with_reducible refine aZ rfl rfl ?_ ?_; (focus ((try simp only [Wr, Rd, aV, bV, bI, bG, List.take_length, cx, dh, dg, reduceIte, Nat.sub_zero, fw]) <;> ((repeat' (with_reducible refine And.intro ?_ ?_)) <;> first | exact trivial | assumption | (simp; done) | (simp only [List.length_map] at *; omega) | omega | (simp [fs]; done) | exact ay)))) | ((first | refine ac ?_ ?_ | refine aa ?_ ?_) <;> intro hc <;> (try simp only [hc]) <;> try simp at hc) | (with_reducible refine ⟨?_, ?_⟩; (focus ((repeat' with_reducible refine ⟨?_, ?_⟩) <;> first | exact trivial | assumption | (simp; done) | (simp only [List.length_map] at *; omega) | omega | (simp [fs]; done) | exact ay))) | (with_reducible intro x hx) | omega) <;> (try simp only [Rd, aV, Nat.reduceBEq, reduceIte, cond_true, fw, fd]))
  have e : dq m l 0 0 = (0, [], true) := by rw [← hp, dq]
  simp only [e]
  refine aw [0] (by rfl) (by simp) (by simp [fg])
 | cons c cs =>
  by_cases h63 : 63 < s
  ·have e : dq m l 0 0 = (0, cs, true) := by rw [← hp, dq, if_pos (.inl h63)]
   have h1 : ((s : Int) > 63) = True := by simp; omega
   repeat' ((first | apply ai | apply ah | apply am | apply au | refine aq rfl ?_ | apply al | apply aj | apply ae | apply ak mixed | (with_reducible first | refine af ?_ | refine aP (f := .c (.fn 85 [])) (z := []) (q := [0]) ?_ | refine aL (f := .c (.fn 85 [])) (z := []) (q := [0]) ?_ | refine ao ?_) | refine av (bw _ _) ?_ ?_ | with_reducible refine ab (dM _ _) (by simp) ?_ | simp (disch := omega) only [bf, aG, aN, aO, bp, Int.tdiv_eq_ediv_of_nonneg, Int.tmod_eq_emod_of_nonneg] | (with_reducible refine aZ rfl rfl ?_ ?_; (focus ((try simp only [Wr, Rd, aV, bV, bI, bG, List.take_length, cx, dh, dg, reduceIte, Nat.sub_zero, fw]) <;> ((repeat' (with_reducible refine And.intro ?_ ?_)) <;> first | exact trivial | assumption | (simp; done) | (simp only [List.length_map] at *; omega) | omega | (simp [fs]; done) | exact ay)))) | ((first | refine ac ?_ ?_ | refine aa ?_ ?_) <;> intro hc <;> (try simp only [hc]) <;> try simp at hc) | (with_reducible refine ⟨?_, ?_⟩; (focus ((repeat' with_reducible refine ⟨?_, ?_⟩) <;> first | exact trivial | assumption | (simp; done) | (simp only [List.length_map] at *; omega) | omega | (simp [fs]; done) | exact ay))) | (with_reducible intro x hx) | omega) <;> (try simp only [Rd, aV, bV, bI, bG, List.take_length, cx, h1, Nat.reduceBEq, reduceIte, Nat.reduceLeDiff, cond_true, Int.reduceToNat, Int.reduceLE, fw, fd]))
   simp only [e]
   refine aw [0] (by rfl) (by simp) (by simp [fg])
  have hm : min s 64 = s := by omega
  have h1 : ((s : Int) > 63) = False := by simp; omega
  have hsp : 0 < 2 ^ s := Nat.two_pow_pos s
  by_cases hbig : 18446744073709551616 ≤ c.toNat % 128 * 2 ^ s
  ·have e : dq m l 0 0 = (0, cs, true) := by rw [← hp, dq, if_pos (.inr (.inl hbig))]
   have h2 : (((c.toNat % 128 * 2 ^ s % 18446744073709551616 / 2 ^ s : Nat) : Int) != ((c.toNat % 128 : Nat) : Int)) = true := by
    have := mt (xp (x := c.toNat % 128) (s := s) (by omega)).1 (by omega)
    simp only [bne_iff_ne, ne_eq, Int.natCast_inj]
    exact this
   repeat' ((first | apply ai | apply ah | apply am | apply au | refine aq rfl ?_ | apply al | apply aj | apply ae | apply ak mixed | (with_reducible first | refine af ?_ | refine aP (f := .c (.fn 85 [])) (z := []) (q := [0]) ?_ | refine aL (f := .c (.fn 85 [])) (z := []) (q := [0]) ?_ | refine ao ?_) | refine av (bw _ _) ?_ ?_ | with_reducible refine ab (dM _ _) (by simp) ?_ | simp (disch := omega) only [aG] | (with_reducible refine aZ rfl rfl ?_ ?_; (focus ((try simp only [Wr, Rd, aV, bV, bI, bG, List.take_length, cx, dh, dg, reduceIte, Nat.sub_zero, fw]) <;> ((repeat' (with_reducible refine And.intro ?_ ?_)) <;> first | exact trivial | assumption | (simp; done) | (simp only [List.length_map] at *; omega) | omega | (simp [fs]; done) | exact ay)))) | ((first | refine ac ?_ ?_ | refine aa ?_ ?_) <;> intro hc <;> (try simp only [hc]) <;> try simp at hc) | (with_reducible refine ⟨?_, ?_⟩; (focus ((repeat' with_reducible refine ⟨?_, ?_⟩) <;> first | exact trivial | assumption | (simp; done) | (simp only [List.length_map] at *; omega) | omega | (simp [fs]; done) | exact ay))) | (with_reducible intro x hx) | omega) <;> (try simp only [Rd, aV, bV, bI, bG, List.take_length, cx, dh, dg, h1, hm, h2, Nat.reduceBEq, reduceIte, Nat.reduceLeDiff, cond_true, cond_false, Int.reduceToNat, Int.reduceLE, IntKind.bits, fw, fd]))
   simp only [e]
   refine aw [0] (by rfl) (by simp) (by simp [fg])
  have hor := uc (x := c.toNat % 128) hn (by omega) hn'
  have h2 : (((c.toNat % 128 * 2 ^ s / 2 ^ s : Nat) : Int) != ((c.toNat % 128 : Nat) : Int)) = false := by
   rw [Nat.mul_div_cancel _ hsp]; simp
  have hnew : n + c.toNat % 128 * 2 ^ s < 2 ^ (s + 7) := by
   have e1 : 2 ^ (s + 7) = 128 * 2 ^ s := by rw [Nat.pow_add]; omega
   have e2 : c.toNat % 128 * 2 ^ s ≤ 127 * 2 ^ s := Nat.mul_le_mul_right _ (by omega)
   omega
  have hnew' : n + c.toNat % 128 * 2 ^ s < 18446744073709551616 := by
   have := Nat.or_lt_two_pow (n := 64) hn' (show c.toNat % 128 * 2 ^ s < 2 ^ 64 by omega)
   have e := Nat.shiftLeft_add_eq_or_of_lt hn (c.toNat % 128)
   rw [Nat.shiftLeft_eq] at e
   rw [Nat.or_comm, ← e] at this
   omega
  have hstep := hp
  rw [dq] at hstep
  generalize hv : c.toNat % 128 * 2 ^ s = v at *
  have hmod : v % 18446744073709551616 = v := Nat.mod_eq_of_lt (by omega)
  by_cases hz : c.toNat = 0 ∧ 0 < s
  ·have e : dq m l 0 0 = (0, cs, true) := by rw [← hstep, if_pos (.inr (.inr hz))]
   have h3 : ((c.toNat : Int) == 0) = true := by simp [hz.1]
   have h4 : ((s : Int) > 0) = True := by simp; omega
   repeat' ((first | apply ai | apply ah | apply am | apply au | refine aq rfl ?_ | apply al | apply aj | apply ae | apply ak mixed | (with_reducible first | refine af ?_ | refine aP (f := .c (.fn 85 [])) (z := []) (q := [0]) ?_ | refine aL (f := .c (.fn 85 [])) (z := []) (q := [0]) ?_ | refine ao ?_) | refine av (bw _ _) ?_ ?_ | with_reducible refine ab (dM _ _) (by simp) ?_ | simp (disch := omega) only [aG] | (with_reducible refine aZ rfl rfl ?_ ?_; (focus ((try simp only [Wr, Rd, aV, bV, bI, bG, List.take_length, cx, dh, dg, reduceIte, Nat.sub_zero, fw]) <;> ((repeat' (with_reducible refine And.intro ?_ ?_)) <;> first | exact trivial | assumption | (simp; done) | (simp only [List.length_map] at *; omega) | omega | (simp [fs]; done) | exact ay)))) | ((first | refine ac ?_ ?_ | refine aa ?_ ?_) <;> intro hc <;> (try simp only [hc]) <;> try simp at hc) | (with_reducible refine ⟨?_, ?_⟩; (focus ((repeat' with_reducible refine ⟨?_, ?_⟩) <;> first | exact trivial | assumption | (simp; done) | (simp only [List.length_map] at *; omega) | omega | (simp [fs]; done) | exact ay))) | (with_reducible intro x hx) | omega) <;> (try simp only [Rd, aV, bV, bI, bG, List.take_length, cx, dh, dg, h1, hm, hv, hmod, h2, h3, h4, Nat.reduceBEq, reduceIte, Nat.reduceLeDiff, cond_true, cond_false, Int.reduceToNat, Int.reduceLE, IntKind.bits, fw, fd]))
   simp only [e]
   refine aw [0] (by rfl) (by simp) (by simp [fg])
  have hno : ¬ (63 < s ∨ 18446744073709551616 ≤ v ∨ (c.toNat = 0 ∧ 0 < s)) := by omega
  rw [if_neg hno] at hstep
  have h0 : (((c.toNat : Int) == 0) = false ∧ True) ∨ (((c.toNat : Int) == 0) = true ∧ ((s : Int) > 0) = False) := by
   by_cases h : c.toNat = 0
   ·exact .inr ⟨by simp [h], by simp; omega⟩
   ·exact .inl ⟨by simp; omega, trivial⟩
  by_cases hcl : c.toNat < 128
  ·rw [if_pos hcl] at hstep
   have h6 : ((c.toNat : Int) < 128) = True := by simp; omega
   by_cases hmm : m < n + v
   ·rw [if_pos hmm] at hstep
    have h7 : (((n + v : Nat) : Int) > (m : Int)) = True := by simp; omega
    rcases h0 with ⟨h3, h4⟩ | ⟨h3, h4⟩
    ·repeat' ((first | apply ai | apply ah | apply am | apply au | refine aq rfl ?_ | apply al | apply aj | apply ae | apply ak mixed | (with_reducible first | refine af ?_ | refine aP (f := .c (.fn 85 [])) (z := []) (q := [0]) ?_ | refine aL (f := .c (.fn 85 [])) (z := []) (q := [0]) ?_ | refine ao ?_) | refine av (bw _ _) ?_ ?_ | with_reducible refine ab (dM _ _) (by simp) ?_ | simp (disch := omega) only [aG] | (with_reducible refine aZ rfl rfl ?_ ?_; (focus ((try simp only [Wr, Rd, aV, bV, bI, bG, List.take_length, cx, dh, dg, reduceIte, Nat.sub_zero, fw]) <;> ((repeat' (with_reducible refine And.intro ?_ ?_)) <;> first | exact trivial | assumption | (simp; done) | (simp only [List.length_map] at *; omega) | omega | (simp [fs]; done) | exact ay)))) | ((first | refine ac ?_ ?_ | refine aa ?_ ?_) <;> intro hc <;> (try simp only [hc]) <;> try simp at hc) | (with_reducible refine ⟨?_, ?_⟩; (focus ((repeat' with_reducible refine ⟨?_, ?_⟩) <;> first | exact trivial | assumption | (simp; done) | (simp only [List.length_map] at *; omega) | omega | (simp [fs]; done) | exact ay))) | (with_reducible intro x hx) | omega) <;> (try simp only [Rd, aV, bV, bI, bG, List.take_length, cx, dh, dg, h1, hm, hv, hmod, h2, h3, h6, h7, hor, Nat.reduceBEq, reduceIte, Nat.reduceLeDiff, cond_true, cond_false, Int.reduceToNat, Int.reduceLE, IntKind.bits, fw, fd]))
     simp only [← hstep]
     refine aw [0] (by rfl) (by simp) (by simp [fg])
    ·repeat' ((first | apply ai | apply ah | apply am | apply au | refine aq rfl ?_ | apply al | apply aj | apply ae | apply ak mixed | (with_reducible first | refine af ?_ | refine aP (f := .c (.fn 85 [])) (z := []) (q := [0]) ?_ | refine aL (f := .c (.fn 85 [])) (z := []) (q := [0]) ?_ | refine ao ?_) | refine av (bw _ _) ?_ ?_ | with_reducible refine ab (dM _ _) (by simp) ?_ | simp (disch := omega) only [aG] | (with_reducible refine aZ rfl rfl ?_ ?_; (focus ((try simp only [Wr, Rd, aV, bV, bI, bG, List.take_length, cx, dh, dg, reduceIte, Nat.sub_zero, fw]) <;> ((repeat' (with_reducible refine And.intro ?_ ?_)) <;> first | exact trivial | assumption | (simp; done) | (simp only [List.length_map] at *; omega) | omega | (simp [fs]; done) | exact ay)))) | ((first | refine ac ?_ ?_ | refine aa ?_ ?_) <;> intro hc <;> (try simp only [hc]) <;> try simp at hc) | (with_reducible refine ⟨?_, ?_⟩; (focus ((repeat' with_reducible refine ⟨?_, ?_⟩) <;> first | exact trivial | assumption | (simp; done) | (simp only [List.length_map] at *; omega) | omega | (simp [fs]; done) | exact ay))) | (with_reducible intro x hx) | omega) <;> (try simp only [Rd, aV, bV, bI, bG, List.take_length, cx, dh, dg, h1, hm, hv, hmod, h2, h3, h4, h6, h7, hor, Nat.reduceBEq, reduceIte, Nat.reduceLeDiff, cond_true, cond_false, Int.reduceToNat, Int.reduceLE, IntKind.bits, fw, fd]))
     simp only [← hstep]
     refine aw [0] (by rfl) (by simp) (by simp [fg])
   ·rw [if_neg hmm] at hstep
    have h7 : (((n + v : Nat) : Int) > (m : Int)) = False := by simp; omega
    rcases h0 with ⟨h3, h4⟩ | ⟨h3, h4⟩
    ·repeat' ((first | apply ai | apply ah | apply am | apply au | refine aq rfl ?_ | apply al | apply aj | apply ae | apply ak mixed | (with_reducible first | refine af ?_ | refine aP (f := .c (.fn 85 [])) (z := []) (q := [0]) ?_ | refine aL (f := .c (.fn 85 [])) (z := []) (q := [0]) ?_ | refine ao ?_) | refine av (bw _ _) ?_ ?_ | with_reducible refine ab (dM _ _) (by simp) ?_ | simp (disch := omega) only [aG] | (with_reducible refine aZ rfl rfl ?_ ?_; (focus ((try simp only [Wr, Rd, aV, bV, bI, bG, List.take_length, cx, dh, dg, reduceIte, Nat.sub_zero, fw]) <;> ((repeat' (with_reducible refine And.intro ?_ ?_)) <;> first | exact trivial | assumption | (simp; done) | (simp only [List.length_map] at *; omega) | omega | (simp [fs]; done) | exact ay)))) | ((first | refine ac ?_ ?_ | refine aa ?_ ?_) <;> intro hc <;> (try simp only [hc]) <;> try simp at hc) | (with_reducible refine ⟨?_, ?_⟩; (focus ((repeat' with_reducible refine ⟨?_, ?_⟩) <;> first | exact trivial | assumption | (simp; done) | (simp only [List.length_map] at *; omega) | omega | (simp [fs]; done) | exact ay))) | (with_reducible intro x hx) | omega) <;> (try simp only [Rd, aV, bV, bI, bG, List.take_length, cx, dh, dg, h1, hm, hv, hmod, h2, h3, h6, h7, hor, Nat.reduceBEq, reduceIte, Nat.reduceLeDiff, cond_true, cond_false, Int.reduceToNat, Int.reduceLE, IntKind.bits, fw, fd]))
     simp only [← hstep]
     refine aw [0] (by rfl) (by simp) (by simp [fg])
    ·repeat' ((first | apply ai | apply ah | apply am | apply au | refine aq rfl ?_ | apply al | apply aj | apply ae | apply ak mixed | (with_reducible first | refine af ?_ | refine aP (f := .c (.fn 85 [])) (z := []) (q := [0]) ?_ | refine aL (f := .c (.fn 85 [])) (z := []) (q := [0]) ?_ | refine ao ?_) | refine av (bw _ _) ?_ ?_ | with_reducible refine ab (dM _ _) (by simp) ?_ | simp (disch := omega) only [aG] | (with_reducible refine aZ rfl rfl ?_ ?_; (focus ((try simp only [Wr, Rd, aV, bV, bI, bG, List.take_length, cx, dh, dg, reduceIte, Nat.sub_zero, fw]) <;> ((repeat' (with_reducible refine And.intro ?_ ?_)) <;> first | exact trivial | assumption | (simp; done) | (simp only [List.length_map] at *; omega) | omega | (simp [fs]; done) | exact ay)))) | ((first | refine ac ?_ ?_ | refine aa ?_ ?_) <;> intro hc <;> (try simp only [hc]) <;> try simp at hc) | (with_reducible refine ⟨?_, ?_⟩; (focus ((repeat' with_reducible refine ⟨?_, ?_⟩) <;> first | exact trivial | assumption | (simp; done) | (simp only [List.length_map] at *; omega) | omega | (simp [fs]; done) | exact ay))) | (with_reducible intro x hx) | omega) <;> (try simp only [Rd, aV, bV, bI, bG, List.take_length, cx, dh, dg, h1, hm, hv, hmod, h2, h3, h4, h6, h7, hor, Nat.reduceBEq, reduceIte, Nat.reduceLeDiff, cond_true, cond_false, Int.reduceToNat, Int.reduceLE, IntKind.bits, fw, fd]))
     simp only [← hstep]
     refine aw [0] (by rfl) (by simp) (by simp [fg])
  ·rw [if_neg hcl] at hstep
   have h6 : ((c.toNat : Int) < 128) = False := by simp; omega
   rcases h0 with ⟨h3, h4⟩ | ⟨h3, h4⟩
   ·repeat' ((first | apply ai | apply ah | apply am | apply au | refine aq rfl ?_ | apply al | apply aj | apply ae | apply ak mixed | (with_reducible first | refine af ?_ | refine aP (f := .c (.fn 85 [])) (z := []) (q := [0]) ?_ | refine aL (f := .c (.fn 85 [])) (z := []) (q := [0]) ?_ | refine ao ?_) | refine av (bw _ _) ?_ ?_ | with_reducible refine ab (dM _ _) (by simp) ?_ | simp (disch := omega) only [bf, aG] | (with_reducible refine aZ rfl rfl ?_ ?_; (focus ((try simp only [Wr, Rd, aV, bV, bI, bG, List.take_length, cx, dh, dg, reduceIte, Nat.sub_zero, fw]) <;> ((repeat' (with_reducible refine And.intro ?_ ?_)) <;> first | exact trivial | assumption | (simp; done) | (simp only [List.length_map] at *; omega) | omega | (simp [fs]; done) | exact ay)))) | ((first | refine ac ?_ ?_ | refine aa ?_ ?_) <;> intro hc <;> (try simp only [hc]) <;> try simp at hc) | (with_reducible refine ⟨?_, ?_⟩; (focus ((repeat' with_reducible refine ⟨?_, ?_⟩) <;> first | exact trivial | assumption | (simp; done) | (simp only [List.length_map] at *; omega) | omega | (simp [fs]; done) | exact ay))) | (with_reducible intro x hx) | omega) <;> (try simp only [Rd, aV, bV, bI, bG, List.take_length, cx, dh, dg, h1, hm, hv, hmod, h2, h3, h6, hor, Nat.reduceBEq, reduceIte, Nat.reduceLeDiff, cond_true, cond_false, Int.reduceToNat, Int.reduceLE, IntKind.bits, fw, fd]))
    refine hk ⟨(cs, n + v, s + 7), hstep, hnew, hnew', by dsimp only; omega, by dsimp only; simp at hpl; omega⟩ _ _ (by dsimp only; simp) ?_
    refine aJ [0] (by rfl) (by simp) (by simp [fg]) (by simp [fg])
   ·repeat' ((first | apply ai | apply ah | apply am | apply au | refine aq rfl ?_ | apply al | apply aj | apply ae | apply ak mixed | (with_reducible first | refine af ?_ | refine aP (f := .c (.fn 85 [])) (z := []) (q := [0]) ?_ | refine aL (f := .c (.fn 85 [])) (z := []) (q := [0]) ?_ | refine ao ?_) | refine av (bw _ _) ?_ ?_ | with_reducible refine ab (dM _ _) (by simp) ?_ | simp (disch := omega) only [bf, aG] | (with_reducible refine aZ rfl rfl ?_ ?_; (focus ((try simp only [Wr, Rd, aV, bV, bI, bG, List.take_length, cx, dh, dg, reduceIte, Nat.sub_zero, fw]) <;> ((repeat' (with_reducible refine And.intro ?_ ?_)) <;> first | exact trivial | assumption | (simp; done) | (simp only [List.length_map] at *; omega) | omega | (simp [fs]; done) | exact ay)))) | ((first | refine ac ?_ ?_ | refine aa ?_ ?_) <;> intro hc <;> (try simp only [hc]) <;> try simp at hc) | (with_reducible refine ⟨?_, ?_⟩; (focus ((repeat' with_reducible refine ⟨?_, ?_⟩) <;> first | exact trivial | assumption | (simp; done) | (simp only [List.length_map] at *; omega) | omega | (simp [fs]; done) | exact ay))) | (with_reducible intro x hx) | omega) <;> (try simp only [Rd, aV, bV, bI, bG, List.take_length, cx, dh, dg, h1, hm, hv, hmod, h2, h3, h4, h6, hor, Nat.reduceBEq, reduceIte, Nat.reduceLeDiff, cond_true, cond_false, Int.reduceToNat, Int.reduceLE, IntKind.bits, fw, fd]))
    refine hk ⟨(cs, n + v, s + 7), hstep, hnew, hnew', by dsimp only; omega, by dsimp only; simp at hpl; omega⟩ _ _ (by dsimp only; simp) ?_
    refine aJ [0] (by rfl) (by simp) (by simp [fg]) (by simp [fg])
theorem qw (l : List UInt8) (x : Int) : az Try.prog 58 [.ptr 0 0 0 1, .int .u64 x] [Rd l true] (.int .u64 0) [Rd l true] := by
 refine aK Try.func58 low58 (by simp [c58]) ?_
 simp only [c58]
 repeat' ((first | apply ai | apply ah | apply am | apply au | refine aq rfl ?_ | apply al | apply aj | apply ae | apply ak mixed | (with_reducible first | refine af ?_ | refine ao ?_) | simp (disch := omega) only [bf, aG, aN, aO, bp, Int.tdiv_eq_ediv_of_nonneg, Int.tmod_eq_emod_of_nonneg] | (with_reducible refine aZ rfl rfl ?_ ?_; (focus ((try simp only [Wr, Rd, aV, bV, bI, bG, List.take_length, cx, dh, dg, reduceIte, Nat.sub_zero, fw]) <;> ((repeat' (with_reducible refine And.intro ?_ ?_)) <;> first | exact trivial | assumption | (simp; done) | (simp only [List.length_map] at *; omega) | omega | (simp [fs]; done) | exact ay)))) | ((first | refine ac ?_ ?_ | refine aa ?_ ?_) <;> intro hc <;> (try simp only [hc]) <;> try simp at hc) | (with_reducible refine ⟨?_, ?_⟩; (focus ((repeat' with_reducible refine ⟨?_, ?_⟩) <;> first | exact trivial | assumption | (simp; done) | (simp only [List.length_map] at *; omega) | omega | (simp [fs]; done) | exact ay))) | (with_reducible intro x hx) | omega) <;> (try simp only [Rd, cY, fw]))
 refine aT (ι := Unit) (fun i => ([(0, .ptr 0 0 0 1)], [Rd l true])) (fun i => 0) () ?_ ?_
 ·refine aJ [0] (by rfl) (by simp) (by simp [fg]) (by simp [fg])
 rintro ⟨⟩ hk
 dsimp only at hk ⊢
 repeat' ((first | apply ai | apply ah | apply am | apply au | refine aq rfl ?_ | apply al | apply aj | apply ae | apply ak mixed | (with_reducible first | refine af ?_ | refine aP (f := .c (.fn 85 [])) (z := []) (q := [0]) ?_ | refine aL (f := .c (.fn 85 [])) (z := []) (q := [0]) ?_ | refine ao ?_) | refine av (bw _ _) ?_ ?_ | with_reducible refine ab (dM _ _) (by simp) ?_ | simp (disch := omega) only [bf, aG, aN, aO, bp, Int.tdiv_eq_ediv_of_nonneg, Int.tmod_eq_emod_of_nonneg] | (with_reducible refine aZ rfl rfl ?_ ?_; (focus ((try simp only [Wr, Rd, aV, bV, bI, bG, List.take_length, cx, dh, dg, reduceIte, Nat.sub_zero, fw]) <;> ((repeat' (with_reducible refine And.intro ?_ ?_)) <;> first | exact trivial | assumption | (simp; done) | (simp only [List.length_map] at *; omega) | omega | (simp [fs]; done) | exact ay)))) | ((first | refine ac ?_ ?_ | refine aa ?_ ?_) <;> intro hc <;> (try simp only [hc]) <;> try simp at hc) | (with_reducible refine ⟨?_, ?_⟩; (focus ((repeat' with_reducible refine ⟨?_, ?_⟩) <;> first | exact trivial | assumption | (simp; done) | (simp only [List.length_map] at *; omega) | omega | (simp [fs]; done) | exact ay))) | (with_reducible intro x hx) | omega) <;> (try simp only [Rd, Nat.reduceBEq, reduceIte, cond_false, fw, fd]))
 refine aw [0] (by rfl) (by simp) (by simp [fg])
end Go.Proofs.Ytgefljdclekadaa

namespace Go.Proofs.Ytgefljdclekadaa
open Go Go.Vi
def bs (l : List UInt8) : ByteArray := ⟨l.toArray⟩
theorem cz {l : List UInt8} : (⟨l.toArray⟩ : ByteArray) = bs l := rfl
theorem mI {l : List UInt8} : (bs l).size = l.length := by simp [bs, ByteArray.size]
theorem sC {s : ByteArray} : bs s.data.toList = s := by
 apply ByteArray.ext; simp [bs]
theorem wN {l m : List UInt8} (h : bs l = bs m) : l = m := by
 have := congrArg (fun s => s.data.toList) h
 simpa [bs] using this
theorem bl (l : List UInt8) : bytesOf (r8 l) = some l := by
 induction l with
 | nil => rfl
 | cons c cs ih =>
  have : r8 (c :: cs) = [.int .u8 (c.toNat : Int)] :: r8 cs := rfl
  rw [this, bytesOf, ih]; simp
theorem and1 (v : Nat) (h : v < 18446744073709551616) : gU .u64 (v : Int) 1 = ((v % 2 : Nat) : Int) := by
 have e : (BitVec.ofInt 64 (v : Int) &&& BitVec.ofInt 64 1).toNat = v % 2 := by
  rw [BitVec.toNat_and, BitVec.ofInt_natCast, BitVec.toNat_ofNat, Nat.mod_eq_of_lt h, show (BitVec.ofInt 64 1).toNat = 1 from rfl, Nat.and_one_is_mod]
 have h1 : gU .u64 (v : Int) 1 = IntKind.u64.wrap ((BitVec.ofInt 64 (v : Int) &&& BitVec.ofInt 64 1).toNat : Nat) := rfl
 rw [h1, e, aG (by omega) (by omega)]
def em (v : Nat) : Int := if v % 2 = 0 then (v / 2 : Nat) else -((v / 2 : Nat) : Int) - 1
theorem pG (n : Int) : em (zz n) = n := by
 unfold em zz
 by_cases h : 0 ≤ n
 ·rw [if_pos h, if_pos (by omega)]; omega
 ·rw [if_neg h, if_neg (by omega)]; omega
theorem xorS0 (x : Nat) (h : x < 9223372036854775808) : ef .i64 (x : Int) 0 = x := by
 have e : (BitVec.ofInt 64 (x : Int) ^^^ BitVec.ofInt 64 0).toNat = x := by
  rw [show BitVec.ofInt 64 0 = 0#64 from rfl, BitVec.xor_zero, BitVec.ofInt_natCast, BitVec.toNat_ofNat]; omega
 have h1 : ef .i64 (x : Int) 0 = IntKind.i64.wrap ((BitVec.ofInt 64 (x : Int) ^^^ BitVec.ofInt 64 0).toNat : Nat) := rfl
 rw [h1, e, bf (by omega) (by omega)]
theorem xorS1 (x : Nat) (h : x < 9223372036854775808) : ef .i64 (x : Int) (-1) = -(x : Int) - 1 := by
 have e : (BitVec.ofInt 64 (x : Int) ^^^ BitVec.ofInt 64 (-1)).toNat = 18446744073709551615 - x := by
  rw [show BitVec.ofInt 64 (-1) = BitVec.allOnes 64 from rfl, BitVec.xor_allOnes, BitVec.toNat_not, BitVec.ofInt_natCast, BitVec.toNat_ofNat]; omega
 have h1 : ef .i64 (x : Int) (-1) = IntKind.i64.wrap ((BitVec.ofInt 64 (x : Int) ^^^ BitVec.ofInt 64 (-1)).toNat : Nat) := rfl
 rw [h1, e]
 unfold IntKind.wrap
 simp [IntKind.bits, IntKind.signed]
 omega
theorem rt {v : Nat} (h : v < 18446744073709551616) : ef .i64 (IntKind.i64.wrap ((v : Int) / 2)) (IntKind.i64.wrap (0 - IntKind.i64.wrap (gU .u64 v 1))) = em v := by
 rw [and1 v h, bf (n := (v : Int) / 2) (by omega) (by omega), bf (n := ((v % 2 : Nat) : Int)) (by omega) (by omega), bf (by omega) (by omega)]
 rw [show (v : Int) / 2 = ((v / 2 : Nat) : Int) by omega]
 unfold em
 by_cases h2 : v % 2 = 0
 ·rw [if_pos h2, h2]; exact xorS0 _ (by omega)
 ·rw [if_neg h2, show v % 2 = 1 by omega]; exact xorS1 _ (by omega)
theorem pX : ∀ (m : Nat) (l : List UInt8) (n s : Nat), m < 18446744073709551616 → (dq m l n s).1 < 18446744073709551616 ∧ (dq m l n s).2.1.length ≤ l.length ∧ (dq m l n s).1 ≤ m
 | m, [], n, s, hm => by simp [dq]
 | m, c :: cs, n, s, hm => by
  rw [dq]
  split
  ·simp
  ·split
   ·split
    ·simp
    ·simp; omega
   ·have := pX m cs (n + c.toNat % 128 * 2 ^ s) (s + 7) hm
    simp only [List.length_cons]; omega
end Go.Proofs.Ytgefljdclekadaa

namespace Go.Proofs.Ytgefljdclekadaa
open Go Go.Vi
theorem rI {l m : List UInt8} : (bs l == bs m) = decide (l = m) := by
 show ((⟨l⟩ : Array UInt8) == ⟨m⟩) = decide (l = m)
 rw [Bool.eq_iff_iff]; simp
theorem gX {s t : ByteArray} : (s == t) = decide (s = t) := by
 rw [← sC (s := s), ← sC (s := t), rI]
 rw [Bool.eq_iff_iff]
 simp only [decide_eq_true_eq]
 exact ⟨fun h => by rw [h], wN⟩
theorem xV (m : Nat) (t : List UInt8) : ∀ (k n s : Nat), n < 2 ^ s → n + k * 2 ^ s < 18446744073709551616 → (s = 0 ∨ 0 < k) → n + k * 2 ^ s ≤ m → dq m (aX k ++ t) n s = (n + k * 2 ^ s, t, false) := by
 intro k
 induction k using Nat.strongRecOn with
 | _ k ih =>
  intro n s hn hb hz hm
  have hs : ¬ 63 < s := fun h => by
   have h1 : 0 < k := by omega
   have h2 : 2 ^ 64 ≤ 2 ^ s := Nat.pow_le_pow_right (by decide) (by omega)
   have h3 : 1 * 2 ^ s ≤ k * 2 ^ s := Nat.mul_le_mul_right _ h1
   omega
  have hp : 0 < 2 ^ s := Nat.two_pow_pos s
  by_cases h : k < 128
  ·rw [ck h, List.cons_append, List.nil_append, dq]
   have e1 : (UInt8.ofNat k).toNat = k := by simp; omega
   have e2 : k % 128 = k := Nat.mod_eq_of_lt h
   rw [e1, e2, if_neg (by omega), if_pos h, if_neg (by omega)]
  ·rw [iJ (by omega), List.cons_append, dq]
   have e1 : (UInt8.ofNat (128 + k % 128)).toNat = 128 + k % 128 := by simp; omega
   have e2 : (128 + k % 128) % 128 = k % 128 := by omega
   have e3 : k % 128 * 2 ^ s ≤ k * 2 ^ s := Nat.mul_le_mul_right _ (Nat.mod_le _ _)
   have e4 : 2 ^ (s + 7) = 128 * 2 ^ s := by rw [Nat.pow_add]; omega
   have e5 : n + k % 128 * 2 ^ s + k / 128 * 2 ^ (s + 7) = n + k * 2 ^ s := by
    have e6 : k / 128 * (128 * 2 ^ s) = (k / 128 * 128) * 2 ^ s := by rw [Nat.mul_assoc]
    have e7 : k % 128 * 2 ^ s + (k / 128 * 128) * 2 ^ s = k * 2 ^ s := by rw [← Nat.add_mul]; congr 1; omega
    rw [e4, e6]; omega
   have e8 : k % 128 * 2 ^ s ≤ 127 * 2 ^ s := Nat.mul_le_mul_right _ (by omega)
   rw [e1, e2, if_neg (by omega), if_neg (by omega), ih (k / 128) (by omega) _ _ (by rw [e4]; omega) (by rw [e5]; exact hb) (.inr (by omega)) (by rw [e5]; exact hm), e5]
theorem gz (m k : Nat) (t : List UInt8) (hk : k < 18446744073709551616) (hm : k ≤ m) : dq m (aX k ++ t) 0 0 = (k, t, false) := by
 have := xV m t k 0 0 (by simp) (by simpa using hk) (.inl rfl) (by simpa using hm)
 simpa using this
end Go.Proofs.Ytgefljdclekadaa
