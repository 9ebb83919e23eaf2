import Derived.Test.YtapennlmboabeaaBGX
set_option linter.unusedVariables false
set_option linter.unusedSimpArgs false
set_option linter.unnecessarySimpa false
namespace Go.Proofs.Ytapennlmboabeaa
open Go Go.Vi
theorem bitXorN {x y : Nat} (hx : x < 18446744073709551616) (hy : y < 18446744073709551616) : bitXor .u64 (x : Int) (y : Int) = ((x ^^^ y : Nat) : Int) := by
  have e : (BitVec.ofInt 64 (x : Int) ^^^ BitVec.ofInt 64 (y : Int)).toNat = x ^^^ y := by
    rw [BitVec.toNat_xor, BitVec.ofInt_natCast, BitVec.ofInt_natCast, BitVec.toNat_ofNat, BitVec.toNat_ofNat, Nat.mod_eq_of_lt (by omega), Nat.mod_eq_of_lt (by omega)]
  have h : x ^^^ y < 2 ^ 64 := Nat.xor_lt_two_pow (by omega) (by omega)
  have : bitXor .u64 (x : Int) (y : Int) = IntKind.u64.wrap ((BitVec.ofInt 64 (x : Int) ^^^ BitVec.ofInt 64 (y : Int)).toNat : Nat) := rfl
  rw [this, e, wu64 (by omega) (by omega)]
theorem xor_inj {x y z : Nat} (h : x ^^^ y = x ^^^ z) : y = z := by
  have := congrArg (x ^^^ ·) h
  simpa [← Nat.xor_assoc] using this
theorem mul_inj {x y : Nat} (hx : x < 18446744073709551616) (hy : y < 18446744073709551616) (h : x * 1099511628211 % 18446744073709551616 = y * 1099511628211 % 18446744073709551616) : x = y := by
  have e : ∀ z : Nat, z < 18446744073709551616 → (z * 1099511628211 % 18446744073709551616) * 14886173955864302971 % 18446744073709551616 = z := fun z hz => by
    rw [Nat.mul_mod, Nat.mod_mod, ← Nat.mul_mod, Nat.mul_assoc, Nat.mul_mod, show 1099511628211 * 14886173955864302971 % 18446744073709551616 = 1 from rfl, Nat.mul_one, Nat.mod_mod, Nat.mod_eq_of_lt hz]
  rw [← e x hx, h, e y hy]
end Go.Proofs.Ytapennlmboabeaa
