import Derived.Test.YtgefljdclekadaaVi20
set_option linter.unusedVariables false
set_option linter.unusedSimpArgs false
set_option linter.unnecessarySimpa false
namespace Go.Vi
open Go Go.RowKit
theorem bf {n : Int} (h1 : -9223372036854775808 ≤ n) (h2 : n ≤ 9223372036854775807) : IntKind.i64.wrap n = n := by
 unfold IntKind.wrap
 simp [IntKind.bits, IntKind.signed] <;> omega
theorem aG {n : Int} (h1 : 0 ≤ n) (h2 : n ≤ 18446744073709551615) : IntKind.u64.wrap n = n := by
 unfold IntKind.wrap
 simp [IntKind.bits, IntKind.signed] <;> omega
theorem aN {n : Int} (h1 : 0 ≤ n) (h2 : n ≤ 4294967295) : IntKind.u32.wrap n = n := by
 unfold IntKind.wrap
 simp [IntKind.bits, IntKind.signed] <;> omega
theorem aO {n : Int} (h1 : 0 ≤ n) (h2 : n ≤ 65535) : IntKind.u16.wrap n = n := by
 unfold IntKind.wrap
 simp [IntKind.bits, IntKind.signed] <;> omega
theorem bp {n : Int} (h1 : 0 ≤ n) (h2 : n ≤ 255) : IntKind.u8.wrap n = n := by
 unfold IntKind.wrap
 simp [IntKind.bits, IntKind.signed] <;> omega
theorem mK {k : Nat} {d : D} {e : bv} : lk ((k, d) :: e) k = d := by simp [lk]
theorem jC {k : Nat} {d : D} {e : bv} {n : Nat} (h : (k == n) = false) : lk ((k, d) :: e) n = lk e n := by
 have : k ≠ n := fun e => by subst e; simp at h
 simp [lk, this]
def wu (x : Option (Prop × D)) (K : D → Prop) : Prop := match x with
 | some (p, d) => p ∧ K d
 | none => False
def sI (r : Option (List D)) (i : Nat) (ag : Option Nat) (K : D → Prop) : Prop := ∀ r', r = some r' → wu (eG r' i ag) K
def uN (o : Option Ob) (j i n : Nat) (ag : Option Nat) (K : D → Prop) : Prop := match o with
 | some o => (o.rows.length = n ∧ o.real = true ∧ j < n) ∧ sI (o.rows[j]?) i ag K
 | none => False
def xO (σ : List Ob) (d : D) (ag : Option Nat) (K : D → Prop) : Prop := match d with
 | .ptr l j i n => uN (σ[l]?) j i n ag K
 | _ => False
theorem nE {env : bv} {σ : List Ob} {K : List D → Prop} : eF env σ [] K = K [] := id rfl
theorem nA {env : bv} {σ : List Ob} {K : List D → Prop} {t : Nat} {rs : List RL} : eF env σ (.tmp t :: rs) K = eF env σ rs fun ds => K (lk env t :: ds) := id rfl
theorem lR {env : bv} {σ : List Ob} {K : List D → Prop} {a : Nat} {ag : Option Nat} {rs : List RL} : eF env σ (.cell a ag :: rs) K = xO σ (lk env a) ag fun d => eF env σ rs fun ds => K (d :: ds) := by
 simp only [eF, xO]
 cases lk env a <;> try rfl
 rename_i l j i n
 simp only [uN]
 cases σ[l]? with
 | none => rfl
 | some o =>
  simp only [sI, fh, and_assoc]
  rfl
theorem na {σ : List Ob} {l j i n : Nat} {ag : Option Nat} {K : D → Prop} : xO σ (.ptr l j i n) ag K = uN (σ[l]?) j i n ag K := id rfl
theorem ll {o : Ob} {j i n : Nat} {ag : Option Nat} {K : D → Prop} : uN (some o) j i n ag K = ((o.rows.length = n ∧ o.real = true ∧ j < n) ∧ sI (o.rows[j]?) i ag K) := id rfl
theorem lV {r : List D} {i : Nat} {ag : Option Nat} {K : D → Prop} : sI (some r) i ag K = wu (eG r i ag) K := by simp [sI]
theorem lL {p : Prop} {d : D} {K : D → Prop} : wu (some (p, d)) K = (p ∧ K d) := id rfl
end Go.Vi
