import Derived.Test.YtgefljdclekadaaGreatVi20
set_option linter.unusedVariables false
set_option linter.unusedSimpArgs false
set_option linter.unnecessarySimpa false
namespace Go.Vi
open Go Go.RowKit
theorem aW {n : Int} (h1 : -9223372036854775808 ≤ n) (h2 : n ≤ 9223372036854775807) : IntKind.i64.wrap n = n := by
 unfold IntKind.wrap
 simp [IntKind.bits, IntKind.signed] <;> omega
theorem aF {n : Int} (h1 : 0 ≤ n) (h2 : n ≤ 18446744073709551615) : IntKind.u64.wrap n = n := by
 unfold IntKind.wrap
 simp [IntKind.bits, IntKind.signed] <;> omega
theorem aK {n : Int} (h1 : 0 ≤ n) (h2 : n ≤ 4294967295) : IntKind.u32.wrap n = n := by
 unfold IntKind.wrap
 simp [IntKind.bits, IntKind.signed] <;> omega
theorem aL {n : Int} (h1 : 0 ≤ n) (h2 : n ≤ 65535) : IntKind.u16.wrap n = n := by
 unfold IntKind.wrap
 simp [IntKind.bits, IntKind.signed] <;> omega
theorem bg {n : Int} (h1 : 0 ≤ n) (h2 : n ≤ 255) : IntKind.u8.wrap n = n := by
 unfold IntKind.wrap
 simp [IntKind.bits, IntKind.signed] <;> omega
theorem m1 {k : Nat} {d : D} {e : bK} : lk ((k, d) :: e) k = d := by simp [lk]
theorem jU {k : Nat} {d : D} {e : bK} {n : Nat} (h : (k == n) = false) : lk ((k, d) :: e) n = lk e n := by
 have : k ≠ n := fun e => by subst e; simp at h
 simp [lk, this]
def yc (x : Option (Prop × D)) (K : D → Prop) : Prop := match x with
 | some (p, d) => p ∧ K d
 | none => False
def te (r : Option (List D)) (i : Nat) (ag : Option Nat) (K : D → Prop) : Prop := ∀ r', r = some r' → yc (fx r' i ag) K
def vK (o : Option Ob) (j i n : Nat) (ag : Option Nat) (K : D → Prop) : Prop := match o with
 | some o => (o.rows.length = n ∧ o.real = true ∧ j < n) ∧ te (o.rows[j]?) i ag K
 | none => False
def yb (σ : List Ob) (d : D) (ag : Option Nat) (K : D → Prop) : Prop := match d with
 | .ptr l j i n => vK (σ[l]?) j i n ag K
 | _ => False
theorem oJ {env : bK} {σ : List Ob} {K : List D → Prop} : eW env σ [] K = K [] := id rfl
theorem oK {env : bK} {σ : List Ob} {K : List D → Prop} {t : Nat} {rs : List RL} : eW env σ (.tmp t :: rs) K = eW env σ rs fun ds => K (lk env t :: ds) := id rfl
theorem mA {env : bK} {σ : List Ob} {K : List D → Prop} {a : Nat} {ag : Option Nat} {rs : List RL} : eW env σ (.cell a ag :: rs) K = yb σ (lk env a) ag fun d => eW env σ rs fun ds => K (d :: ds) := by
 simp only [eW, yb]
 cases lk env a <;> try rfl
 rename_i l j i n
 simp only [vK]
 cases σ[l]? with
 | none => rfl
 | some o =>
  simp only [te, gS, and_assoc]
  rfl
theorem oi {σ : List Ob} {l j i n : Nat} {ag : Option Nat} {K : D → Prop} : yb σ (.ptr l j i n) ag K = vK (σ[l]?) j i n ag K := id rfl
theorem lJ {o : Ob} {j i n : Nat} {ag : Option Nat} {K : D → Prop} : vK (some o) j i n ag K = ((o.rows.length = n ∧ o.real = true ∧ j < n) ∧ te (o.rows[j]?) i ag K) := id rfl
theorem lK {r : List D} {i : Nat} {ag : Option Nat} {K : D → Prop} : te (some r) i ag K = yc (fx r i ag) K := by simp [te]
theorem lI {p : Prop} {d : D} {K : D → Prop} : yc (some (p, d)) K = (p ∧ K d) := id rfl
end Go.Vi
