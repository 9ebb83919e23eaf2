import Derived.Test.YtapennlmboabeaaGreatVi20
set_option linter.unusedVariables false
set_option linter.unusedSimpArgs false
set_option linter.unnecessarySimpa false
namespace Go.Vi
open Go Go.RowKit
theorem kL {n : Int} (h1 : -9223372036854775808 ≤ n) (h2 : n ≤ 9223372036854775807) : IntKind.i64.wrap n = n := by
 unfold IntKind.wrap
 simp [IntKind.bits, IntKind.signed] <;> omega
theorem il {n : Int} (h1 : 0 ≤ n) (h2 : n ≤ 18446744073709551615) : IntKind.u64.wrap n = n := by
 unfold IntKind.wrap
 simp [IntKind.bits, IntKind.signed] <;> omega
theorem iM {n : Int} (h1 : 0 ≤ n) (h2 : n ≤ 4294967295) : IntKind.u32.wrap n = n := by
 unfold IntKind.wrap
 simp [IntKind.bits, IntKind.signed] <;> omega
theorem iL {n : Int} (h1 : 0 ≤ n) (h2 : n ≤ 65535) : IntKind.u16.wrap n = n := by
 unfold IntKind.wrap
 simp [IntKind.bits, IntKind.signed] <;> omega
theorem lD {n : Int} (h1 : 0 ≤ n) (h2 : n ≤ 255) : IntKind.u8.wrap n = n := by
 unfold IntKind.wrap
 simp [IntKind.bits, IntKind.signed] <;> omega
theorem di {k : Nat} {d : D} {e : fy} : lk ((k, d) :: e) k = d := by simp [lk]
theorem cg {k : Nat} {d : D} {e : fy} {n : Nat} (h : (k == n) = false) : lk ((k, d) :: e) n = lk e n := by
 have : k ≠ n := fun e => by subst e; simp at h
 simp [lk, this]
def Bs (x : Option (Prop × D)) (K : D → Prop) : Prop := match x with
 | some (p, d) => p ∧ K d
 | none => False
def wK (r : Option (List D)) (i : Nat) (ag : Option Nat) (K : D → Prop) : Prop := ∀ r', r = some r' → Bs (fE r' i ag) K
def yD (o : Option Ob) (j i n : Nat) (ag : Option Nat) (K : D → Prop) : Prop := match o with
 | some o => (o.rows.length = n ∧ o.real = true ∧ j < n) ∧ wK (o.rows[j]?) i ag K
 | none => False
def Br (σ : List Ob) (d : D) (ag : Option Nat) (K : D → Prop) : Prop := match d with
 | .ptr l j i n => yD (σ[l]?) j i n ag K
 | _ => False
theorem cI {env : fy} {σ : List Ob} {K : List D → Prop} : jN env σ [] K = K [] := id rfl
theorem cJ {env : fy} {σ : List Ob} {K : List D → Prop} {t : Nat} {rs : List RL} : jN env σ (.tmp t :: rs) K = jN env σ rs fun ds => K (lk env t :: ds) := id rfl
theorem cd {env : fy} {σ : List Ob} {K : List D → Prop} {a : Nat} {ag : Option Nat} {rs : List RL} : jN env σ (.cell a ag :: rs) K = Br σ (lk env a) ag fun d => jN env σ rs fun ds => K (d :: ds) := by
 simp only [jN, Br]
 cases lk env a <;> try rfl
 rename_i l j i n
 simp only [yD]
 cases σ[l]? with
 | none => rfl
 | some o =>
  simp only [wK, kl, and_assoc]
  rfl
theorem cC {σ : List Ob} {l j i n : Nat} {ag : Option Nat} {K : D → Prop} : Br σ (.ptr l j i n) ag K = yD (σ[l]?) j i n ag K := id rfl
theorem bQ {o : Ob} {j i n : Nat} {ag : Option Nat} {K : D → Prop} : yD (some o) j i n ag K = ((o.rows.length = n ∧ o.real = true ∧ j < n) ∧ wK (o.rows[j]?) i ag K) := id rfl
theorem bR {r : List D} {i : Nat} {ag : Option Nat} {K : D → Prop} : wK (some r) i ag K = Bs (fE r i ag) K := by simp [wK]
theorem bP {p : Prop} {d : D} {K : D → Prop} : Bs (some (p, d)) K = (p ∧ K d) := id rfl
end Go.Vi
