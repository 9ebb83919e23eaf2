import Derived.Test.YtggchhmgeafoaaaVi20
set_option linter.unusedVariables false
set_option linter.unusedSimpArgs false
set_option linter.unnecessarySimpa false
namespace Go.Vi
open Go Go.RowKit
theorem w64 {n : Int} (h1 : -9223372036854775808 ≤ n) (h2 : n ≤ 9223372036854775807) : IntKind.i64.wrap n = n := by
 unfold IntKind.wrap
 simp [IntKind.bits, IntKind.signed] <;> omega
theorem wu64 {n : Int} (h1 : 0 ≤ n) (h2 : n ≤ 18446744073709551615) : IntKind.u64.wrap n = n := by
 unfold IntKind.wrap
 simp [IntKind.bits, IntKind.signed] <;> omega
theorem wu32 {n : Int} (h1 : 0 ≤ n) (h2 : n ≤ 4294967295) : IntKind.u32.wrap n = n := by
 unfold IntKind.wrap
 simp [IntKind.bits, IntKind.signed] <;> omega
theorem wu16 {n : Int} (h1 : 0 ≤ n) (h2 : n ≤ 65535) : IntKind.u16.wrap n = n := by
 unfold IntKind.wrap
 simp [IntKind.bits, IntKind.signed] <;> omega
theorem wu8 {n : Int} (h1 : 0 ≤ n) (h2 : n ≤ 255) : IntKind.u8.wrap n = n := by
 unfold IntKind.wrap
 simp [IntKind.bits, IntKind.signed] <;> omega
theorem lk_hit {k : Nat} {d : D} {e : Env} : lk ((k, d) :: e) k = d := by simp [lk]
theorem lk_miss {k : Nat} {d : D} {e : Env} {n : Nat} (h : (k == n) = false) : lk ((k, d) :: e) n = lk e n := by
 have : k ≠ n := fun e => by subst e; simp at h
 simp [lk, this]
def ResL (x : Option (Prop × D)) (K : D → Prop) : Prop := match x with
 | some (p, d) => p ∧ K d
 | none => False
def ResR (r : Option (List D)) (i : Nat) (ag : Option Nat) (K : D → Prop) : Prop := ∀ r', r = some r' → ResL (loadD r' i ag) K
def ResO (o : Option Ob) (j i n : Nat) (ag : Option Nat) (K : D → Prop) : Prop := match o with
 | some o => (o.rows.length = n ∧ o.real = true ∧ j < n) ∧ ResR (o.rows[j]?) i ag K
 | none => False
def ResC (σ : List Ob) (d : D) (ag : Option Nat) (K : D → Prop) : Prop := match d with
 | .ptr l j i n => ResO (σ[l]?) j i n ag K
 | _ => False
theorem resK_nil {env : Env} {σ : List Ob} {K : List D → Prop} : resK env σ [] K = K [] := id rfl
theorem resK_tmp {env : Env} {σ : List Ob} {K : List D → Prop} {t : Nat} {rs : List RL} : resK env σ (.tmp t :: rs) K = resK env σ rs fun ds => K (lk env t :: ds) := id rfl
theorem resK_cell {env : Env} {σ : List Ob} {K : List D → Prop} {a : Nat} {ag : Option Nat} {rs : List RL} : resK env σ (.cell a ag :: rs) K = ResC σ (lk env a) ag fun d => resK env σ rs fun ds => K (d :: ds) := by
 simp only [resK, ResC]
 cases lk env a <;> try rfl
 rename_i l j i n
 simp only [ResO]
 cases σ[l]? with
 | none => rfl
 | some o =>
  simp only [ResR, loadRow_D, and_assoc]
  rfl
theorem ResC_ptr {σ : List Ob} {l j i n : Nat} {ag : Option Nat} {K : D → Prop} : ResC σ (.ptr l j i n) ag K = ResO (σ[l]?) j i n ag K := id rfl
theorem ResO_some {o : Ob} {j i n : Nat} {ag : Option Nat} {K : D → Prop} : ResO (some o) j i n ag K = ((o.rows.length = n ∧ o.real = true ∧ j < n) ∧ ResR (o.rows[j]?) i ag K) := id rfl
theorem ResR_some {r : List D} {i : Nat} {ag : Option Nat} {K : D → Prop} : ResR (some r) i ag K = ResL (loadD r i ag) K := by simp [ResR]
theorem ResL_some {p : Prop} {d : D} {K : D → Prop} : ResL (some (p, d)) K = (p ∧ K d) := id rfl
end Go.Vi
