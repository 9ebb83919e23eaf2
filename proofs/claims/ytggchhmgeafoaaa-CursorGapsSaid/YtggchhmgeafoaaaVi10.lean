import Derived.Test.YtggchhmgeafoaaaVi9
set_option linter.unusedVariables false
set_option linter.unusedSimpArgs false
set_option linter.unnecessarySimpa false
namespace Go.Vi
open Go Go.RowKit
theorem set_same {α : Type} {l : List α} {i : Nat} {x : α} (h : l[i]? = some x) : l.set i x = l := by
 apply List.ext_getElem?
 intro q
 by_cases e : i = q
 ·subst e; rw [List.getElem?_set_self (List.getElem?_eq_some_iff.1 h).1, h]
 ·rw [List.getElem?_set_ne e]
structure SrcR (P : Program) (t u : TypeId) (x : Value) (inf : TypeInfo) (e : TypeId) (z : Value) (m : Nat) (news : List Value) (w : World) : Prop where
 len : news.length = m * inf.size
 one : ∀ v ∈ news, v.oneCell' = true
 none : m = 0 → ∀ (ty : TypeId) (A : Option Addr) (n cap : Nat), n ≤ cap → (Builtin.append_ #[t, u] ty #[.slice A n cap, x]).run P w = .ok (.slice A n cap) w
 room : ∀ (ty : TypeId) (b off n cap : Nat) (arr : Array Value) (e' : TypeId), n + m ≤ cap → w.heap[b]? = some (.cells arr e' (0, 0)) → off + n * inf.size + news.length ≤ arr.size →
  (Builtin.append_ #[t, u] ty #[.slice (some ⟨b, off, .none⟩) n cap, x]).run P w = .ok (.slice (some ⟨b, off, .none⟩) (n + m) cap) (w.setRow b (arr.toList.take (off + n * inf.size) ++ news ++ arr.toList.drop (off + n * inf.size + news.length)).toArray)
 grow : ∀ (ty : TypeId) (A : Option Addr) (n cap : Nat) (olds : List Value), olds.length = n * inf.size → (A = .none → n = 0) → (∀ ad, A = some ad → ∀ (j : Nat) v, olds[j]? = some v → w.cell? (ad.add j) = some v) → cap < n + m → n + m ≤ 9223372036854775807 → (n + m) * inf.bytes ≤ 140737488355328 →
  (Builtin.append_ #[t, u] ty #[.slice A n cap, x]).run P w = .ok (.slice (some ⟨w.heap.size, 0, .none⟩) (n + m) (grownCap w (n + m) cap e)) (w.drew.alloc (.cells (olds.toArray ++ news.toArray ++ Builtin.zeroCells z.cells (grownCap w (n + m) cap e - (n + m))) e))
section
variable {P : Program}
theorem run_olds (w : World) (size n cap : Nat) (A : Option Addr) (olds : List Value) (hlo : olds.length = n * size) (hA : A = none → n = 0) (holds : ∀ ad, A = some ad → ∀ (j : Nat) v, olds[j]? = some v → w.cell? (ad.add j) = some v) :
  (Builtin.firstCells size n (.slice A n cap)).run P w = .ok olds.toArray w := by
 cases A with
 | none =>
  obtain rfl := hA rfl
  have : olds = [] := List.eq_nil_of_length_eq_zero (by simpa using hlo)
  subst this
  exact run_firstCells_none (P := P) w size 0 0 cap
 | some b => exact run_firstCells_some (P := P) w size n b n cap olds hlo (holds b rfl)
theorem srcR_src {w : World} {t u e : TypeId} {x : Value} {inf : TypeInfo} {z : Value} {m : Nat} {news : List Value} (ht : P.underlying t = some (.slice e)) (hi : P.info? e = some inf) (hz : inf.zero = some z)
  (hu : ∃ d, P.underlying u = some d ∧ ∀ k, d ≠ .int k) (hl : ∀ w', (Builtin.lenOf x).run P w' = .ok m w') (hc : ∀ w' : World, w'.heap = w.heap → (Builtin.firstCells inf.size m x).run P w' = .ok news.toArray w')
  (hlen : news.length = m * inf.size) (hone : ∀ v ∈ news, v.oneCell' = true) : SrcR P t u x inf e z m news w := by
 obtain ⟨d, hd, hk⟩ := hu
 have hk' : ∀ k, ¬ d = .int k := hk
 refine ⟨hlen, hone, fun hm ty A n cap hle => ?_, fun ty b off n cap arr e' hroom hb hfit => ?_, fun ty A n cap olds hlo hA holds hg h63 hby => ?_⟩
 ·subst hm
  have hf := hc w rfl
  have : news = [] := List.eq_nil_of_length_eq_zero (by simpa using hlen)
  subst this
  cases A <;> simp [Builtin.append_, run_underlying ht, run_underlying hd, sizeOf, typeInfo, hi, hl, hle, hf, storeCells]
 ·have hf := hc w rfl
  have hst := run_storeCells_at P b (off + n * inf.size) e' news 0 arr w hb (by simpa using hfit) hone
  simp only [Nat.add_zero] at hst
  simp [Builtin.append_, run_underlying ht, run_underlying hd, sizeOf, typeInfo, hi, hl, hroom, hf, Addr.add_lit, hst]
 ·have hn : ¬ (n + m ≤ cap) := by omega
  have h63' : ¬ (9223372036854775807 < ((n : Int) + (m : Int))) := by omega
  have hfit := growslice_fits hg hby
  have h48' : ¬ (281474976710656 < Builtin.nextslicecap (n + m) cap * inf.bytes) := by omega
  have hf := hc w.drew rfl
  have hfo := run_olds (P := P) w.drew inf.size n cap A olds hlo hA (by simpa using holds)
  simp [Builtin.append_, run_underlying ht, run_underlying hd, sizeOf, typeInfo, zeroValue, hi, hz, hl, hn, h63', h48', Question.forced, hf, hfo, newRow, grownCap]
  have ea : ∀ X : Array Value, olds.toArray ++ (news.toArray ++ X) = (olds ++ news).toArray ++ X := fun X => by apply Array.ext'; simp
  rw [ea]
theorem srcR_zeros {w : World} {t u e : TypeId} {inf : TypeInfo} {z : Value} {k : IntKind} (ht : P.underlying t = some (.slice e)) (hi : P.info? e = some inf) (hz : inf.zero = some z) (hu : P.underlying u = some (.int k)) (hzs : z.cells.size = inf.size) (hpos : 0 < inf.size)
  {m : Nat} (hm63 : m ≤ 9223372036854775807) (hm47 : m * inf.bytes ≤ 140737488355328) (hone : ∀ v ∈ (Builtin.zeroCells z.cells m).toList, v.oneCell' = true) : SrcR P t u (.int .i64 m) inf e z m (Builtin.zeroCells z.cells m).toList w := by
 have hlen : (Builtin.zeroCells z.cells m).toList.length = m * inf.size := by simp [size_zeroCells, hzs]
 have hw : IntKind.i64.wrap (m : Int) = m := by rw [IntKind.wrap_i64]; omega
 have hneg : ¬ ((m : Int) < 0) := by omega
 have h48i : ¬ (281474976710656 < (m : Int) * (inf.bytes : Int)) := by
  rw [← Int.natCast_mul]
  omega
 refine ⟨hlen, hone, fun hm ty A n cap hle => ?_, fun ty b off n cap arr e' hroom hb hfit => ?_, fun ty A n cap olds hlo hA holds hg h63 hby => ?_⟩
 ·subst hm
  cases A <;> simp [Builtin.append_, run_underlying ht, run_underlying hu, sizeOf, typeInfo, hi, hle, storeCells, asInt, asIntOf, show IntKind.i64.wrap 0 = 0 from rfl]
 ·have hst := run_storeCells_at P b (off + n * inf.size) e' (Builtin.zeroCells z.cells m).toList 0 arr w hb (by simpa using hfit) hone
  simp only [Nat.add_zero] at hst
  by_cases hm0 : m = 0
  ·subst hm0
   have hz0 : Builtin.zeroCells z.cells 0 = #[] := by simp [Builtin.zeroCells]
   rw [hz0] at hst
   simp only [Array.toList_empty] at hst
   simp only [Nat.add_zero] at hroom
   simp only [hz0, Array.toList_empty] at hst ⊢
   simp [Builtin.append_, run_underlying ht, run_underlying hu, sizeOf, typeInfo, hi, hroom, asInt, asIntOf, Addr.add_lit, show IntKind.i64.wrap 0 = 0 from rfl, hst]
  ·have hns : ¬ (m * inf.size = 0) := Nat.mul_ne_zero hm0 (by omega)
   simp [Builtin.append_, run_underlying ht, run_underlying hu, sizeOf, typeInfo, zeroValue, hi, hz, asInt, asIntOf, hw, hneg, hns, h48i, hroom, Addr.add_lit, hst]
 ·have hm0 : 0 < m ∨ m = 0 := by omega
  rcases hm0 with hm0 | hm0
  ·have hfo := run_olds (P := P) w.drew inf.size n cap A olds hlo hA (by simpa using holds)
   have hn : ¬ (n + m ≤ cap) := by omega
   have h63' : ¬ (9223372036854775807 < ((n : Int) + (m : Int))) := by omega
   have hfit := growslice_fits hg hby
   have h48' : ¬ (281474976710656 < Builtin.nextslicecap (n + m) cap * inf.bytes) := by omega
   have hns : ¬ (m * inf.size = 0) := Nat.mul_ne_zero (by omega) (by omega)
   simp [Builtin.append_, run_underlying ht, run_underlying hu, sizeOf, typeInfo, zeroValue, hi, hz, asInt, asIntOf, hw, hn, hneg, hns, h63', h48', h48i, Question.forced, hfo, newRow, grownCap]
  ·subst hm0
   have hn : ¬ (n ≤ cap) := by omega
   have h63' : ¬ (9223372036854775807 < (n : Int)) := by omega
   have hfit := growslice_fits hg hby
   have h48' : ¬ (281474976710656 < Builtin.nextslicecap n cap * inf.bytes) := by simp only [Nat.add_zero] at hfit; omega
   have hfo := run_olds (P := P) w.drew inf.size n cap A olds hlo hA (by simpa using holds)
   have hz0 : Builtin.zeroCells z.cells 0 = #[] := by simp [Builtin.zeroCells]
   simp [Builtin.append_, run_underlying ht, run_underlying hu, sizeOf, typeInfo, zeroValue, hi, hz, asInt, asIntOf, hn, h63', h48', Question.forced, hfo, newRow, grownCap, hz0, show IntKind.i64.wrap 0 = 0 from rfl]
end
section
variable {P : Program} {o : Oper} {k : LK} {C : Ctx} {a : Act} {ρ : LO → D} {K : D → List Ob → Prop}
theorem own_cells (hi : Inv C) {l i k n z cap : Nat} {cl : Option Nat} {A : Option Addr} (h : Rep C (.own l i k n z cl) (.slice A k cap)) {ob : Ob} (ho : C.σ[l]? = some ob) (hn : ob.rows.length = n) :
  ∃ olds : List Value, olds.length = k * ob.sz ∧ (∀ ad, A = some ad → ∀ (j : Nat) v, olds[j]? = some v → C.w.cell? (ad.add j) = some v) ∧
   (∀ (j i' : Nat) r d, (winD i k n ob.rows)[j]? = some r → r[i']? = some d → ∃ v, olds[j * ob.sz + i']? = some v ∧ Rep C d v) := by
 obtain ⟨A', cap', ob', b, hv, q1, q2, q3, q3', q4, q5, q5', q6, q7⟩ := rep_own h
 cases hv
 rw [ho] at q1; cases q1
 have hO := hi.ob l ob b ho q2
 by_cases hreal : ob.real = true
 ·obtain ⟨⟨ad, rfl, r1⟩, r2, r3, r4, arr, e, r5, r6, r7⟩ := q6 hn hreal
  obtain ⟨hF, arr', e', h1, h2, h3⟩ := hO.blk hreal
  rw [r5] at h1; cases h1
  have hle : (i + k) * ob.sz ≤ arr.size := Nat.le_trans (Nat.mul_le_mul_right _ (by omega)) h2
  have hle' : i * ob.sz + k * ob.sz ≤ arr.size := by rw [← Nat.add_mul]; exact hle
  have hlen : ((arr.toList.drop (i * ob.sz)).take (k * ob.sz)).length = k * ob.sz := by simp; omega
  refine ⟨(arr.toList.drop (i * ob.sz)).take (k * ob.sz), hlen, fun ad' had j v hj => ?_, fun j i' r d hj hi' => ?_⟩
  ·cases had
   have hjl := (List.getElem?_eq_some_iff.1 hj).1
   rw [hlen] at hjl
   have hk0 : k ≠ 0 := by rintro rfl; omega
   rw [r1 (by omega), lit_add, cell_of_row C.w b _ arr e (0, 0) r5]
   rw [List.getElem?_take, if_pos hjl, List.getElem?_drop] at hj
   simpa using hj
  ·obtain ⟨hj', hjk⟩ := winD_get hn hj
   obtain ⟨v, hv, hrep⟩ := h3 _ i' r d hj' hi'
   refine ⟨v, ?_, hrep⟩
   have hrl : i' < ob.sz := by rw [← hO.sz r (List.mem_of_getElem? hj')]; exact (List.getElem?_eq_some_iff.1 hi').1
   rw [List.getElem?_take, if_pos (mul_bound hjk hrl (Nat.le_refl _)), List.getElem?_drop]
   rw [Nat.add_mul] at hv
   rw [← Nat.add_assoc]; simpa using hv
 ·obtain ⟨r1, r2, r3⟩ := q7 hn (by simpa using hreal)
  subst r1
  refine ⟨[], by simp, by simp, fun j i' r d hj _ => ?_⟩
  have := (winD_get hn hj).2
  omega
theorem cells_one {sz : Nat} (hpos : 0 < sz) {rows : List (List D)} {vs : List Value} (hl : vs.length = rows.length * sz) (hsz : ∀ r ∈ rows, r.length = sz) (hone : ∀ r ∈ rows, ∀ d ∈ r, d.one = true)
  (hrow : ∀ (j i' : Nat) r d, rows[j]? = some r → r[i']? = some d → ∃ v, vs[j * sz + i']? = some v ∧ Rep C d v) : ∀ x ∈ vs, x.oneCell' = true := by
 intro x hx
 obtain ⟨q, hq⟩ := List.getElem?_of_mem hx
 have hql := (List.getElem?_eq_some_iff.1 hq).1
 rw [hl] at hql
 have hj : q / sz < rows.length := by rw [Nat.div_lt_iff_lt_mul hpos]; exact hql
 have hi2 : q % sz < sz := Nat.mod_lt _ hpos
 have e : q / sz * sz + q % sz = q := by rw [Nat.mul_comm]; exact Nat.div_add_mod q sz
 have hrow' := List.getElem?_eq_getElem hj
 have hrl : (rows[q / sz]).length = sz := hsz _ (List.mem_of_getElem? hrow')
 have hcell := List.getElem?_eq_getElem (l := rows[q / sz]) (i := q % sz) (by omega)
 obtain ⟨y, hy, hrep⟩ := hrow _ _ _ _ hrow' hcell
 rw [e, hq] at hy
 cases hy
 exact (rep_one hrep (hone _ (List.mem_of_getElem? hrow') _ (List.mem_of_getElem? hcell))).1
theorem src_of (hi : Inv C) {d : D} {v : Value} (h : Rep C d v) {new : List (List D)} {pu : Bool} (hn : newsD C.σ d = some (new, pu)) {sz : Nat} (hpos : 0 < sz) (hsz : ∀ r ∈ new, r.length = sz) :
  ∃ news : List Value, (∀ w', (Builtin.lenOf v).run P w' = .ok new.length w') ∧ (∀ w' : World, w'.heap = C.w.heap → ∀ m, m ≤ new.length → (Builtin.firstCells sz m v).run P w' = .ok (news.take (m * sz)).toArray w') ∧
   news.length = new.length * sz ∧ (∀ x ∈ news, x.oneCell' = true) ∧ (∀ (j i : Nat) r d, new[j]? = some r → r[i]? = some d → ∃ x, news[j * sz + i]? = some x ∧ Rep C d x) ∧
   (∀ r ∈ new, ∀ d ∈ r, d.one = true) ∧ (pu = true → ∀ r ∈ new, ∀ d ∈ r, d.pt1 = true) := by
 have slice : ∀ (A : Option Addr) (k c : Nat) (news : List Value), news.length = k * sz → (A = none → k = 0) → (∀ ad, A = some ad → ∀ (j : Nat) x, news[j]? = some x → C.w.cell? (ad.add j) = some x) →
   ∀ w' : World, w'.heap = C.w.heap → ∀ m, m ≤ k → (Builtin.firstCells sz m (.slice A k c)).run P w' = .ok (news.take (m * sz)).toArray w' := by
  intro A k c news hl hA hc w' hw m hm
  have hlt : (news.take (m * sz)).length = m * sz := by
   rw [List.length_take, hl, Nat.min_eq_left (Nat.mul_le_mul_right _ hm)]
  cases A with
  | none =>
   obtain rfl := hA rfl
   obtain rfl : m = 0 := by omega
   simp [Builtin.firstCells]
  | some ad =>
   exact run_firstCells_some (P := P) w' sz m ad k c _ hlt fun j x hj => by
    rw [List.getElem?_take] at hj
    split at hj
    ·have := hc ad rfl j x hj
     simpa [World.cell?, hw] using this
    ·cases hj
 cases d with
 | list nl tg rows =>
  simp only [newsD, Option.some.injEq, Prod.mk.injEq] at hn
  obtain ⟨rfl, rfl⟩ := hn
  have hpure : ∀ r ∈ rows, ∀ d ∈ r, d.pt1 = true := by
   obtain ⟨_, _, _, _, _, _, _, _, _, q, _⟩ := rep_list h
   exact q
  have hone : ∀ r ∈ rows, ∀ d ∈ r, d.one = true := fun r hr d hd => pt1_one (hpure r hr d hd)
  rcases news_of h hsz with ⟨rfl, A', c', rfl⟩ | ⟨hne, ad, c', news, rfl, hnl, hcell, hone', hrow⟩
  ·refine ⟨[], fun w' => by simp [Builtin.lenOf], fun w' hw m hm => ?_, by simp, by simp, by simp, by simp, by simp⟩
   obtain rfl : m = 0 := by simpa using hm
   cases A' <;> simp [Builtin.firstCells, loadCells, loadCellsFrom]
  ·exact ⟨news, fun w' => by simp [Builtin.lenOf], slice (some ad) rows.length c' news hnl (by simp) (fun ad' h => by cases h; exact hcell), hnl, hone', hrow, hone, fun _ => hpure⟩
 | str s =>
  simp only [newsD, Option.some.injEq, Prod.mk.injEq] at hn
  obtain ⟨rfl, rfl⟩ := hn
  have hv := rep_str h
  subst hv
  have hcl : (s.data.toList.map fun b => Value.int IntKind.u8 b.toNat).length = s.size := by simp
  have hlen : (s.data.toList.map fun b => [D.int .u8 b.toNat]).length = s.size := by simp
  have h1 : s.size ≠ 0 → sz = 1 := fun h0 => by
   have hm : [D.int .u8 (s.data.toList.head (by intro e; apply h0; have := congrArg List.length e; simpa using this)).toNat] ∈ (s.data.toList.map fun b => [D.int .u8 b.toNat]) := List.mem_map.2 ⟨_, List.head_mem _, rfl⟩
   have := hsz _ hm
   simpa using this.symm
  refine ⟨s.data.toList.map fun b => Value.int IntKind.u8 b.toNat, fun w' => by rw [hlen]; simp [Builtin.lenOf], fun w' _ m hm => ?_, ?_, ?_, ?_, ?_, ?_⟩
  ·rw [hlen] at hm
   have : (Builtin.firstCells sz m (.string s)).run P w' = .ok (((s.data.toList.map fun b => Value.int IntKind.u8 b.toNat).take m).toArray) w' := by
    simp only [Builtin.firstCells, Sem.run_pure]
    congr 1
    apply Array.ext'
    simp [ByteArray.data_extract, List.map_take]
   rw [this]
   by_cases h0 : s.size = 0
   ·have : m = 0 := by omega
    subst this; simp
   ·rw [h1 h0, Nat.mul_one]
  ·rw [hlen, hcl]
   by_cases h0 : s.size = 0
   ·simp [h0]
   ·rw [h1 h0, Nat.mul_one]
  ·intro x hx
   simp only [List.mem_map] at hx
   obtain ⟨b, _, rfl⟩ := hx
   rfl
  ·intro j i r d hj hi'
   simp only [List.getElem?_map, Option.map_eq_some_iff] at hj
   obtain ⟨b, hb, rfl⟩ := hj
   have hi0 : i = 0 := by
    have := (List.getElem?_eq_some_iff.1 hi').1
    simp at this; omega
   subst hi0
   simp at hi'
   subst hi'
   have hs1 : sz = 1 := by
    have := hsz _ (List.mem_map.2 ⟨b, List.mem_of_getElem? hb, rfl⟩)
    simpa using this.symm
   subst hs1
   refine ⟨.int .u8 b.toNat, ?_, .pure (.int _ _)⟩
   rw [Nat.mul_one, Nat.add_zero, List.getElem?_map, hb]; rfl
  ·intro r hr d hd
   obtain ⟨b, _, rfl⟩ := List.mem_map.1 hr
   simp at hd; subst hd; rfl
  ·intro _ r hr d hd
   obtain ⟨b, _, rfl⟩ := List.mem_map.1 hr
   simp at hd; subst hd; rfl
 | own l i k n z cl =>
  simp only [newsD] at hn
  split at hn
  ·rename_i ob ho
   split at hn
   ·rename_i hc
    simp only [Option.some.injEq, Prod.mk.injEq] at hn
    obtain ⟨rfl, rfl⟩ := hn
    obtain ⟨A, cap, ob', b, rfl, q1, q2, q3, q3', q4, q5, q5', q6, q7⟩ := rep_own h
    rw [ho] at q1; cases q1
    have hO := hi.ob l ob b ho q2
    obtain ⟨olds, ol, oc, orow⟩ := own_cells hi h ho hc.1
    have hlen := winD_length (i := i) (k := k) hc.1 q3'
    have hpure : ob.pure = true → ∀ r ∈ winD i k n ob.rows, ∀ d ∈ r, d.pt1 = true := fun hp r hr d hd => hO.pure hp r (winD_mem hr) d hd
    have hone : ∀ r ∈ winD i k n ob.rows, ∀ d ∈ r, d.one = true := fun r hr d hd => by
     rcases Bool.or_eq_true _ _ |>.mp hc.2 with hp | hp
     ·exact pt1_one (hpure hp r hr d hd)
     ·exact List.all_eq_true.1 (List.all_eq_true.1 hp r hr) d hd
    have hsz' : ∀ r ∈ winD i k n ob.rows, r.length = ob.sz := fun r hr => hO.sz r (winD_mem hr)
    have hosz : k ≠ 0 → ob.sz = sz := fun hk0 => by
     have hne : winD i k n ob.rows ≠ [] := fun e => by rw [e] at hlen; simp at hlen; omega
     obtain ⟨r, rs, hr⟩ := List.exists_cons_of_ne_nil hne
     rw [← hsz' r (by rw [hr]; simp), hsz r (by rw [hr]; simp)]
    by_cases hk0 : k = 0
    ·subst hk0
     have hw : winD i 0 n ob.rows = [] := List.eq_nil_of_length_eq_zero hlen
     rw [hw]
     refine ⟨[], fun w' => by simp [Builtin.lenOf], slice A 0 cap [] (by simp) (fun _ => rfl) (by simp), by simp, by simp, by simp, by simp, by simp⟩
    ·have hs := hosz hk0
     rw [hs] at ol orow
     refine ⟨olds, fun w' => by rw [hlen]; simp [Builtin.lenOf], by rw [hlen]; exact slice A k cap olds ol q5 oc, by rw [hlen]; exact ol, cells_one hpos (by rw [hlen]; exact ol) hsz hone orow, orow, hone, hpure⟩
   ·cases hn
  ·cases hn
 | _ => simp [newsD] at hn
theorem src_ofC (hi : Inv C) {d : D} {v : Value} (h : Rep C d v) {new : List (List D)} {pu : Bool} (hn : newsC C.σ d = some (new, pu)) {sz : Nat} (hpos : 0 < sz) (hsz : ∀ r ∈ new, r.length = sz) :
  ∃ news : List Value, (∀ w', (Builtin.lenOf v).run P w' = .ok new.length w') ∧ (∀ w' : World, w'.heap = C.w.heap → ∀ m, m ≤ new.length → (Builtin.firstCells sz m v).run P w' = .ok (news.take (m * sz)).toArray w') ∧
   news.length = new.length * sz ∧ (∀ (j i : Nat) r d, new[j]? = some r → r[i]? = some d → ∃ x, news[j * sz + i]? = some x ∧ Rep C d x) ∧
   (∀ r ∈ new, ∀ d ∈ r, d.cell = true) ∧ (pu = true → ∀ r ∈ new, ∀ d ∈ r, d.pt1 = true) := by
 have same : newsD C.σ d = some (new, pu) → _ := fun hn => src_of (P := P) hi h hn hpos hsz
 cases d with
 | list nl tg rows =>
  obtain ⟨news, s1, s2, s3, s4, s5, s6, s7⟩ := same hn
  exact ⟨news, s1, s2, s3, s5, fun r hr d hd => D.one_cell (s6 r hr d hd), s7⟩
 | str s =>
  obtain ⟨news, s1, s2, s3, s4, s5, s6, s7⟩ := same hn
  exact ⟨news, s1, s2, s3, s5, fun r hr d hd => D.one_cell (s6 r hr d hd), s7⟩
 | own l i k n z cl =>
  simp only [newsC] at hn
  split at hn
  ·rename_i ob ho
   split at hn
   ·rename_i hc
    simp only [Option.some.injEq, Prod.mk.injEq] at hn
    obtain ⟨rfl, rfl⟩ := hn
    obtain ⟨A, cap, ob', b, rfl, q1, q2, q3, q3', q4, q5, q5', q6, q7⟩ := rep_own h
    rw [ho] at q1; cases q1
    have hO := hi.ob l ob b ho q2
    obtain ⟨olds, ol, oc, orow⟩ := own_cells hi h ho hc
    have hlen := winD_length (i := i) (k := k) hc q3'
    have hpure : ob.pure = true → ∀ r ∈ winD i k n ob.rows, ∀ d ∈ r, d.pt1 = true := fun hp r hr d hd => hO.pure hp r (winD_mem hr) d hd
    have hone : ∀ r ∈ winD i k n ob.rows, ∀ d ∈ r, d.cell = true := fun r hr d hd => hO.one r (winD_mem hr) d hd
    have hsz' : ∀ r ∈ winD i k n ob.rows, r.length = ob.sz := fun r hr => hO.sz r (winD_mem hr)
    have slice : ∀ w' : World, w'.heap = C.w.heap → ob.sz = sz → ∀ m, m ≤ k → (Builtin.firstCells sz m (.slice A k cap)).run P w' = .ok (olds.take (m * sz)).toArray w' := by
     intro w' hw hs m hm
     rw [hs] at ol
     have hlt : (olds.take (m * sz)).length = m * sz := by
      rw [List.length_take, ol, Nat.min_eq_left (Nat.mul_le_mul_right _ hm)]
     cases A with
     | none =>
      obtain rfl := q5 rfl
      obtain rfl : m = 0 := by omega
      simp [Builtin.firstCells]
     | some ad =>
      exact run_firstCells_some (P := P) w' sz m ad k cap _ hlt fun j x hj => by
       rw [List.getElem?_take] at hj
       split at hj
       ·have := oc ad rfl j x hj
        simpa [World.cell?, hw] using this
       ·cases hj
    by_cases hk0 : k = 0
    ·subst hk0
     have hw : winD i 0 n ob.rows = [] := List.eq_nil_of_length_eq_zero hlen
     rw [hw]
     refine ⟨[], fun w' => by simp [Builtin.lenOf], fun w' _ m hm => ?_, by simp, by simp, by simp, by simp⟩
     obtain rfl : m = 0 := by simpa using hm
     cases A <;> simp [Builtin.firstCells, loadCells, loadCellsFrom]
    ·have hs : ob.sz = sz := by
      have hne : winD i k n ob.rows ≠ [] := fun e => by rw [e] at hlen; simp at hlen; omega
      obtain ⟨r, rs, hr⟩ := List.exists_cons_of_ne_nil hne
      rw [← hsz' r (by rw [hr]; simp), hsz r (by rw [hr]; simp)]
     refine ⟨olds, fun w' => by rw [hlen]; simp [Builtin.lenOf], fun w' hw m hm => slice w' hw hs m (by omega), by rw [hlen, ol, hs], ?_, hone, hpure⟩
     rw [hs] at orow
     exact orow
   ·cases hn
  ·cases hn
 | _ => simp [newsC] at hn
end
end Go.Vi
