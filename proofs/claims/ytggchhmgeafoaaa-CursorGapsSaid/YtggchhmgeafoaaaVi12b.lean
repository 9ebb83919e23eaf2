import Derived.Test.YtggchhmgeafoaaaVi12a
set_option linter.unusedVariables false
set_option linter.unusedSimpArgs false
set_option linter.unnecessarySimpa false
namespace Go.Vi
open Go Go.RowKit
mutual
def D.ren (φ : Nat → Nat) : D → D
 | .ptr l j i n => .ptr (φ l) j i n
 | .own l i k n z cl => .own (φ l) i k n z cl
 | .agg cs => .agg (D.renL φ cs)
 | .tup cs => .tup (D.renL φ cs)
 | .fn f cs => .fn f (D.renL φ cs)
 | d => d
def D.renL (φ : Nat → Nat) : List D → List D
 | [] => []
 | d :: ds => D.ren φ d :: D.renL φ ds
end
theorem renL_map {φ : Nat → Nat} : ∀ {ds : List D}, D.renL φ ds = ds.map (D.ren φ)
 | [] => by simp [D.renL]
 | d :: ds => by simp [D.renL, renL_map]
theorem PRep.renF {G : Nat → Prop} {w : World} {d : D} {v : Value} (φ : Nat → Nat) (h : PRep G w d v) : PRep G w (d.ren φ) v := by
 induction h with
 | list nl tg rows A cap sz vf h1 h2 h3 h4 h5 h9 h6 h7 h8 ih => exact .list nl tg rows A cap sz vf h1 h2 h3 h4 h5 h9 h6 h7 h8
 | agg cs vs h h' ih =>
  simp only [D.ren, renL_map]
  refine .agg _ vs (by simpa using h) fun i d v hi hv => ?_
  simp only [List.getElem?_map, Option.map_eq_some_iff] at hi
  obtain ⟨d', hd', rfl⟩ := hi
  exact ih i d' v hd' hv
 | tup cs vs h h' ih =>
  simp only [D.ren, renL_map]
  refine .tup _ vs (by simpa using h) fun i d v hi hv => ?_
  simp only [List.getElem?_map, Option.map_eq_some_iff] at hi
  obtain ⟨d', hd', rfl⟩ := hi
  exact ih i d' v hd' hv
 | fn f cs vs h h' ih =>
  simp only [D.ren, renL_map]
  refine .fn f _ vs (by simpa using h) fun i d v hi hv => ?_
  simp only [List.getElem?_map, Option.map_eq_some_iff] at hi
  obtain ⟨d', hd', rfl⟩ := hi
  exact ih i d' v hd' hv
 | elt row i ad vf hg h7 h8 ih => exact .elt row i ad vf hg h7 h8
 | bool b => exact .bool b
 | int k n => exact .int k n
 | str s => exact .str s
 | nilp => exact .nilp
 | nilfn => exact .nilfn
theorem ren_pt0 {φ : Nat → Nat} {d : D} (h : d.pt0 = true) : d.ren φ = d := by
 cases d <;> simp_all [D.ren, D.pt0, D.renL]
theorem ren_pt1 {φ : Nat → Nat} {d : D} (h : d.pt1 = true) : d.ren φ = d := by
 cases d with
 | fn f caps =>
  simp only [D.pt1, List.all_eq_true] at h
  simp only [D.ren, renL_map, D.fn.injEq, true_and]
  exact List.map_id'' (fun d hd => ren_pt0 (h d hd)) |>.trans rfl
 | bool | int | str | nilp | nilfn | list | elt => rfl
 | _ => simp [D.pt1] at h
where
 List.map_id'' {f : D → D} : ∀ {l : List D}, (∀ d ∈ l, f d = d) → l.map f = l
 | [], _ => rfl
 | d :: l, h => by simp only [List.map_cons, h d (by simp), List.map_id'' (l := l) fun d hd => h d (by simp [hd])]
theorem ren_cell {φ : Nat → Nat} {d : D} (h : d.cell = true) : (d.ren φ).cell = true := by
 cases d <;> simp_all [D.ren, D.cell]
def fr (q : List Nat) (n l : Nat) : Nat := if l < q.length then q.getD l 0 else n + (l - q.length)
def mset {α : Type} : List α → List Nat → List α → List α
 | σ, l :: q, o :: os => mset (σ.set l o) q os
 | σ, _, _ => σ
theorem mset_length {α : Type} : ∀ {q : List Nat} {os σ : List α}, (mset σ q os).length = σ.length
 | [], os, σ => by simp [mset]
 | l :: q, [], σ => by simp [mset]
 | l :: q, o :: os, σ => by simp [mset, mset_length (q := q) (os := os)]
theorem mset_other {α : Type} : ∀ {q : List Nat} {os σ : List α} {l : Nat}, l ∉ q → (mset σ q os)[l]? = σ[l]?
 | [], os, σ, l, h => by simp [mset]
 | x :: q, [], σ, l, h => by simp [mset]
 | x :: q, o :: os, σ, l, h => by
  simp only [List.mem_cons, not_or] at h
  simp only [mset]
  rw [mset_other h.2, List.getElem?_set_ne (fun e => h.1 e.symm)]
theorem mset_at {α : Type} : ∀ {q : List Nat} {os σ : List α} {m l : Nat}, q.Nodup → q[m]? = some l → l < σ.length → q.length ≤ os.length → (mset σ q os)[l]? = os[m]?
 | [], os, σ, m, l, _, h, _, _ => by simp at h
 | x :: q, [], σ, m, l, _, _, _, hl => by simp at hl
 | x :: q, o :: os, σ, m, l, hnd, h, hlt, hl => by
  simp only [mset]
  have hnd' := List.nodup_cons.1 hnd
  cases m with
  | zero =>
   simp at h; subst h
   rw [mset_other hnd'.1]; simp [hlt]
  | succ m =>
   simp at h
   rw [mset_at hnd'.2 h (by simpa using hlt) (by simpa using hl)]; simp
def renOb (φ : Nat → Nat) (o : Ob) : Ob := if o.pure = true then o else { o with rows := o.rows.map (D.renL φ) }
def merge (q : List Nat) (σ σ1 : List Ob) : List Ob := mset σ q (σ1.map (renOb (fr q σ.length))) ++ (σ1.drop q.length).map (renOb (fr q σ.length))
theorem renOb_fields {φ : Nat → Nat} {o : Ob} : (renOb φ o).real = o.real ∧ (renOb φ o).nl = o.nl ∧ (renOb φ o).pure = o.pure ∧ (renOb φ o).fz = o.fz ∧ (renOb φ o).sz = o.sz ∧ (renOb φ o).spare = o.spare ∧ (renOb φ o).rows.length = o.rows.length := by
 unfold renOb; split <;> simp
theorem renOb_get {φ : Nat → Nat} {o : Ob} (hp : o.pure = true → ∀ r ∈ o.rows, ∀ d ∈ r, d.pt1 = true) {j : Nat} {r' : List D} (h : (renOb φ o).rows[j]? = some r') : ∃ r, o.rows[j]? = some r ∧ r' = D.renL φ r := by
 unfold renOb at h; split at h
 ·rename_i hpu
  refine ⟨r', h, ?_⟩
  rw [renL_map]
  exact (ren_pt1.List.map_id'' fun d hd => ren_pt1 (hp hpu r' (List.mem_of_getElem? h) d hd)).symm
 ·simp only [List.getElem?_map, Option.map_eq_some_iff] at h
  obtain ⟨r, hr, rfl⟩ := h
  exact ⟨r, hr, rfl⟩
theorem CallD.frame {P : Program} {f : FuncId} {q : List Nat} {ds ds0 : List D} {σ σ0 : List Ob} {Q Q0 : D → List Ob → Prop} (hnd : q.Nodup) (hσ0 : pullσ false q σ q = some σ0) (hds : mapO (pull false q σ) ds = some ds0)
  (h : CallD P f ds0 σ0 Q0) (hQ : ∀ d σ1, Q0 d σ1 → Q (d.ren (fr q σ.length)) (merge q σ σ1)) : CallD P f ds σ Q := by
 refine ⟨h.enters, fun C vs hσ hi hrow => ?_⟩
 subst hσ
 have hk : KeptOK C false q σ0 := kept_ok hi hnd hσ0 (.refl _)
 have hi0 := kept_inv hi hk
 obtain ⟨hdl, hds'⟩ := mapO_spec hds
 have hrow0 : RowRep (C.kept false q σ0) ds0 vs := by
  refine ⟨by rw [← hdl, hrow.1], fun i d' v h1 h2 => ?_⟩
  have hlt : i < ds.length := by rw [hdl]; exact (List.getElem?_eq_some_iff.1 h1).1
  have hc := List.getElem?_eq_getElem hlt
  exact pull_rep hi hk (hrow.2 i _ v hc h2) (hds' i _ d' hc h1)
 refine (h.calls (C.kept false q σ0) vs rfl hi0 hrow0).mono ?_
 rintro e w' ⟨v, C1, d, rfl, rfl, hx, hi1, hrep, hq⟩
 let φ := fr q C.σ.length
 have hlen : q.length ≤ C1.σ.length := by
  rcases Nat.eq_zero_or_pos q.length with h0 | h0
  ·omega
  ·have ho := List.getElem?_eq_getElem (l := σ0) (i := q.length - 1) (by rw [← hk.len]; omega)
   have hqq := List.getElem?_eq_getElem (l := q) (i := q.length - 1) (by omega)
   obtain ⟨o, w, b, h1, h2, h3, h4⟩ := hk.ob _ _ hqq
   obtain ⟨o', b', k1, _⟩ := hx.ob (q.length - 1) w b h2 (by simp [Ctx.kept, hqq, h3])
   have := (List.getElem?_eq_some_iff.1 k1).1
   omega
 have hlen' : q.length ≤ C1.bs.length := by rw [hi1.len]; exact hlen
 let σ2 := merge q C.σ C1.σ
 let bs2 := mset C.bs q C1.bs ++ C1.bs.drop q.length
 have hms : (mset C.σ q (C1.σ.map (renOb φ))).length = C.σ.length := mset_length
 have hmb : (mset C.bs q C1.bs).length = C.σ.length := by rw [mset_length, hi.len]
 have atn : ∀ l o b, C1.σ[l]? = some o → C1.bs[l]? = some b → σ2[φ l]? = some (renOb φ o) ∧ bs2[φ l]? = some b := by
  intro l o b ho hb
  show (merge q C.σ C1.σ)[φ l]? = _ ∧ (mset C.bs q C1.bs ++ C1.bs.drop q.length)[φ l]? = _
  unfold merge
  by_cases hl : l < q.length
  ·have hqq := List.getElem?_eq_getElem (l := q) (i := l) hl
   have hφ : φ l = q[l] := by simp only [φ, fr, if_pos hl, List.getD_eq_getElem?_getD, hqq, Option.getD_some]
   obtain ⟨o', w, b', h1, h2, h3, h4⟩ := hk.ob _ _ hqq
   have hlt := (List.getElem?_eq_some_iff.1 h1).1
   rw [hφ]
   refine ⟨?_, ?_⟩
   ·rw [List.getElem?_append_left (by rw [mset_length]; exact hlt), mset_at hnd hqq hlt (by simpa using hlen)]
    simp only [List.getElem?_map, ho, Option.map_some]; rfl
   ·rw [List.getElem?_append_left (by rw [mset_length, hi.len]; exact hlt), mset_at hnd hqq (by rw [hi.len]; exact hlt) hlen']
    exact hb
  ·have hφ : φ l = C.σ.length + (l - q.length) := by simp only [φ, fr, if_neg hl]
   rw [hφ]
   refine ⟨?_, ?_⟩
   ·rw [List.getElem?_append_right (by rw [mset_length]; omega), mset_length, Nat.add_sub_cancel_left]
    simp only [List.getElem?_map, List.getElem?_drop, show q.length + (l - q.length) = l by omega, ho, Option.map_some]; rfl
   ·rw [List.getElem?_append_right (by rw [mset_length, hi.len]; omega), mset_length, hi.len, Nat.add_sub_cancel_left]
    simp only [List.getElem?_drop, show q.length + (l - q.length) = l by omega, hb]
 have ato : ∀ l, l ∉ q → l < C.σ.length → σ2[l]? = C.σ[l]? ∧ bs2[l]? = C.bs[l]? := by
  intro l hl hlt
  show (merge q C.σ C1.σ)[l]? = _ ∧ (mset C.bs q C1.bs ++ C1.bs.drop q.length)[l]? = _
  unfold merge
  rw [List.getElem?_append_left (by rw [mset_length]; exact hlt), mset_other hl, List.getElem?_append_left (by rw [mset_length, hi.len]; exact hlt), mset_other hl]
  exact ⟨rfl, rfl⟩
 have parts : ∀ m o b, σ2[m]? = some o → bs2[m]? = some b → (m ∉ q ∧ C.σ[m]? = some o ∧ C.bs[m]? = some b) ∨ ∃ l o1, φ l = m ∧ C1.σ[l]? = some o1 ∧ C1.bs[l]? = some b ∧ o = renOb φ o1 := by
  intro m o b ho hb
  have fin : ∀ l, φ l = m → l < C1.σ.length → ∃ l o1, φ l = m ∧ C1.σ[l]? = some o1 ∧ C1.bs[l]? = some b ∧ o = renOb φ o1 := by
   intro l hφ hlt
   have h1 := List.getElem?_eq_getElem hlt
   have h2 := List.getElem?_eq_getElem (l := C1.bs) (i := l) (by rw [hi1.len]; exact hlt)
   obtain ⟨k1, k2⟩ := atn l _ _ h1 h2
   rw [hφ] at k1 k2
   rw [ho] at k1; rw [hb] at k2
   cases k1; cases k2
   exact ⟨l, _, hφ, h1, h2, rfl⟩
  by_cases hm : m < C.σ.length
  ·by_cases hq' : m ∈ q
   ·obtain ⟨l, hl⟩ := List.getElem?_of_mem hq'
    have hll := (List.getElem?_eq_some_iff.1 hl).1
    refine .inr (fin l ?_ (by omega))
    simp only [φ, fr, if_pos hll, List.getD_eq_getElem?_getD, hl, Option.getD_some]
   ·obtain ⟨k1, k2⟩ := ato m hq' hm
    exact .inl ⟨hq', by rw [← k1]; exact ho, by rw [← k2]; exact hb⟩
  ·have hlt := (List.getElem?_eq_some_iff.1 ho).1
   have hlen2 : σ2.length = C.σ.length + (C1.σ.length - q.length) := by
    show (merge q C.σ C1.σ).length = _
    unfold merge
    simp [mset_length]
   refine .inr (fin (q.length + (m - C.σ.length)) ?_ (by omega))
   simp only [φ, fr]
   rw [if_neg (by omega)]; omega
 have hown2 : ∀ b, Ctx.owned ⟨C.F, σ2, bs2, C1.w⟩ b → C1.owned b ∨ hide C false q b := by
  rintro b ⟨m, o, h1, h2, h3, h4⟩
  rcases parts m o b h1 h4 with ⟨k1, k2, k3⟩ | ⟨l, o1, _, k2, k3, rfl⟩
  ·exact .inr ⟨rfl, m, o, k1, k2, h2, h3, k3⟩
  ·exact .inl ⟨l, o1, k2, by rw [← renOb_fields.1]; exact h2, by rw [← renOb_fields.2.2.2.1]; exact h3, k3⟩
 have hF1 : C1.F = (C.kept false q σ0).F := hx.F
 have hgood : ∀ b, C1.good b → Ctx.good ⟨C.F, σ2, bs2, C1.w⟩ b := by
  rintro b ⟨g1, g2, g3⟩
  rw [hF1] at g2
  refine ⟨g1, fun hF => g2 (.inl hF), fun ho => ?_⟩
  rcases hown2 b ho with ho | ho
  ·exact g3 ho
  ·exact g2 (.inr ho)
 have hren : ∀ {e : D} {v : Value}, Rep C1 e v → Rep ⟨C.F, σ2, bs2, C1.w⟩ (e.ren φ) v := by
  intro e v h
  induction h with
  | pure h => exact .pure ((h.renF φ).mono hgood fun _ _ => rfl)
  | undef v => exact .undef v
  | ptr l j i n o b ad ho hb hle hv =>
   obtain ⟨k1, k2⟩ := atn l o b ho hb
   obtain ⟨f1, f2, f3, f4, f5, f6, f7⟩ := renOb_fields (φ := φ) (o := o)
   exact .ptr (φ l) j i n (renOb φ o) b ad k1 k2 (by rw [f7]; exact hle) (by rw [f1, f5, f7]; exact hv)
  | own l i k n sz cl A cap o b ho hb hle hik hsz hA hkc hr hn =>
   obtain ⟨k1, k2⟩ := atn l o b ho hb
   obtain ⟨f1, f2, f3, f4, f5, f6, f7⟩ := renOb_fields (φ := φ) (o := o)
   exact .own (φ l) i k n sz cl A cap (renOb φ o) b k1 k2 (by rw [f7]; exact hle) hik (f5.trans hsz) hA hkc (by rw [f1, f5, f7]; exact hr) (by rw [f1, f2, f7]; exact hn)
  | agg cs vs h h' ih =>
   simp only [D.ren, renL_map]
   refine .agg _ vs (by simpa using h) fun i d v hi hv => ?_
   simp only [List.getElem?_map, Option.map_eq_some_iff] at hi
   obtain ⟨d', hd', rfl⟩ := hi
   exact ih i d' v hd' hv
  | tup cs vs h h' ih =>
   simp only [D.ren, renL_map]
   refine .tup _ vs (by simpa using h) fun i d v hi hv => ?_
   simp only [List.getElem?_map, Option.map_eq_some_iff] at hi
   obtain ⟨d', hd', rfl⟩ := hi
   exact ih i d' v hd' hv
  | fn f cs vs h h' ih =>
   simp only [D.ren, renL_map]
   refine .fn f _ vs (by simpa using h) fun i d v hi hv => ?_
   simp only [List.getElem?_map, Option.map_eq_some_iff] at hi
   obtain ⟨d', hd', rfl⟩ := hi
   exact ih i d' v hd' hv
 have hhid : ∀ b, hide C false q b → C1.w.heap[b]? = C.w.heap[b]? ∧ ¬ C1.owned b := by
  rintro b ⟨_, l, o, h1, h2, h3, h4, h5⟩
  have hno : ¬ (C.kept false q σ0).owned b := fun ho => by
   obtain ⟨l', o', k1, k2, k3, k4, k5⟩ := kept_owned hk ho
   have := hi.dis l l' o o' b h2 k2 h3 k3 h4 k4 h5 k5
   subst this
   exact h1 k1
  exact hx.blk b (hi.lt h2 h5 h3) hno
 have hext : Ext C ⟨C.F, σ2, bs2, C1.w⟩ := by
  refine ⟨rfl, hx.os, hx.tape, hx.output, hx.size, fun b hlt hno => ?_, fun l o b ho hb => ?_⟩
  ·obtain ⟨k1, k2⟩ := hx.blk b hlt fun h => hno (kept_owned' hk h)
   refine ⟨k1, fun ho => ?_⟩
   rcases hown2 b ho with ho | ⟨_, l, o, _, h1, h2, h3, h4⟩
   ·exact k2 ho
   ·exact hno ⟨l, o, h1, h2, h3, h4⟩
  ·by_cases hl : l ∈ q
   ·obtain ⟨m, hm⟩ := List.getElem?_of_mem hl
    obtain ⟨o', w, b', h1, h2, h3, r1, r2, r3, r4, r5, r6, r7, r8⟩ := hk.ob m l hm
    rw [ho] at h1; cases h1
    rw [hb] at h3; cases h3
    obtain ⟨o1, b1, k1, k2, k3, k4, k5⟩ := hx.ob m w b h2 (by simp [Ctx.kept, hm, hb])
    obtain ⟨a1, a2⟩ := atn m o1 b1 k1 k2
    have hφ : φ m = l := by
     have hll := (List.getElem?_eq_some_iff.1 hm).1
     simp only [φ, fr, if_pos hll, List.getD_eq_getElem?_getD, hm, Option.getD_some]
    rw [hφ] at a1 a2
    obtain ⟨f1, f2, f3, f4, f5, f6, f7⟩ := renOb_fields (φ := φ) (o := o1)
    refine ⟨_, b1, a1, a2, by rw [f5, k3, r4], by rw [f7, ← r7]; exact k4, fun he => ?_⟩
    rw [f7, ← r7] at he
    obtain ⟨e1, e2, e3, e4⟩ := k5 he
    exact ⟨e1, by rw [f1, e2, r1], by rw [f2, e3, r2], fun hr arr e harr => e4 (by rw [r1]; exact hr) arr e harr⟩
   ·obtain ⟨k1, k2⟩ := ato l hl (List.getElem?_eq_some_iff.1 ho).1
    refine ⟨o, b, by rw [← ho]; exact k1, by rw [← hb]; exact k2, rfl, Nat.le_refl _, fun _ => ⟨rfl, rfl, rfl, fun hr arr e harr => ⟨arr, ?_, rfl⟩⟩⟩
    by_cases hf : o.fz = true
    ·have hno := (hi.ob l o b ho hb).frozen hr hf
     rw [(hx.blk b (hi.lt ho hb hr) fun h => hno (kept_owned' hk h)).1]; exact harr
    ·rw [(hhid b ⟨rfl, l, o, hl, ho, hr, by simpa using hf, hb⟩).1]; exact harr
 refine ⟨v, ⟨C.F, σ2, bs2, C1.w⟩, d.ren φ, rfl, rfl, hext, ⟨fun b hb => Nat.lt_of_lt_of_le (hi.F b hb) hx.size, ?_, fun m o b ho hb => ?_, fun m m' o o' b ho ho' hr hr' hf hf' hb hb' => ?_⟩, hren hrep, hQ d C1.σ hq⟩
 ·show (mset C.bs q C1.bs ++ C1.bs.drop q.length).length = (merge q C.σ C1.σ).length
  unfold merge
  simp [mset_length, hi.len, hi1.len]
 ·rcases parts m o b ho hb with ⟨k1, k2, k3⟩ | ⟨l, o1, hφ, k2, k3, rfl⟩
  ·have k := hi.ob m o b k2 k3
   have heap : o.real = true → C1.w.heap[b]? = C.w.heap[b]? := fun hr => by
    by_cases hf : o.fz = true
    ·exact (hx.blk b (hi.lt k2 k3 hr) fun h => k.frozen hr hf (kept_owned' hk h)).1
    ·exact (hhid b ⟨rfl, m, o, k1, k2, hr, by simpa using hf, k3⟩).1
   refine ⟨k.rows, k.sz, k.pos, k.one, fun hr => ?_, k.pure, fun hr hf h => ?_⟩
   ·obtain ⟨hF, arr, e, qq, a1, a2, a3, a4, a5, a6⟩ := k.block hr
    refine ⟨hF, arr, e, qq, by show C1.w.heap[b]? = _; rw [heap hr]; exact a1, a2, a3, a4, a5, fun j i r d hj hi' => ?_⟩
    obtain ⟨v, hv, hrep⟩ := a6 j i r d hj hi'
    exact ⟨v, hv, hrep.ext hext⟩
   ·have hno := k.frozen hr hf
    exact (hext.blk b (hi.lt k2 k3 hr) hno).2 h
  ·have k := hi1.ob l o1 b k2 k3
   obtain ⟨f1, f2, f3, f4, f5, f6, f7⟩ := renOb_fields (φ := φ) (o := o1)
   have get := fun j r' (h : (renOb φ o1).rows[j]? = some r') => renOb_get k.pure h
   refine ⟨fun h => ?_, fun r hr => ?_, by rw [f5]; exact k.pos, fun r hr d hd => ?_, fun hr => ?_, fun hp r hr d hd => ?_, fun hr hf h => ?_⟩
   ·have := k.rows (by rw [← f1]; exact h)
    rw [this] at f7
    exact List.eq_nil_of_length_eq_zero (by simpa using f7)
   ·obtain ⟨j, hj⟩ := List.getElem?_of_mem hr
    obtain ⟨r0, h0, rfl⟩ := get j r hj
    rw [renL_map, List.length_map, f5]; exact k.sz r0 (List.mem_of_getElem? h0)
   ·obtain ⟨j, hj⟩ := List.getElem?_of_mem hr
    obtain ⟨r0, h0, rfl⟩ := get j r hj
    rw [renL_map] at hd
    obtain ⟨d0, hd0, rfl⟩ := List.mem_map.1 hd
    exact ren_cell (k.one r0 (List.mem_of_getElem? h0) d0 hd0)
   ·rw [f1] at hr
    obtain ⟨hF, arr, e, qq, a1, a2, a3, a4, a5, a6⟩ := k.block hr
    rw [hF1] at hF
    refine ⟨fun h => hF (.inl h), arr, e, qq, a1, by rw [f5]; exact a2, by rw [f7]; exact a3, a4, fun c hc => by rw [f7]; exact a5 c (by rw [← f6]; exact hc), fun j i r d hj hi' => ?_⟩
    obtain ⟨r0, h0, rfl⟩ := get j r hj
    rw [renL_map, List.getElem?_map, Option.map_eq_some_iff] at hi'
    obtain ⟨d0, hd0, rfl⟩ := hi'
    obtain ⟨v, hv, hrep⟩ := a6 j i r0 d0 h0 hd0
    rw [f5]
    exact ⟨v, hv, hren hrep⟩
   ·obtain ⟨j, hj⟩ := List.getElem?_of_mem hr
    obtain ⟨r0, h0, rfl⟩ := get j r hj
    rw [renL_map] at hd
    obtain ⟨d0, hd0, rfl⟩ := List.mem_map.1 hd
    have := k.pure (by rw [← f3]; exact hp) r0 (List.mem_of_getElem? h0) d0 hd0
    rw [ren_pt1 this]; exact this
   ·rw [f1] at hr; rw [f4] at hf
    have hno := k.frozen hr hf
    rcases hown2 b h with h | h
    ·exact hno h
    ·have hF := (k.blk hr).1
     rw [hF1] at hF
     exact hF (.inr h)
 ·rcases parts m o b ho hb with ⟨k1, k2, k3⟩ | ⟨l, o1, hφ, k2, k3, rfl⟩ <;> rcases parts m' o' b ho' hb' with ⟨k1', k2', k3'⟩ | ⟨l', o1', hφ', k2', k3', rfl⟩
  ·exact hi.dis m m' o o' b k2 k2' hr hr' hf hf' k3 k3'
  ·have h := (hhid b ⟨rfl, m, o, k1, k2, hr, hf, k3⟩).2
   exact absurd ⟨l', o1', k2', by rw [← renOb_fields.1]; exact hr', by rw [← renOb_fields.2.2.2.1]; exact hf', k3'⟩ h
  ·have h := (hhid b ⟨rfl, m', o', k1', k2', hr', hf', k3'⟩).2
   exact absurd ⟨l, o1, k2, by rw [← renOb_fields.1]; exact hr, by rw [← renOb_fields.2.2.2.1]; exact hf, k3⟩ h
  ·have := hi1.dis l l' o1 o1' b k2 k2' (by rw [← renOb_fields.1]; exact hr) (by rw [← renOb_fields.1]; exact hr') (by rw [← renOb_fields.2.2.2.1]; exact hf) (by rw [← renOb_fields.2.2.2.1]; exact hf') k3 k3'
   subst this
   exact hφ.symm.trans hφ'
end Go.Vi
