/-
  Vi10: the same: append. Own work, over any program.
-/
import Derived.Test.YtefpjijokdplfaaVi9
set_option linter.unusedVariables false
set_option linter.unusedSimpArgs false
namespace Go.Vi
open Go Go.RowKit

section
variable {P : Program} {o : Oper} {k : LK} {C : Ctx} {a : Act} {ρ : LO → D} {K : D → List Ob → Prop}

theorem set_same {α : Type} {l : List α} {i : Nat} {x : α} (h : l[i]? = some x) : l.set i x = l := by
  apply List.ext_getElem?
  intro q
  by_cases e : i = q
  · subst e; rw [List.getElem?_set_self (List.getElem?_eq_some_iff.1 h).1, h]
  · rw [List.getElem?_set_ne e]

/-- A new row of the old cells and the new ones. -/
theorem grow_any {t e ty : TypeId} {inf : TypeInfo} {z : Value} (w : World) (hu : P.underlying t = some (.slice e)) (hinf : P.info? e = some inf) (hz : inf.zero = some z) (hzs : z.cells.size = inf.size) (hpos : 0 < inf.size)
    (A : Option Addr) (n cap : Nat) (olds : List Value) (hA : A = none → n = 0 ∧ cap = 0) (hlo : olds.length = n * inf.size) (holds : ∀ ad, A = some ad → ∀ (j : Nat) u, olds[j]? = some u → w.cell? (ad.add j) = some u)
    (ad : Addr) (m c : Nat) (news : List Value) (hl : news.length = m * inf.size) (hnews : ∀ (j : Nat) u, news[j]? = some u → w.cell? (ad.add j) = some u) (h1 : ∀ u ∈ news, u.oneCell' = true) (hg : cap < n + m)
    (h63 : n + m ≤ 9223372036854775807) (hbytes : (n + m) * inf.bytes ≤ 140737488355328) :
    ∃ g cap' cur w', (Builtin.append_ #[t, t] ty #[.slice A n cap, .slice (some ad) m c]).run P w = .ok (.slice (some ⟨g, 0, none⟩) (n + m) cap') w' ∧ Below w.heap.size w w' ∧ w.heap.size ≤ g ∧ w'.heap[g]? = some (.cells cur e (0, 0)) ∧ n + m ≤ cap' ∧ cap' ≤ maxLen ∧
      cur.size = cap' * inf.size ∧ cur.toList.take ((n + m) * inf.size) = olds ++ news := by
  have hml : n + m ≤ maxLen := by simp only [maxLen]; omega
  have fin : (∃ v' w', (Builtin.append_ #[t, t] ty #[.slice A n cap, .slice (some ad) m c]).run P w = .ok v' w' ∧ w'.ownsRow w.heap.size e inf.size v' (n + m) (olds ++ news) ∧ w.grownBy w' none) → ∃ g cap' cur w', (Builtin.append_ #[t, t] ty #[.slice A n cap, .slice (some ad) m c]).run P w = .ok (.slice (some ⟨g, 0, none⟩) (n + m) cap') w' ∧ Below w.heap.size w w' ∧ w.heap.size ≤ g ∧ w'.heap[g]? = some (.cells cur e (0, 0)) ∧ n + m ≤ cap' ∧ cap' ≤ maxLen ∧
      cur.size = cap' * inf.size ∧ cur.toList.take ((n + m) * inf.size) = olds ++ news := by
    rintro ⟨v', w', hr, ⟨hlen, hown⟩, hgr⟩
    rcases hown with ⟨rfl, h0⟩ | ⟨g, cap', cur, rfl, hb, hg', h2, h3, h4, h5⟩
    · omega
    · exact ⟨g, cap', cur, w', hr, grown_below hgr, hb, hg', h2, h3, h4, h5⟩
  apply fin
  cases A with
  | none =>
    obtain ⟨rfl, rfl⟩ := hA rfl
    have ho : olds = [] := List.eq_nil_of_length_eq_zero (by simpa using hlo)
    subst ho
    obtain ⟨v', w', hr, h2, h3, _⟩ := run_append_own (P := P) w w.heap.size t ty e inf z inf.size inf.bytes hu hinf hz rfl rfl hzs hpos (.slice none 0 0) 0 [] (World.ownsRow_nil w _ e _) ad m c news hl hnews h1 (by omega) hbytes (Nat.le_refl _)
    exact ⟨v', w', hr, h2, h3⟩
  | some b =>
    exact run_append_arg_grows (P := P) w t ty e inf z inf.size inf.bytes hu hinf hz rfl rfl hzs hpos b n cap olds hlo (holds b rfl) ad m c news hl hnews hg hml hbytes

theorem sound_app {c : Call} {t e : TypeId} {s x : Operand} {inf : TypeInfo} {z : Value} {ls lx : LO} (ho : o.op = .call c) (hc : c.callee = .builtin .append) (hargs : c.args.toList = [s, x]) (hts : c.argTypes = #[t, t])
    (hu : P.underlying t = some (.slice e)) (hinf : P.info? e = some inf) (hz : inf.zero = some z) (hzs : z.cells.size = inf.size) (hs : loOf s = some ls) (hx : loOf x = some lx) : Sound P o (.app inf.size inf.bytes ls lx) := by
  intro C a ρ K hi hp hr h
  have rs := hr.at hp hs (mem_args ho hargs (by simp))
  have rx := hr.at hp hx (mem_args ho hargs (by simp))
  have run : ∀ r w', ((Builtin.append_ #[t, t] o.type #[a.eval s, a.eval x]).run P C.w = .ok r w') → (execOp a.eval o).run P C.w = .ok (.value r) w' := fun r w' h =>
    run_builtin (s := Builtin.append_ c.argTypes o.type) ho hc hargs (fun _ _ => rfl) (by rw [hts]; simpa using h)
  simp only [LK.run] at h
  split at h
  case h_2 => exact h.elim
  rename_i nlx tgx new hρx
  obtain ⟨hnsz, hpos, h⟩ := h
  rw [hρx] at rx
  have hnone : ∀ r ∈ new, ∀ d ∈ r, d.one = true := by
    obtain ⟨_, _, _, _, _, _, _, _, _, q, _⟩ := rep_list rx
    exact q
  have hnpure : ∀ r ∈ new, ∀ d ∈ r, d.pt1 = true := by
    obtain ⟨A, cap, sz', hv, q1, q2, q3, q4, q5, q9, q6, q7⟩ := rep_list rx
    intro r hr' d hd
    obtain ⟨j, hj⟩ := List.getElem?_of_mem hr'
    obtain ⟨i, hi'⟩ := List.getElem?_of_mem hd
    obtain ⟨_, v, _, _, hrep⟩ := q7 j i r d hj hi'
    cases hrep <;> first | rfl | (have := q9 r hr' _ hd; simp [D.one] at this)
  have hnews := news_of rx hnsz
  split at h
  · -- a slice without cells
    rename_i b hρs
    obtain ⟨hby, h63, hk⟩ := h
    rw [hρs] at rs
    obtain ⟨A, cap, szs, hv, q1, q2, q3, q4, q5, q9, q6, q7⟩ := rep_list rs
    have hcap : cap = 0 := by simpa using q4 rfl
    subst hcap
    rcases hnews with ⟨rfl, A', c', hvx⟩ | ⟨hne, ad, c', news, hvx, hnl, hcell, hone, hrow⟩
    · obtain ⟨hx', hi'⟩ := newOb hi (Below.refl _ C.w) ⟨false, b && true, true, false, inf.size, []⟩ 0 rfl hpos (by simp) (by simp) (by simp) (by simp) (by simp)
      refine .mk (C' := ⟨C.F, C.σ ++ [⟨false, b && true, true, false, inf.size, []⟩], C.bs ++ [0], C.w⟩) (v := .slice A 0 0) (run _ _ ?_) hx' hi' ?_ hk
      · rw [hv, hvx]; exact run_append_none C.w hu hinf A A' 0 0 c' (Nat.le_refl _)
      · have hl := hi.len
        exact .own C.σ.length 0 inf.size A 0 ⟨false, b && true, true, false, inf.size, []⟩ 0 (by simp) (by rw [← hl]; simp) (by simp) rfl (fun _ => rfl) (fun _ h => by cases h) (fun _ _ => ⟨rfl, rfl, by simp [q1 b rfl]⟩)
    · obtain ⟨g, cap', cur, w', hrun, hB, hgb, hgc, h2, h3, h4, h5⟩ := grow_any (ty := o.type) C.w hu hinf hz hzs hpos A 0 0 [] (fun _ => ⟨rfl, rfl⟩) (by simp) (by simp) ad new.length c' news hnl hcell hone (by have := List.length_pos_iff.2 hne; omega) (by omega) (by simpa using hby)
      have hemp : new.isEmpty = false := by simpa using hne
      simp only [Nat.zero_add] at hrun h2 h5
      have hrows := rows_append (C := C) (rows := []) (olds := []) (arr := cur) (by simp) hnsz (by simp) hnl (by simp) hrow (by simpa using h5)
      obtain ⟨hx', hi'⟩ := newOb hi hB ⟨true, false, true, false, inf.size, new⟩ g rfl hpos hnsz hnone (by simp) (fun _ => hnpure) (fun _ => ⟨hgb, cur, e, hgc, by rw [h4]; exact Nat.mul_le_mul_right _ h2, by simpa using hrows⟩)
      refine .mk (C' := ⟨C.F, C.σ ++ [⟨true, false, true, false, inf.size, new⟩], C.bs ++ [g], w'⟩) (v := .slice (some ⟨g, 0, none⟩) new.length cap') (run _ _ ?_) hx' hi' ?_ (by simpa [hemp] using hk)
      · rw [hv, hvx]; exact hrun
      · have hl := hi.len
        exact .own C.σ.length new.length inf.size _ cap' ⟨true, false, true, false, inf.size, new⟩ g (by simp) (by rw [← hl]; simp) (by simp) rfl (by simp) (fun _ _ => ⟨rfl, h2, h3, cur, e, hgc, h4⟩) (fun _ h => by cases h)
  · -- an object of the call's own
    rename_i l n zz hρs
    obtain ⟨rfl, h⟩ := h
    rw [hρs] at rs
    split at h
    case h_2 => exact h.elim
    rename_i ob hob
    obtain ⟨hn, hfz, hby, h63, hk⟩ := h
    obtain ⟨A, cap, ob', b, hv, q1, q2, q3, q4, q5, q6, q7⟩ := rep_own rs
    rw [hob] at q1; cases q1
    have hO := hi.ob l ob b hob q2
    rcases hnews with ⟨rfl, A', c', hvx⟩ | ⟨hne, ad, c', news, hvx, hnl, hcell, hone, hrow⟩
    · have hle : n ≤ cap := by
        by_cases hreal : ob.real = true
        · exact (q6 hn hreal).2.1
        · have := (q7 hn (by simpa using hreal)).1; omega
      have e1 : ({ ob with real := ob.real || !([] : List (List D)).isEmpty, nl := ob.nl && ([] : List (List D)).isEmpty, rows := ob.rows ++ [] } : Ob) = ob := by
        cases ob; simp
      rw [e1, set_same hob] at hk
      refine .mk (C' := C) (v := .slice A n cap) (run _ _ ?_) (.refl C) hi (by rw [hv] at rs; exact rs) hk
      rw [hv, hvx]; exact run_append_none C.w hu hinf A A' n cap c' hle
    · have hnpos := List.length_pos_iff.2 hne
      have hemp : new.isEmpty = false := by simpa using hne
      simp only [hemp, Bool.not_false, Bool.or_true, Bool.and_false] at hk
      have hlenr : (ob.rows ++ new).length = n + new.length := by simp [hn]
      -- the old cells
      have hold : ∃ olds : List Value, olds.length = n * inf.size ∧ (∀ ad, A = some ad → ∀ (j : Nat) u, olds[j]? = some u → C.w.cell? (ad.add j) = some u) ∧ (∀ (j i : Nat) r d, ob.rows[j]? = some r → r[i]? = some d → ∃ u, olds[j * inf.size + i]? = some u ∧ Rep C d u) ∧
          (ob.real = true → ∃ arr e', C.w.heap[b]? = some (.cells arr e' (0, 0)) ∧ olds = arr.toList.take (n * inf.size)) := by
        by_cases hreal : ob.real = true
        · obtain ⟨hA, r2, r3, arr, e', harr, hsize⟩ := q6 hn hreal
          obtain ⟨_, arr', e'', h1', h2', h3'⟩ := hO.block hreal
          rw [harr] at h1'; cases h1'
          rw [q4] at hsize h2' h3'
          refine ⟨arr.toList.take (n * inf.size), by simp; rw [hsize]; exact Nat.min_eq_left (Nat.mul_le_mul_right _ r2), fun ad' had j u hj => ?_, fun j i r d hj hi' => ?_, fun _ => ⟨arr, e', harr, rfl⟩⟩
          · rw [hA] at had; cases had
            rw [lit_add, Nat.zero_add, cell_of_row C.w b j arr e' (0, 0) harr]
            rw [List.getElem?_take] at hj
            split at hj
            · simpa using hj
            · cases hj
          · obtain ⟨v, hv', hrep⟩ := h3' j i r d hj hi'
            refine ⟨v, ?_, hrep⟩
            have hrl : r.length = inf.size := by rw [← q4]; exact hO.sz r (List.mem_of_getElem? hj)
            have hlt : j * inf.size + i < n * inf.size := mul_bound (by have := (List.getElem?_eq_some_iff.1 hj).1; omega) (by rw [← hrl]; exact (List.getElem?_eq_some_iff.1 hi').1) (Nat.le_refl _)
            rw [List.getElem?_take, if_pos hlt]; simpa using hv'
        · obtain ⟨r1, r2, r3⟩ := q7 hn (by simpa using hreal)
          subst r1
          have hr0 : ob.rows = [] := hO.rows (by simpa using hreal)
          exact ⟨[], by simp, by simp, by simp [hr0], fun h => absurd h hreal⟩
      obtain ⟨olds, hol, hoc, horow, hoarr⟩ := hold
      have hosz : ∀ r ∈ ob.rows, r.length = inf.size := fun r hr' => by rw [← q4]; exact hO.sz r hr'
      have hsz' : ∀ r, r ∈ ob.rows ++ new → r.length = ob.sz := fun r hr' => by
        rw [q4]
        rcases List.mem_append.1 hr' with h | h
        · exact hosz r h
        · exact hnsz r h
      have hone' : ∀ r, r ∈ ob.rows ++ new → ∀ d, d ∈ r → d.one = true := fun r hr' => by
        rcases List.mem_append.1 hr' with h | h
        · exact hO.one r h
        · exact hnone r h
      have hpure' : ob.pure = true → ∀ r, r ∈ ob.rows ++ new → ∀ d, d ∈ r → d.pt1 = true := fun hpu r hr' => by
        rcases List.mem_append.1 hr' with h | h
        · exact hO.pure hpu r h
        · exact hnpure r h
      by_cases hroom : ob.real = true ∧ n + new.length ≤ cap
      · -- in its own block
        obtain ⟨hreal, hroom⟩ := hroom
        obtain ⟨hA, r2, r3, arr, e', harr, hsize⟩ := q6 hn hreal
        obtain ⟨arr2, e2, harr2, hoe⟩ := hoarr hreal
        rw [harr] at harr2; cases harr2
        rw [q4] at hsize
        subst hoe
        have hfit : n * inf.size + news.length ≤ arr.size := by rw [hnl, hsize, ← Nat.add_mul]; exact Nat.mul_le_mul_right _ hroom
        have hf := run_firstCells_some (P := P) C.w inf.size new.length ad new.length c' news hnl hcell
        have hst := run_storeCells_at P b (n * inf.size) e' news 0 arr C.w harr (by simpa using hfit) hone
        simp only [Nat.add_zero] at hst
        generalize harr' : (arr.toList.take (n * inf.size) ++ news ++ arr.toList.drop (n * inf.size + news.length)).toArray = arr' at hst
        obtain ⟨f1, f2, f3, f4, f5, f6⟩ := setRow_facts C.w b arr arr' e' harr
        have hsz2 : arr'.size = arr.size := by rw [← harr']; simp; omega
        have htake : arr'.toList.take ((n + new.length) * inf.size) = arr.toList.take (n * inf.size) ++ news := by
          rw [← harr', List.take_left']
          simp [hnl, Nat.add_mul]; omega
        have hrows := rows_append (C := C) (rows := ob.rows) (olds := arr.toList.take (n * inf.size)) (arr := arr') hosz hnsz (by rw [hn]; exact hol) hnl horow hrow (by rw [hn]; exact htake)
        obtain ⟨hx', hi'⟩ := turnOb hi hob q2 { ob with real := true, nl := false, rows := ob.rows ++ new } b (w' := C.w.setRow b arr') ⟨f1, f2, f3⟩ f4 (fun k _ hkb => f5 k (hkb hreal)) hfz hfz rfl hsz' hone' (by simp) hpure' (by simp)
          (fun he => by simp at he; exact absurd he hne) (fun _ => .inl ⟨hreal, rfl⟩)
          (fun _ arr2 e2 h2 => by rw [harr] at h2; cases h2; exact ⟨arr', f6, hsz2⟩)
          (fun _ => ⟨arr', e', f6, by rw [hlenr, q4, hsz2, hsize]; exact Nat.mul_le_mul_right _ hroom, by rw [q4]; exact hrows⟩)
        refine .mk (C' := ⟨C.F, C.σ.set l { ob with real := true, nl := false, rows := ob.rows ++ new }, C.bs.set l b, C.w.setRow b arr'⟩) (v := .slice (some ⟨b, 0, none⟩) (n + new.length) cap) (run _ _ ?_) hx' hi' ?_ hk
        · rw [hv, hvx, hA]
          simp [Builtin.append_, run_underlying hu, sizeOf, typeInfo, hinf, Builtin.lenOf, hroom, hf, Addr.add_lit, hst]
        · exact .own l (n + new.length) inf.size _ cap { ob with real := true, nl := false, rows := ob.rows ++ new } b (List.getElem?_set_self (List.getElem?_eq_some_iff.1 hob).1) (List.getElem?_set_self (List.getElem?_eq_some_iff.1 q2).1)
            (by rw [hlenr]; exact Nat.le_refl _) q4 (by simp) (fun _ _ => ⟨rfl, hroom, r3, arr', e', f6, by rw [hsz2, hsize]; show _ = _ * ob.sz; rw [q4]⟩) (fun _ h => by cases h)
      · have hcap : cap < n + new.length := by
          by_cases hreal : ob.real = true
          · exact Nat.lt_of_not_le fun h => hroom ⟨hreal, h⟩
          · have := (q7 hn (by simpa using hreal)).2.1; omega
        obtain ⟨g, cap', cur, w', hrun, hB, hgb, hgc, h2, h3, h4, h5⟩ := grow_any (ty := o.type) C.w hu hinf hz hzs hpos A n cap olds (fun hA => ⟨q5 hA, by
            by_cases hreal : ob.real = true
            · have := (q6 hn hreal).1; rw [hA] at this; cases this
            · exact (q7 hn (by simpa using hreal)).2.1⟩) hol hoc ad new.length c' news hnl hcell hone hcap (by omega) hby
        have hrows := rows_append (C := C) (rows := ob.rows) (olds := olds) (arr := cur) hosz hnsz (by rw [hn]; exact hol) hnl horow hrow (by rw [hn]; exact h5)
        obtain ⟨hx', hi'⟩ := turnOb hi hob q2 { ob with real := true, nl := false, rows := ob.rows ++ new } g (w' := w') ⟨hB.os, hB.tape, hB.output⟩ hB.size (fun k hk _ => hB.block k hk) hfz hfz rfl hsz' hone' (by simp) hpure' (by simp)
          (fun he => by simp at he; exact absurd he hne) (fun _ => .inr hgb)
          (fun hreal arr e' harr => ⟨arr, by rw [hB.block b (hi.lt hob q2 hreal)]; exact harr, rfl⟩)
          (fun _ => ⟨cur, e, hgc, by rw [hlenr, q4, h4]; exact Nat.mul_le_mul_right _ h2, by rw [q4]; exact hrows⟩)
        refine .mk (C' := ⟨C.F, C.σ.set l { ob with real := true, nl := false, rows := ob.rows ++ new }, C.bs.set l g, w'⟩) (v := .slice (some ⟨g, 0, none⟩) (n + new.length) cap') (run _ _ ?_) hx' hi' ?_ hk
        · rw [hv, hvx]; exact hrun
        · exact .own l (n + new.length) inf.size _ cap' { ob with real := true, nl := false, rows := ob.rows ++ new } g (List.getElem?_set_self (List.getElem?_eq_some_iff.1 hob).1) (List.getElem?_set_self (List.getElem?_eq_some_iff.1 q2).1)
            (by rw [hlenr]; exact Nat.le_refl _) q4 (by simp) (fun _ _ => ⟨rfl, h2, h3, cur, e, hgc, by rw [h4]; show _ = _ * ob.sz; rw [q4]⟩) (fun _ h => by cases h)
  · exact h.elim

end
end Go.Vi
