/-
  Vi7: the same: slice expressions, structs, slice literals, new variables, stores, append. Own work, over any program.
-/
import Derived.Test.YtefpjijokdplfaaVi6
import Derived.ArgAppend
set_option linter.unusedVariables false
set_option linter.unusedSimpArgs false
namespace Go.Vi
open Go Go.RowKit

section
variable {P : Program} {o : Oper} {k : LK} {C : Ctx} {a : Act} {ρ : LO → D} {K : D → List Ob → Prop}

/-- Optional operands. -/
def loOpt : Option Operand → Option (Option LO)
  | none => some none
  | some x => (loOf x).map some

theorem bnd_read (hr : Reads C ρ a o) (hp : Plain ρ) {x : Option Operand} {l : Option LO} (hl : loOpt x = some l) (hm : ∀ y, x = some y → y ∈ o.op.operands) {z : Nat} {K : Int → Prop} (h : bnd (l.map ρ) z K) :
    ∃ n : Int, K n ∧ ((x.map a.eval = none ∧ n = z) ∨ ∃ k, x.map a.eval = some (.int k n)) := by
  cases x with
  | none =>
    simp [loOpt] at hl; subst hl
    exact ⟨z, h, .inl ⟨rfl, rfl⟩⟩
  | some y =>
    simp only [loOpt, Option.map_eq_some_iff] at hl
    obtain ⟨l', hl', rfl⟩ := hl
    have ry := hr.at hp hl' (hm y rfl)
    simp only [Option.map_some, bnd] at h
    split at h
    · rename_i hx; cases hx
    · rename_i k n hx
      simp only [Option.some.injEq] at hx
      rw [hx] at ry
      exact ⟨n, h, .inr ⟨k, by simp [rep_int ry]⟩⟩
    · exact h.elim

theorem run_bounds {w : World} (isS : Bool) (len cap : Nat) {lo hi : Option Value} {l h : Int} (hlo : (lo = none ∧ l = (0 : Nat)) ∨ ∃ k, lo = some (.int k l)) (hhi : (hi = none ∧ h = len) ∨ ∃ k, hi = some (.int k h)) (h0 : 0 ≤ l) (h1 : l ≤ h) (h2 : h ≤ len) (h3 : len ≤ cap) :
    (Instr.sliceBounds isS len cap lo hi none).run P w = .ok (l.toNat, h.toNat, cap) w := by
  have eh : (h.toNat : Int) = h := Int.toNat_of_nonneg (by omega)
  rcases hlo with ⟨rfl, rfl⟩ | ⟨k, rfl⟩ <;> rcases hhi with ⟨rfl, rfl⟩ | ⟨k', rfl⟩
  · simp [Instr.sliceBounds]
  · simp only [Instr.sliceBounds, Sem.run_bind, Sem.run_pure, Result.andThen_ok, run_sliceBound w k' h cap _ (by omega) (by omega)]
    simp
  · simp only [Instr.sliceBounds, Sem.run_bind, Sem.run_pure, Result.andThen_ok, run_sliceBound w k l len _ (by omega) (by omega)]
    simp
  · simp only [Instr.sliceBounds, Sem.run_bind, Sem.run_pure, Result.andThen_ok, run_sliceBound w k' h cap _ (by omega) (by omega), run_sliceBound w k l h.toNat _ (by omega) (by omega)]

theorem sound_slice_str {t : TypeId} {x : Operand} {lo hi : Option Operand} {lx : LO} {llo lhi : Option LO} {sz : Nat} (ho : o.op = .slice t x lo hi none) (hu : P.underlying t = some .string) (hx : loOf x = some lx) (hlo : loOpt lo = some llo) (hhi : loOpt hi = some lhi) :
    Sound P o (.slice true sz lx llo lhi) := by
  intro C a ρ K hi' hp hr h
  have rx := hr.at hp hx (by simp [ho, Op.operands])
  simp only [LK.run] at h
  split at h
  · rename_i s hρ
    rw [hρ] at rx
    obtain ⟨_, h⟩ := h
    obtain ⟨l, h, hl⟩ := bnd_read hr hp hlo (fun y hy => by subst hy; simp [ho, Op.operands]) h
    obtain ⟨m, h, hm⟩ := bnd_read hr hp hhi (fun y hy => by subst hy; simp [ho, Op.operands]) h
    obtain ⟨h0, h1, h2, hk⟩ := h
    refine .here (v := .string (s.extract l.toNat m.toNat)) hi' ?_ (.pure (.str _)) hk
    have hb := run_bounds (P := P) (w := C.w) false s.size s.size hl hm h0 h1 h2 (Nat.le_refl _)
    simp only [execOp, ho, rep_str rx, Instr.sliceAt, Instr.slice, Sem.run_bind, run_underlying hu, Result.andThen_ok, Option.map_none]
    simp [hb]
  · exact absurd h.1 (by simp)
  · exact h.elim

theorem sound_slice {t e : TypeId} {x : Operand} {lo hi : Option Operand} {inf : TypeInfo} {lx : LO} {llo lhi : Option LO} (ho : o.op = .slice t x lo hi none) (hu : P.underlying t = some (.slice e)) (hinf : P.info? e = some inf) (hx : loOf x = some lx)
    (hlo : loOpt lo = some llo) (hhi : loOpt hi = some lhi) : Sound P o (.slice false inf.size lx llo lhi) := by
  intro C a ρ K hi' hp hr h
  have rx := hr.at hp hx (by simp [ho, Op.operands])
  simp only [LK.run] at h
  split at h
  · exact absurd h.1 (by simp)
  · rename_i nl tg rows hρ
    rw [hρ] at rx
    obtain ⟨_, hpos, hrows, h⟩ := h
    obtain ⟨A, cap, sz, hv, q1, q2, q3, q4, q5, q9, q6, q7⟩ := rep_list rx
    obtain ⟨l, h, hl⟩ := bnd_read hr hp hlo (fun y hy => by subst hy; simp [ho, Op.operands]) h
    obtain ⟨m, h, hm⟩ := bnd_read hr hp hhi (fun y hy => by subst hy; simp [ho, Op.operands]) h
    obtain ⟨h0, h1, h2, hk⟩ := h
    have hlen : ((rows.take m.toNat).drop l.toNat).length = m.toNat - l.toNat := by simp; omega
    have run : (execOp a.eval o).run P C.w = .ok (.value (.slice (if cap = l.toNat then A else A.map (·.add (l.toNat * inf.size))) (m.toNat - l.toNat) (cap - l.toNat))) C.w := by
      simp only [execOp, ho, hv, Instr.sliceAt, Instr.slice, Sem.run_bind, run_underlying hu, Result.andThen_ok, Option.map_none, run_bounds (P := P) true rows.length cap hl hm h0 h1 (by omega) q3, run_sizeOf' hinf, Sem.run_pure]
    rw [← hlen] at run
    refine .here hi' run (.pure (.list nl false _ _ _ inf.size (fun j i => match (if cap = l.toNat then A else A.map (·.add (l.toNat * inf.size))) with | some ad => (C.w.cell? (ad.add (j * inf.size + i))).getD undef | none => undef)
      (fun b hb => ?_) (fun hA => ?_) (by rw [hlen]; omega) (by simp) (fun r hr => hrows r (List.mem_of_mem_take (List.mem_of_mem_drop hr))) (fun r hr => q9 r (List.mem_of_mem_take (List.mem_of_mem_drop hr))) (fun ad had hne => ?_) (fun j i r d hj hi => ?_) (fun j i r d hj hi => ?_))) hk
    · rw [q1 b hb]; split <;> simp
    · have : A = none := by split at hA <;> simpa using hA
      have := q2 this; omega
    all_goals
      have hc : ¬ cap = l.toNat ∧ rows ≠ [] := by
        first
        | (have := List.length_pos_iff.2 hne; exact ⟨by omega, by rintro rfl; simp at hne⟩)
        | (have := (List.getElem?_eq_some_iff.1 hj).1; exact ⟨by omega, by rintro rfl; simp at hj⟩)
    · rw [if_neg hc.1] at had
      simp only [Option.map_eq_some_iff] at had
      obtain ⟨ad', ha, rfl⟩ := had
      rw [add_block]; exact q6 ad' ha hc.2
    all_goals
      have hj' : rows[l.toNat + j]? = some r := by
        rw [List.getElem?_drop, List.getElem?_take] at hj
        split at hj
        · exact hj
        · cases hj
      have hsz : sz = inf.size := by rw [← q5 r (List.mem_of_getElem? hj'), hrows r (List.mem_of_getElem? hj')]
      subst hsz
      obtain ⟨ad, v, ha, hcell, hrep⟩ := q7 _ i r d hj' hi
      have hadd : (ad.add (l.toNat * inf.size)).add (j * inf.size + i) = ad.add ((l.toNat + j) * inf.size + i) := by
        rw [add_add, Nat.add_mul, Nat.add_assoc]
    · refine ⟨ad.add (l.toNat * inf.size), by rw [if_neg hc.1, ha]; rfl, ?_⟩
      rw [if_neg hc.1, ha]
      simp only [Option.map_some, hadd, hcell, Option.getD_some]
    · rw [if_neg hc.1, ha]
      simp only [Option.map_some, hadd, hcell, Option.getD_some]
      exact hrep
  · exact h.elim

/-- A value's cells, of a datum whose cells are known. -/
theorem rep_one {d : D} {v : Value} (h : Rep C d v) (hd : d.one = true) : v.oneCell' = true ∧ v.cells = #[v] ∧ d.cells = [d] := by
  cases h with
  | pure h => cases h <;> first | (refine ⟨rfl, rfl, rfl⟩; done) | (simp [D.one] at hd; done)
  | undef v => simp [D.one] at hd
  | ptr => exact ⟨rfl, rfl, rfl⟩
  | own => exact ⟨rfl, rfl, rfl⟩
  | agg => simp [D.one] at hd
  | tup => simp [D.one] at hd
  | fn => exact ⟨rfl, rfl, rfl⟩

theorem rep_cells {d : D} {v : Value} (h : Rep C d v) (hd : d.ok = true) : ∃ vs : List Value, v.cells = vs.toArray ∧ d.cells.length = vs.length ∧ (∀ (i : Nat) d' v', d.cells[i]? = some d' → vs[i]? = some v' → Rep C d' v') ∧ (∀ u ∈ vs, u.oneCell' = true) := by
  by_cases h1 : d.one = true
  · obtain ⟨ho, hc, hdc⟩ := rep_one h h1
    refine ⟨[v], by rw [hc], by rw [hdc]; rfl, fun i d' v' hi hv => ?_, by simpa using ho⟩
    rw [hdc] at hi
    cases i with
    | zero => simp at hi hv; subst hi; subst hv; exact h
    | succ i => simp at hi
  · cases d with
    | agg cs =>
      obtain ⟨vs, rfl, hl, hr⟩ := rep_agg h
      refine ⟨vs, rfl, hl, hr, fun u hu => ?_⟩
      obtain ⟨i, hi⟩ := List.getElem?_of_mem hu
      have hlt : i < cs.length := by rw [hl]; exact (List.getElem?_eq_some_iff.1 hi).1
      have hci : cs[i]? = some cs[i] := List.getElem?_eq_getElem hlt
      simp only [D.ok, List.all_eq_true] at hd
      exact (rep_one (hr i _ _ hci hi) (hd _ (List.mem_of_getElem? hci))).1
    | _ => simp_all [D.ok]

/-- The values of a struct's parts, laid over its zero cells, hold what the data's parts, laid so, stand for. -/
theorem splice_fold (off : Nat) : ∀ (us : List Value) (cs : Array Value) (m : Nat), (us.zipIdx m).foldl (fun cs (x : Value × Nat) => cs.setIfInBounds (off + x.2) x.1) cs = (us.zipIdx m).foldl (fun cs (x : Value × Nat) => cs.setIfInBounds (off + x.2) x.1) cs := fun _ _ _ => rfl

theorem foldl_set (off : Nat) : ∀ (us : List Value) (cs : Array Value) (m : Nat), off + m + us.length ≤ cs.size →
    ((us.zipIdx m).foldl (fun cs (x : Value × Nat) => cs.setIfInBounds (off + x.2) x.1) cs).toList = cs.toList.take (off + m) ++ us ++ cs.toList.drop (off + m + us.length)
  | [], cs, m, _ => by simp
  | u :: us, cs, m, h => by
    simp only [List.length_cons] at h
    rw [List.zipIdx_cons, List.foldl_cons, foldl_set off us _ (m + 1) (by simp; omega)]
    have hlt : off + m < cs.toList.length := by simp; omega
    have h2 : off + (m + 1) = off + m + 1 := by omega
    rw [h2]
    simp only [Array.toList_setIfInBounds]
    rw [List.drop_set_of_lt (by omega), List.take_set, List.length_cons, show off + m + (us.length + 1) = off + m + 1 + us.length by omega]
    congr 1
    rw [List.take_succ_eq_append_getElem hlt, List.set_append_right _ _ (by simp; omega)]
    simp [Nat.min_eq_left (show off + m ≤ cs.size by omega)]

def RowRep (C : Ctx) (ds : List D) (vs : List Value) : Prop := ds.length = vs.length ∧ ∀ (i : Nat) d v, ds[i]? = some d → vs[i]? = some v → Rep C d v

theorem RowRep.splice {ds : List D} {vs : List Value} {off : Nat} {ds' : List D} {vs' : List Value} (h : RowRep C ds vs) (h' : RowRep C ds' vs') (hle : off + ds'.length ≤ ds.length) :
    RowRep C (splice ds off ds') (vs.take off ++ vs' ++ vs.drop (off + vs'.length)) := by
  obtain ⟨hl, hr⟩ := h
  obtain ⟨hl', hr'⟩ := h'
  unfold Vi.splice
  refine ⟨by simp [hl, hl'], fun i d v hd hv => ?_⟩
  rw [List.append_assoc] at hd hv
  by_cases h1 : i < off
  · rw [List.getElem?_append_left (by simp; omega), List.getElem?_take, if_pos h1] at hd hv
    exact hr i d v hd hv
  · rw [List.getElem?_append_right (by simp; omega)] at hd hv
    rw [List.length_take, Nat.min_eq_left (by omega)] at hd hv
    by_cases h2 : i - off < ds'.length
    · rw [List.getElem?_append_left (by omega)] at hd hv
      exact hr' _ d v hd hv
    · rw [List.getElem?_append_right (by omega), List.getElem?_drop] at hd hv
      rw [hl'] at hd
      exact hr _ d v hd hv

theorem fill_rep {place : Nat → Option (Nat × Nat)} (hr : Reads C ρ a o) (hp : Plain ρ) : ∀ (ps : List (Nat × Operand)) (qs : List (Nat × Nat × LO)) (zs ds : List D) (vs : List Value),
    (∀ p ∈ ps, p.2 ∈ o.op.operands) → ps.length = qs.length → (∀ (i : Nat) p q, ps[i]? = some p → qs[i]? = some q → place p.1 = some (q.1, q.2.1) ∧ loOf p.2 = some q.2.2) → RowRep C zs vs → fillD ρ zs qs = some ds →
    ∃ us : List Value, Instr.fill place vs.toArray (ps.map fun p => (p.1, a.eval p.2)) = some us.toArray ∧ RowRep C ds us
  | [], qs, zs, ds, vs, hm, hl, hq, hz, hf => by
    have : qs = [] := List.eq_nil_of_length_eq_zero (by simpa using hl.symm)
    subst this
    simp [fillD] at hf; subst hf
    exact ⟨vs, by simp [Instr.fill], hz⟩
  | p :: ps, [], zs, ds, vs, hm, hl, hq, hz, hf => by simp at hl
  | p :: ps, q :: qs, zs, ds, vs, hm, hl, hq, hz, hf => by
    obtain ⟨hpl, hlo⟩ := hq 0 p q rfl rfl
    obtain ⟨off, n, x⟩ := q
    simp only [fillD] at hf
    split at hf
    · rename_i hc
      obtain ⟨hok, hn, hle⟩ := hc
      have rx := hr.at hp hlo (hm p (by simp))
      obtain ⟨us, hus, hul, hur, _⟩ := rep_cells rx hok
      have hcs : off + us.length ≤ vs.length := by rw [← hul, hn, ← hz.1]; exact hle
      have := fill_rep hr hp ps qs _ ds _ (fun p hp => hm p (by simp [hp])) (by simpa using hl) (fun i p q h1 h2 => hq (i + 1) p q (by simpa using h1) (by simpa using h2)) (hz.splice ⟨hul, hur⟩ (by rw [hn]; exact hle)) hf
      obtain ⟨ws, hws, hwr⟩ := this
      refine ⟨ws, ?_, hwr⟩
      rw [List.map_cons]
      simp only [Instr.fill, hpl, hus]
      have hns : us.length = n := by rw [← hul, hn]
      have h1 : ¬ (us.toArray.size ≠ n ∨ off + us.toArray.size > vs.toArray.size) := by simp [hns]; omega
      rw [if_neg (by simpa using h1)]
      rw [← hws]
      congr 1
      apply Array.ext'
      rw [← Array.foldl_toList]
      have := foldl_set off us vs.toArray 0 (by simpa using hcs)
      simp only [Nat.add_zero] at this
      simpa using this
    · cases hf

end
end Go.Vi
