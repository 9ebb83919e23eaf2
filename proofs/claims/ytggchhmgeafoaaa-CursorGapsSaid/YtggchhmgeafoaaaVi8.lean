import Derived.Test.YtggchhmgeafoaaaVi7
set_option linter.unusedVariables false
set_option linter.unusedSimpArgs false
set_option linter.unnecessarySimpa false
namespace Go.Vi
open Go Go.RowKit
section
variable {P : Program} {o : Oper} {k : LK} {C : Ctx} {a : Act} {ρ : LO → D} {K : D → List Ob → Prop}
def lowParts (P : Program) (fs : Array Field) : List (Nat × Operand) → Option (List (Nat × Nat × LO))
 | [] => some []
 | (i, x) :: rest => match fs[i]?, loOf x, lowParts P fs rest with
  | some fd, some l, some r => match P.info? fd.type with
   | some inf => some ((fd.offset, inf.size, l) :: r)
   | none => none
  | _, _, _ => none
theorem lowParts_spec {fs : Array Field} : ∀ {ps : List (Nat × Operand)} {qs : List (Nat × Nat × LO)}, lowParts P fs ps = some qs → ps.length = qs.length ∧
  ∀ (i : Nat) p q, ps[i]? = some p → qs[i]? = some q → (∃ fd inf, fs[p.1]? = some fd ∧ P.info? fd.type = some inf ∧ q.1 = fd.offset ∧ q.2.1 = inf.size) ∧ loOf p.2 = some q.2.2
 | [], qs, h => by simp [lowParts] at h; subst h; simp
 | (i, x) :: rest, qs, h => by
  simp only [lowParts] at h
  split at h
  ·rename_i fd l r h1 h2 h3
   split at h
   ·rename_i inf h4
    cases h
    obtain ⟨hl, hs⟩ := lowParts_spec h3
    refine ⟨by simp [hl], fun j p q hp hq => ?_⟩
    cases j with
    | zero => simp at hp hq; subst hp; subst hq; exact ⟨⟨fd, inf, h1, h4, rfl, rfl⟩, h2⟩
    | succ j => simp at hp hq; exact hs j p q hp hq
   ·cases h
  ·cases h
theorem run_mapM_places (w : World) : ∀ (fs : List Field), (∀ f ∈ fs, ∃ inf, P.info? f.type = some inf) → ∃ pl : List (Nat × Nat), (fs.mapM fun f => (P.info? f.type).map fun i => (f.offset, i.size)) = some pl ∧ pl.length = fs.length ∧
  ∀ (i : Nat) f, fs[i]? = some f → ∃ inf, P.info? f.type = some inf ∧ pl[i]? = some (f.offset, inf.size)
 | [], _ => ⟨[], by simp, rfl, by simp⟩
 | f :: fs, h => by
  obtain ⟨inf, hinf⟩ := h f (by simp)
  obtain ⟨pl, h1, h2, h3⟩ := run_mapM_places w fs (fun g hg => h g (by simp [hg]))
  refine ⟨(f.offset, inf.size) :: pl, by simp [List.mapM_cons, hinf, h1], by simp [h2], fun i g hg => ?_⟩
  cases i with
  | zero => simp at hg; subst hg; exact ⟨inf, hinf, by simp⟩
  | succ i => simp at hg; simpa using h3 i g hg
theorem ofVals_one {vs : List Value} {ds : List D} (h : ofVals vs = some ds) : ∀ d ∈ ds, d.one = true := by
 obtain ⟨hl, hs⟩ := ofVals_rep h
 intro d hd
 obtain ⟨i, hi⟩ := List.getElem?_of_mem hd
 have hlt : i < vs.length := by rw [← hl]; exact (List.getElem?_eq_some_iff.1 hi).1
 have := hs i d _ hi (List.getElem?_eq_getElem hlt)
 unfold ofVal1 at this
 split at this <;> simp only [Option.some.injEq, reduceCtorEq] at this <;> subst this <;> rfl
theorem ok_one {d : D} (h : d.ok = true) : ∀ e ∈ d.cells, e.one = true := by
 cases d with
 | agg cs => simpa [D.ok, D.cells] using h
 | _ => intro e he; simp [D.cells] at he; subst he; simpa [D.ok] using h
theorem zeros_rep {z : Value} {zs : List D} (h : ofVals z.cells.toList = some zs) : RowRep C zs z.cells.toList := by
 obtain ⟨hl, hs⟩ := ofVals_rep h
 exact ⟨hl, fun i d v hd hv => .pure (ofVal1_rep (hs i d v hd hv) _ _)⟩
theorem sound_build {t : TypeId} {parts : Array (Nat × Operand)} {fs : Array Field} {inf : TypeInfo} {z : Value} {zs : List D} {qs : List (Nat × Nat × LO)} (ho : o.op = .build t parts) (hu : P.underlying t = some (.struct fs)) (hinf : P.info? t = some inf) (hz : inf.zero = some z)
  (hzs : ofVals z.cells.toList = some zs) (hfs : fs.toList.all (fun f => (P.info? f.type).isSome) = true) (hq : lowParts P fs parts.toList = some qs) : Sound P o (.build zs qs) := by
 intro dr C a ρ K hi hp hr h
 simp only [LK.run] at h
 split at h
 ·rename_i cs hcs
  obtain ⟨hl, hs⟩ := lowParts_spec hq
  obtain ⟨pl, hpl, hpll, hplg⟩ := run_mapM_places (P := P) C.w fs.toList (fun f hf => by
   have := List.all_eq_true.1 hfs f hf
   exact Option.isSome_iff_exists.1 this)
  obtain ⟨us, hus, hur⟩ := fill_rep (C := C) (place := (pl.toArray[·]?)) hr hp parts.toList qs zs cs z.cells.toList
   (fun p hpm => by simp only [ho, Op.operands]; exact List.mem_toArray.2 (List.mem_map.2 ⟨p, hpm, rfl⟩)) hl (fun i p q h1 h2 => by
    obtain ⟨⟨fd, inf', g1, g2, g3, g4⟩, g5⟩ := hs i p q h1 h2
    refine ⟨?_, g5⟩
    obtain ⟨inf'', g6, g7⟩ := hplg p.1 fd (by simpa using g1)
    rw [g2] at g6; cases g6
    rw [g3, g4]; simpa using g7) (zeros_rep hzs) hcs
  have hb : P.built t (parts.map fun (i, x) => (i, a.eval x)).toList = some us.toArray := by
   simp only [Program.built, hinf, hu, hz, hpl]
   simpa using hus
  refine .here (v := .agg us.toArray) hi ?_ (.agg cs us hur.1 hur.2) h
  simp only [execOp, ho, Sem.run_bind, run_build C.w t _ _ hb, Result.andThen_ok, Sem.run_pure]
 ·exact h.elim
theorem below_alloc' (w : World) (ob : Obj) : Below w.heap.size w (w.alloc ob) := (Below.refl _ w).alloc (Nat.le_refl _) ob
theorem new_var (hi : Inv C) {cs : List D} {vs : List Value} (hrep : RowRep C cs vs) (hne : cs ≠ []) (hone : ∀ d ∈ cs, d.one = true) (e : TypeId) :
  ∃ C', C'.w = C.w.alloc (.cells vs.toArray e) ∧ C'.σ = C.σ ++ [⟨true, false, cs.all D.pt1, false, cs.length, [cs], some 0⟩] ∧ Ext C C' ∧ Inv C' ∧ Rep C' (.ptr C.σ.length 0 0 1) (.pointer (some ⟨C.w.heap.size, 0, none⟩)) := by
 have hpos : 0 < cs.length := List.length_pos_iff.2 hne
 have := newOb hi (below_alloc' C.w (.cells vs.toArray e)) ⟨true, false, cs.all D.pt1, false, cs.length, [cs], some 0⟩ C.w.heap.size rfl hpos (by simp) (fun r hr d hd => by simp at hr; subst hr; exact D.one_cell (hone d hd)) (by simp)
  (by intro h r hr d hd; simp at hr; subst hr; exact List.all_eq_true.1 h d hd)
  (fun _ => ⟨Nat.le_refl _, vs.toArray, e, 1, heap_alloc_new C.w _, by simp [hrep.1], by simp, by decide, by simp, fun j i r d hj hi' => by
   cases j with
   | zero =>
    simp at hj; subst hj
    have hlt : i < vs.length := by rw [← hrep.1]; exact (List.getElem?_eq_some_iff.1 hi').1
    exact ⟨vs[i], by simp [hlt], hrep.2 i d _ hi' (List.getElem?_eq_getElem hlt)⟩
   | succ j => simp at hj⟩)
 obtain ⟨hx, hi'⟩ := this
 refine ⟨_, rfl, rfl, hx, hi', ?_⟩
 have hl := hi.len
 exact .ptr _ 0 0 1 ⟨true, false, cs.all D.pt1, false, cs.length, [cs], some 0⟩ C.w.heap.size _ (by simp) (by rw [← hl]; simp) (by simp) (by simp)
theorem sound_alloc {t : TypeId} {inf : TypeInfo} {z : Value} {zs : List D} (ho : o.op = .alloc t) (hinf : P.info? t = some inf) (hz : inf.zero = some z) (hzs : ofVals z.cells.toList = some zs) : Sound P o (.alloc zs) := by
 intro dr C a ρ K hi hp hr h
 simp only [LK.run] at h
 obtain ⟨hne, hk⟩ := h
 obtain ⟨C', hw, hσ, hx, hi', hrep⟩ := new_var hi (zeros_rep hzs) hne (ofVals_one hzs) t
 refine .mk (C' := C') (v := .pointer (some ⟨C.w.heap.size, 0, none⟩)) ?_ hx hi' hrep (by rw [hσ]; exact hk)
 have hzv : (zeroValue t).run P C.w = .ok z C.w := by simp [zeroValue, typeInfo, hinf, hz, go_sem]
 have e1 : z.cells.toList.toArray = z.cells := by simp
 simp only [execOp, ho, Instr.alloc, Sem.run_bind, hzv, Result.andThen_ok, newVar, newRow, newObj]
 rw [hw, e1]
 rfl
theorem sound_box {t : TypeId} {x : Operand} {lx : LO} (ho : o.op = .box t x) (hx : loOf x = some lx) : Sound P o (.box lx) := by
 intro dr C a ρ K hi hp hr h
 have rx := hr.at hp hx (by simp [ho, Op.operands])
 simp only [LK.run] at h
 obtain ⟨hne, hok, hk⟩ := h
 obtain ⟨vs, hvs, hl, hrr, _⟩ := rep_cells rx hok
 obtain ⟨C', hw, hσ, hx', hi', hrep⟩ := new_var hi ⟨hl, hrr⟩ hne (ok_one hok) t
 refine .mk (C' := C') (v := .pointer (some ⟨C.w.heap.size, 0, none⟩)) ?_ hx' hi' hrep (by rw [hσ]; exact hk)
 simp only [execOp, ho, Instr.box, newVar, newRow, newObj]
 rw [hw, ← hvs]
 rfl
theorem getElem?_set_splice {rows : List (List D)} {j j' : Nat} {r r' : List D} (h : (rows.set j r)[j']? = some r') : (j = j' ∧ r' = r) ∨ (j ≠ j' ∧ rows[j']? = some r') := by
 by_cases e : j = j'
 ·subst e
  rw [List.getElem?_set] at h
  split at h
  ·split at h
   ·cases h; exact .inl ⟨rfl, rfl⟩
   ·cases h
  ·rename_i hn; exact absurd rfl hn
 ·rw [List.getElem?_set_ne e] at h; exact .inr ⟨e, h⟩
theorem splice_length {r : List D} {i : Nat} {cs : List D} (h : i + cs.length ≤ r.length) : (splice r i cs).length = r.length := by
 unfold splice; simp; omega
theorem splice_get {r : List D} {i : Nat} {cs : List D} (h : i + cs.length ≤ r.length) {m : Nat} {d : D} (hd : (splice r i cs)[m]? = some d) :
  (m < i ∧ r[m]? = some d) ∨ (i ≤ m ∧ m < i + cs.length ∧ cs[m - i]? = some d) ∨ (i + cs.length ≤ m ∧ r[m]? = some d) := by
 unfold splice at hd
 rw [List.append_assoc] at hd
 by_cases h1 : m < i
 ·rw [List.getElem?_append_left (by simp; omega), List.getElem?_take, if_pos h1] at hd
  exact .inl ⟨h1, hd⟩
 ·rw [List.getElem?_append_right (by simp; omega), List.length_take, Nat.min_eq_left (by omega)] at hd
  by_cases h2 : m - i < cs.length
  ·rw [List.getElem?_append_left h2] at hd
   exact .inr (.inl ⟨by omega, by omega, hd⟩)
  ·rw [List.getElem?_append_right (by omega), List.getElem?_drop] at hd
   exact .inr (.inr ⟨by omega, by rw [show i + cs.length + (m - i - cs.length) = m by omega] at hd; exact hd⟩)
theorem setRow_facts (w : World) (g : Nat) (arr arr' : Array Value) (e : TypeId) (hg : w.heap[g]? = some (.cells arr e (0, 0))) :
  (w.setRow g arr').os = w.os ∧ (w.setRow g arr').tape = w.tape ∧ (w.setRow g arr').output = w.output ∧ w.heap.size ≤ (w.setRow g arr').heap.size ∧ (∀ k, k ≠ g → (w.setRow g arr').heap[k]? = w.heap[k]?) ∧
  (w.setRow g arr').heap[g]? = some (.cells arr' e (0, 0)) :=
 ⟨rfl, rfl, rfl, by simp, fun k hk => setRow_other w g k _ hk, setRow_heap w g arr arr' e _ hg⟩
theorem mul_bound {j n sz m s : Nat} (hj : j < n) (hm : m < sz) (hs : n * sz ≤ s) : j * sz + m < s := by
 have : (j + 1) * sz ≤ n * sz := Nat.mul_le_mul_right _ hj
 rw [Nat.add_mul, Nat.one_mul] at this
 omega
theorem sound_store {t : TypeId} {x y : Operand} {inf : TypeInfo} {lx ly : LO} (ho : o.op = .store t x y) (hinf : P.info? t = some inf) (hx : loOf x = some lx) (hy : loOf y = some ly) : Sound P o (.store inf.size lx ly) := by
 intro dr C a ρ K hi hp hr h
 have rx := hr.at hp hx (by simp [ho, Op.operands])
 have ry := hr.at hp hy (by simp [ho, Op.operands])
 simp only [LK.run] at h
 split at h
 ·rename_i l j i m hρ
  rw [hρ] at rx
  split at h
  ·rename_i ob hob
   obtain ⟨hm, hreal, hfz, hn, hle, hok, hj, hk⟩ := h
   have hjr : ob.rows[j]? = some (ob.rows[j]'(by omega)) := List.getElem?_eq_getElem (by omega)
   have hK := hk _ hjr
   generalize ob.rows[j]'(by omega) = r at hjr hK
   obtain ⟨ad, ob', b, hv, hob', hb, had⟩ := rep_ptr rx
   rw [hob] at hob'; cases hob'
   obtain rfl := had hm hreal
   obtain ⟨vs, hvs, hl, hrr, hone⟩ := rep_cells ry hok
   have hO := hi.ob l ob b hob hb
   obtain ⟨hF, arr, e, qq, harr, hqs, hq1, hq2, hq3, hcells⟩ := hO.block hreal
   have hfit : ob.rows.length * ob.sz ≤ arr.size := by rw [hqs]; exact Nat.mul_le_mul_right _ hq1
   have hrlen : r.length = ob.sz := hO.sz r (List.mem_of_getElem? hjr)
   have hin : ∀ q, q < ob.sz → j * ob.sz + q < arr.size := fun q hq => mul_bound (by omega) hq hfit
   have hvl : vs.length = inf.size := by rw [← hl, hn]
   have hfit' : j * ob.sz + i + vs.length ≤ arr.size := by
    rcases Nat.eq_zero_or_pos vs.length with h0 | h0
    ·rcases Nat.eq_or_lt_of_le hle with h1 | h1
     ·have : (j + 1) * ob.sz ≤ ob.rows.length * ob.sz := Nat.mul_le_mul_right _ (by omega)
      rw [Nat.add_mul, Nat.one_mul] at this; omega
     ·have := hin i (by omega); omega
    ·have := hin (i + vs.length - 1) (by omega); omega
   have hst := run_storeCells_at P b (j * ob.sz + i) e vs 0 arr C.w harr (by simpa using hfit') hone
   simp only [Nat.add_zero] at hst
   generalize harr' : (arr.toList.take (j * ob.sz + i) ++ vs ++ arr.toList.drop (j * ob.sz + i + vs.length)).toArray = arr' at hst
   obtain ⟨f1, f2, f3, f4, f5, f6⟩ := setRow_facts C.w b arr arr' e harr
   have hsz' : arr'.size = arr.size := by rw [← harr']; simp; omega
   have hget : ∀ q, arr'[q]? = if q < j * ob.sz + i then arr[q]? else if q < j * ob.sz + i + vs.length then vs[q - (j * ob.sz + i)]? else arr[q]? := by
    intro q
    rw [← harr']
    simp only [List.getElem?_toArray]
    rw [List.append_assoc]
    by_cases h1 : q < j * ob.sz + i
    ·rw [if_pos h1, List.getElem?_append_left (by simp; omega), List.getElem?_take, if_pos h1]; simp
    ·rw [if_neg h1, List.getElem?_append_right (by simp; omega), List.length_take, Nat.min_eq_left (by simp; omega)]
     by_cases h2 : q < j * ob.sz + i + vs.length
     ·rw [if_pos h2, List.getElem?_append_left (by omega)]
     ·rw [if_neg h2, List.getElem?_append_right (by omega), List.getElem?_drop, show j * ob.sz + i + vs.length + (q - (j * ob.sz + i) - vs.length) = q by omega]; simp
   have hT := turnOb hi hob hb { ob with pure := ob.pure && (ρ ly).cells.all D.pt1, rows := ob.rows.set j (splice r i (ρ ly).cells) } b (w' := C.w.setRow b arr') ⟨f1, f2, f3⟩ f4 (fun k _ hkb => f5 k (hkb hreal)) hfz hfz rfl
    (fun r' hr' => by
     rcases List.mem_or_eq_of_mem_set hr' with h | h
     ·exact hO.sz r' h
     ·subst h; rw [splice_length (by rw [hrlen, hn]; exact hle), hrlen])
    (fun r' hr' d hd => by
     rcases List.mem_or_eq_of_mem_set hr' with h | h
     ·exact hO.one r' h d hd
     ·subst h
      obtain ⟨q, hq⟩ := List.getElem?_of_mem hd
      rcases splice_get (by rw [hrlen, hn]; exact hle) hq with ⟨_, h⟩ | ⟨_, _, h⟩ | ⟨_, h⟩
      ·exact hO.one r (List.mem_of_getElem? hjr) d (List.mem_of_getElem? h)
      ·exact D.one_cell (ok_one hok d (List.mem_of_getElem? h))
      ·exact hO.one r (List.mem_of_getElem? hjr) d (List.mem_of_getElem? h))
    (fun h => by rw [hreal] at h; cases h)
    (fun hpu r' hr' d hd => by
     simp only [Bool.and_eq_true] at hpu
     rcases List.mem_or_eq_of_mem_set hr' with h | h
     ·exact hO.pure hpu.1 r' h d hd
     ·subst h
      obtain ⟨q, hq⟩ := List.getElem?_of_mem hd
      rcases splice_get (by rw [hrlen, hn]; exact hle) hq with ⟨_, h⟩ | ⟨_, _, h⟩ | ⟨_, h⟩
      ·exact hO.pure hpu.1 r (List.mem_of_getElem? hjr) d (List.mem_of_getElem? h)
      ·exact List.all_eq_true.1 hpu.2 d (List.mem_of_getElem? h)
      ·exact hO.pure hpu.1 r (List.mem_of_getElem? hjr) d (List.mem_of_getElem? h))
    (by simp) (fun _ => ⟨rfl, rfl, rfl⟩) (fun _ => .inl ⟨hreal, rfl⟩)
    (fun _ arr2 e2 h2 => by rw [harr] at h2; cases h2; exact ⟨arr', f6, hsz'⟩)
    (fun _ => ⟨arr', e, qq, f6, by rw [hsz']; exact hqs, by simp only [List.length_set]; exact hq1, hq2, by simp only [List.length_set]; exact hq3, fun j' i' r' d hj' hi' => by
     rcases getElem?_set_splice hj' with ⟨rfl, rfl⟩ | ⟨hne, hj''⟩
     ·have hi'lt : i' < ob.sz := by
       have := (List.getElem?_eq_some_iff.1 hi').1
       rw [splice_length (by rw [hrlen, hn]; exact hle), hrlen] at this; exact this
      rcases splice_get (by rw [hrlen, hn]; exact hle) hi' with ⟨g1, h⟩ | ⟨g1, g2, h⟩ | ⟨g1, h⟩
      ·obtain ⟨v, hv, hrep⟩ := hcells j i' r d hjr h
       exact ⟨v, by show arr'[j * ob.sz + i']? = _; rw [hget, if_pos (by omega)]; exact hv, hrep⟩
      ·have hlt : i' - i < vs.length := by rw [← hl]; exact (List.getElem?_eq_some_iff.1 h).1
       refine ⟨vs[i' - i], ?_, hrr _ d _ h (List.getElem?_eq_getElem hlt)⟩
       show arr'[j * ob.sz + i']? = _
       rw [hget, if_neg (by omega), if_pos (by omega), show j * ob.sz + i' - (j * ob.sz + i) = i' - i by omega]
       exact List.getElem?_eq_getElem hlt
      ·obtain ⟨v, hv, hrep⟩ := hcells j i' r d hjr h
       exact ⟨v, by show arr'[j * ob.sz + i']? = _; rw [hget, if_neg (by omega), if_neg (by omega)]; exact hv, hrep⟩
     ·obtain ⟨v, hv, hrep⟩ := hcells j' i' r' d hj'' hi'
      refine ⟨v, ?_, hrep⟩
      show arr'[j' * ob.sz + i']? = _
      have hi'lt : i' < ob.sz := by
       have := (List.getElem?_eq_some_iff.1 hi').1
       rw [hO.sz r' (List.mem_of_getElem? hj'')] at this; exact this
      rw [hget]
      rcases Nat.lt_or_gt_of_ne hne with h | h
      ·have : (j + 1) * ob.sz ≤ j' * ob.sz := Nat.mul_le_mul_right _ h
       rw [Nat.add_mul, Nat.one_mul] at this
       rw [if_neg (by omega), if_neg (by omega)]; exact hv
      ·have : (j' + 1) * ob.sz ≤ j * ob.sz := Nat.mul_le_mul_right _ h
       rw [Nat.add_mul, Nat.one_mul] at this
       rw [if_pos (by omega)]; exact hv⟩)
   obtain ⟨hx, hi'⟩ := hT
   have hbs : C.bs.set l b = C.bs := by
    apply List.ext_getElem?
    intro q
    by_cases e : l = q
    ·subst e; rw [List.getElem?_set_self (List.getElem?_eq_some_iff.1 hb).1, hb]
    ·rw [List.getElem?_set_ne e]
   refine ⟨.skip, undef, _, .undef, ?_, hx, hi', .undef _, hK, .inr ⟨rfl, rfl⟩⟩
   have hsv : (storeVar t ⟨b, j * ob.sz + i, none⟩ (a.eval y)).run P C.w = .ok () (C.w.setRow b arr') := by
    simp only [storeVar, Sem.run_bind, run_sizeOf' hinf, Result.andThen_ok, hvs]
    rw [if_neg (by simp [hvl])]
    exact hst
   simp only [execOp, ho, hv, Instr.storeAt, Instr.sureAddr, Sem.run_bind, Sem.run_pure, Result.andThen_ok, hsv]
  ·exact h.elim
 ·exact h.elim
end
end Go.Vi
