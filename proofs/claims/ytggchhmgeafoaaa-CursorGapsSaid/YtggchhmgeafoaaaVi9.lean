import Derived.Test.YtggchhmgeafoaaaVi8
set_option linter.unusedVariables false
set_option linter.unusedSimpArgs false
set_option linter.unnecessarySimpa false
namespace Go.Vi
open Go Go.RowKit
section
variable {P : Program} {o : Oper} {k : LK} {C : Ctx} {a : Act} {ρ : LO → D} {K : D → List Ob → Prop}
def lowSlit : Nat → List (Nat × Operand) → Option (List LO)
 | _, [] => some []
 | i, (j, x) :: rest => if i = j then match loOf x, lowSlit (i + 1) rest with
  | some l, some ls => some (l :: ls)
  | _, _ => none
  else none
theorem lowSlit_spec : ∀ {i : Nat} {ps : List (Nat × Operand)} {ls : List LO}, lowSlit i ps = some ls → ls.length = ps.length ∧ ∀ (m : Nat) p l, ps[m]? = some p → ls[m]? = some l → p.1 = i + m ∧ loOf p.2 = some l
 | i, [], ls, h => by simp [lowSlit] at h; subst h; simp
 | i, (j, x) :: rest, ls, h => by
  simp only [lowSlit] at h
  split at h
  ·rename_i hij
   split at h
   ·rename_i l ls' h1 h2
    cases h
    obtain ⟨hl, hs⟩ := lowSlit_spec h2
    refine ⟨by simp [hl], fun m p l hp hq => ?_⟩
    cases m with
    | zero => simp at hp hq; subst hp; subst hq; exact ⟨hij.symm, h1⟩
    | succ m => simp at hp hq; obtain ⟨e1, e2⟩ := hs m p l hp hq; exact ⟨by omega, e2⟩
   ·cases h
  ·cases h
theorem fill_seq (sz : Nat) : ∀ (vs : List (List Value)) (i : Nat) (ps : List (Nat × Value)) (cells : Array Value), (∀ v ∈ vs, v.length = sz) → ps.length = vs.length → (∀ (m : Nat) p v, ps[m]? = some p → vs[m]? = some v → p.1 = i + m ∧ p.2.cells = v.toArray) →
  (i + vs.length) * sz ≤ cells.size → Instr.fill (fun i => some (i * sz, sz)) cells ps = some (cells.toList.take (i * sz) ++ vs.flatten ++ cells.toList.drop ((i + vs.length) * sz)).toArray
 | [], i, ps, cells, hv, hl, hp, hs => by
  have : ps = [] := List.eq_nil_of_length_eq_zero (by simpa using hl)
  subst this
  simp [Instr.fill]
 | v :: vs, i, [], cells, hv, hl, hp, hs => by simp at hl
 | v :: vs, i, p :: ps, cells, hv, hl, hp, hs => by
  obtain ⟨h1, h2⟩ := hp 0 p v rfl rfl
  obtain ⟨pi, pv⟩ := p
  simp only [Nat.add_zero] at h1 h2
  subst h1
  have hvl : v.length = sz := hv v (by simp)
  simp only [List.length_cons] at hs
  have e1 : (pi + (vs.length + 1)) * sz = pi * sz + sz + vs.length * sz := by rw [Nat.add_mul, Nat.add_mul, Nat.one_mul]; omega
  simp only [Instr.fill, h2]
  rw [if_neg (by simp [hvl]; omega)]
  have hfold : (v.toArray.zipIdx.foldl (fun cs (x : Value × Nat) => cs.setIfInBounds (pi * sz + x.2) x.1) cells).toList = cells.toList.take (pi * sz) ++ v ++ cells.toList.drop (pi * sz + sz) := by
   rw [← Array.foldl_toList]
   have := foldl_set (pi * sz) v cells 0 (by omega)
   simp only [Nat.add_zero, hvl] at this
   simpa using this
  have hstep := fill_seq sz vs (pi + 1) ps (v.toArray.zipIdx.foldl (fun cs (x : Value × Nat) => cs.setIfInBounds (pi * sz + x.2) x.1) cells) (fun u hu => hv u (by simp [hu])) (by simpa using hl)
   (fun m p u hp' hu => by obtain ⟨e1, e2⟩ := hp (m + 1) p u (by simpa using hp') (by simpa using hu); exact ⟨by omega, e2⟩)
   (by
    have : (v.toArray.zipIdx.foldl (fun cs (x : Value × Nat) => cs.setIfInBounds (pi * sz + x.2) x.1) cells).size = cells.size := by
     rw [← Array.length_toList, hfold]; simp [hvl]; omega
    rw [this, Nat.add_mul, Nat.add_mul, Nat.one_mul]; omega)
  rw [hstep, hfold]
  congr 2
  have e2 : (pi + 1) * sz = pi * sz + sz := by rw [Nat.add_mul, Nat.one_mul]
  have e3 : (pi + 1 + vs.length) * sz = pi * sz + sz + vs.length * sz := by rw [Nat.add_mul, e2]
  have hA : (cells.toList.take (pi * sz)).length = pi * sz := by simp; omega
  rw [List.flatten_cons, e2, e3, List.length_cons, e1]
  have hLv : (cells.toList.take (pi * sz) ++ v).length = pi * sz + sz := by simp [hvl]; omega
  have hD : (cells.toList.take (pi * sz) ++ v ++ cells.toList.drop (pi * sz + sz)).drop (pi * sz + sz + vs.length * sz) = cells.toList.drop (pi * sz + sz + vs.length * sz) := by
   rw [← List.drop_drop, List.drop_left' hLv, List.drop_drop]
  rw [List.take_left' hLv, hD, List.append_assoc (cells.toList.take (pi * sz)) v]
theorem flatten_get (sz : Nat) : ∀ (vs : List (List Value)) (j i : Nat) (v : List Value), (∀ v ∈ vs, v.length = sz) → vs[j]? = some v → i < sz → vs.flatten[j * sz + i]? = v[i]?
 | [], j, i, v, _, h, _ => by simp at h
 | u :: vs, 0, i, v, hv, h, hi => by
  simp at h; subst h
  rw [List.flatten_cons, List.getElem?_append_left (by rw [hv u (by simp)]; omega)]
  simp
 | u :: vs, j + 1, i, v, hv, h, hi => by
  have hu := hv u (by simp)
  rw [List.flatten_cons, List.getElem?_append_right (by rw [hu, Nat.add_mul]; omega), hu, show (j + 1) * sz + i - sz = j * sz + i by rw [Nat.add_mul]; omega]
  exact flatten_get sz vs j i v (fun w hw => hv w (by simp [hw])) (by simpa using h) hi
theorem flatten_length (sz : Nat) : ∀ (vs : List (List Value)), (∀ v ∈ vs, v.length = sz) → vs.flatten.length = vs.length * sz
 | [], _ => by simp
 | u :: vs, h => by
  rw [List.flatten_cons, List.length_append, h u (by simp), flatten_length sz vs (fun v hv => h v (by simp [hv])), List.length_cons, Nat.add_mul]; omega
theorem cells_all (hr : Reads C ρ a o) (hp : Plain ρ) : ∀ (ps : List (Nat × Operand)) (ls : List LO), ls.length = ps.length → (∀ (m : Nat) p l, ps[m]? = some p → ls[m]? = some l → loOf p.2 = some l) → (∀ p ∈ ps, p.2 ∈ o.op.operands) → (∀ x ∈ ls, (ρ x).ok = true) →
  ∃ vss : List (List Value), vss.length = ps.length ∧ ∀ (m : Nat) p l vs, ps[m]? = some p → ls[m]? = some l → vss[m]? = some vs → (a.eval p.2).cells = vs.toArray ∧ (ρ l).cells.length = vs.length ∧ ∀ (i : Nat) d v, (ρ l).cells[i]? = some d → vs[i]? = some v → Rep C d v
 | [], ls, hl, _, _, _ => ⟨[], rfl, by simp⟩
 | p :: ps, [], hl, _, _, _ => by simp at hl
 | p :: ps, l :: ls, hl, h, hm, hok => by
  obtain ⟨vss, h1, h2⟩ := cells_all hr hp ps ls (by simpa using hl) (fun m p' l' hp' hl' => h (m + 1) p' l' (by simpa using hp') (by simpa using hl')) (fun p' hp' => hm p' (by simp [hp'])) (fun x hx => hok x (by simp [hx]))
  obtain ⟨vs, e1, e2, e3, _⟩ := rep_cells (hr.at hp (h 0 p l rfl rfl) (hm p (by simp))) (hok l (by simp))
  refine ⟨vs :: vss, by simp [h1], fun m p' l' vs' hp' hl' hv' => ?_⟩
  cases m with
  | zero => simp at hp' hl' hv'; subst hp'; subst hl'; subst hv'; exact ⟨e1, e2, e3⟩
  | succ m => simp at hp' hl' hv'; exact h2 m p' l' vs' hp' hl' hv'
theorem PRep.norm1 {G : Nat → Prop} {w : World} {d : D} {v : Value} (h : PRep G w d v) : PRep G w d.norm1 v := by
 cases h with
 | list nl tg rows A cap sz vf h1 h2 h3 h4 h5 h9 h6 h7 h8 => exact .list none false rows A cap sz vf (by simp) h2 h3 (by simp) h5 h9 h6 h7 h8
 | bool b => exact .bool b
 | int k n => exact .int k n
 | str s => exact .str s
 | nilp => exact .nilp
 | nilfn => exact .nilfn
 | fn f cs vs h h' => exact .fn f cs vs h h'
 | agg cs vs h h' => exact .agg cs vs h h'
 | tup cs vs h h' => exact .tup cs vs h h'
 | elt row i ad vf hg h7 h8 => exact .elt row i ad vf hg h7 h8
theorem PRep.norm {G : Nat → Prop} {w : World} {d : D} {v : Value} (h : PRep G w d v) : PRep G w d.norm v := by
 cases d with
 | agg cs =>
  cases h with
  | agg cs vs h h' =>
   refine .agg _ vs (by simp [h]) fun i d v hd hv => ?_
   simp only [List.getElem?_map, Option.map_eq_some_iff] at hd
   obtain ⟨d', hd', rfl⟩ := hd
   exact (h' i d' v hd' hv).norm1
 | _ => exact h.norm1
theorem norm1_pt1 {d : D} (h : d.pt1 = true) : d.norm1.pt1 = true := by cases d <;> first | exact h | rfl
theorem sound_slit {t e : TypeId} {n : Nat} {parts : Array (Nat × Operand)} {inf : TypeInfo} {z : Value} {ls : List LO} (ho : o.op = .buildSlice t n parts) (hu : P.underlying t = some (.slice e)) (hinf : P.info? e = some inf) (hz : inf.zero = some z)
  (hsmall : n * inf.size ≤ 16777216) (hlen : parts.toList.length = n) (hls : lowSlit 0 parts.toList = some ls) : Sound P o (.slit inf.size ls) := by
 intro dr C a ρ K hi hp hr h
 simp only [LK.run] at h
 obtain ⟨hpos, hall0, hk⟩ := h
 obtain ⟨hll, hspec⟩ := lowSlit_spec hls
 obtain ⟨vss, hvl, hv⟩ := cells_all (C := C) hr hp parts.toList ls hll (fun m p l h1 h2 => (hspec m p l h1 h2).2)
  (fun p hpm => by simp only [ho, Op.operands]; exact List.mem_toArray.2 (List.mem_map.2 ⟨p, hpm, rfl⟩)) (fun x hx => (hall0 x hx).2)
 have get : ∀ (m : Nat) vs, vss[m]? = some vs → ∃ p l, parts.toList[m]? = some p ∧ ls[m]? = some l := fun m vs hm => by
  have hlt := (List.getElem?_eq_some_iff.1 hm).1
  exact ⟨_, _, List.getElem?_eq_getElem (by omega), List.getElem?_eq_getElem (by omega)⟩
 have hvsz : ∀ vs ∈ vss, vs.length = inf.size := fun vs hvs => by
  obtain ⟨m, hm⟩ := List.getElem?_of_mem hvs
  obtain ⟨p, l, h1, h2⟩ := get m vs hm
  rw [← (hv m p l vs h1 h2 hm).2.1]
  exact (hall0 l (List.mem_of_getElem? h2)).1
 have hn : vss.length = n := by omega
 have hfill : Instr.fill (fun i => some (i * inf.size, inf.size)) ((Array.range (n * inf.size)).map (z.cells[· % z.cells.size]!)) (parts.map fun (i, x) => (i, a.eval x)).toList = some vss.flatten.toArray := by
  rw [fill_seq inf.size vss 0 (parts.map fun (i, x) => (i, a.eval x)).toList _ hvsz (by simp [hvl]) (fun m p v hp' hv' => by
   obtain ⟨q, l, h1, h2⟩ := get m v hv'
   simp only [Array.toList_map, List.getElem?_map, h1, Option.map_some, Option.some.injEq] at hp'
   subst hp'
   exact ⟨(hspec m q l h1 h2).1, (hv m q l v h1 h2 hv').1⟩) (by simp [hn])]
  rw [Nat.zero_mul, List.take_zero, List.nil_append, Nat.zero_add, hn, List.drop_of_length_le (by simp), List.append_nil]
 have hx := Ext.later (below_alloc' C.w (.cells vss.flatten.toArray e)) hi
 by_cases hpts : (ls.all fun x => (ρ x).pt) = true
 case neg =>
  rw [if_neg hpts] at hk
  obtain ⟨_, hk⟩ := hk
  have hn0 : n ≠ 0 := fun h0 => hpts (by
   have e1 : ls = [] := List.eq_nil_of_length_eq_zero (by omega)
   rw [e1]; rfl)
  have hrun := run_buildSlice C.w t e n (parts.map fun (i, x) => (i, a.eval x)) vss.flatten.toArray inf z hu hinf hz (by omega) (by
   intro h; rcases Nat.mul_eq_zero.1 h with h | h <;> omega) hfill
  have hfl : vss.flatten.length = n * inf.size := by rw [flatten_length inf.size vss hvsz, hn]
  have hml : n ≤ maxLen := by
   have : n ≤ n * inf.size := Nat.le_mul_of_pos_right _ hpos
   exact Nat.le_trans (Nat.le_trans this hsmall) (by decide)
  have hlr : (ls.map fun x => (ρ x).cells).length = n := by simp; omega
  have hnew := newOb hi (below_alloc' C.w (.cells vss.flatten.toArray e)) ⟨true, false, false, false, inf.size, ls.map fun x => (ρ x).cells, some 0⟩ C.w.heap.size rfl hpos
   (fun r hr' => by simp only [List.mem_map] at hr'; obtain ⟨l, hl, rfl⟩ := hr'; exact (hall0 l hl).1)
   (fun r hr' d hd => by simp only [List.mem_map] at hr'; obtain ⟨l, hl, rfl⟩ := hr'; exact D.one_cell (ok_one (hall0 l hl).2 d hd)) (by simp) (by simp)
   (fun _ => ⟨Nat.le_refl _, vss.flatten.toArray, e, n, heap_alloc_new C.w _, by simpa using hfl, by rw [hlr]; exact Nat.le_refl _, hml, fun c hc => by cases hc; rw [hlr]; rfl, fun j i r d hj hi' => by
    simp only [List.getElem?_map, Option.map_eq_some_iff] at hj
    obtain ⟨l, hl, rfl⟩ := hj
    have hlt := (List.getElem?_eq_some_iff.1 hl).1
    have hvs : vss[j]? = some (vss[j]'(by omega)) := List.getElem?_eq_getElem (by omega)
    have hps : parts.toList[j]? = some (parts.toList[j]'(by omega)) := List.getElem?_eq_getElem (by omega)
    obtain ⟨_, g2, g3⟩ := hv j _ l _ hps hl hvs
    have hi2 := (List.getElem?_eq_some_iff.1 hi').1
    have hu' : (vss[j]'(by omega))[i]? = some ((vss[j]'(by omega))[i]'(by omega)) := List.getElem?_eq_getElem (by omega)
    obtain ⟨g4, g5⟩ := hall0 l (List.mem_of_getElem? hl)
    refine ⟨_, ?_, g3 i d _ hi' hu'⟩
    rw [List.getElem?_toArray, flatten_get inf.size vss j i _ hvsz hvs (by rw [g4] at hi2; exact hi2)]
    exact hu'⟩)
  refine .mk (C' := ⟨C.F, C.σ ++ [⟨true, false, false, false, inf.size, ls.map fun x => (ρ x).cells, some 0⟩], C.bs ++ [C.w.heap.size], C.w.alloc (.cells vss.flatten.toArray e)⟩) (v := .slice (some ⟨C.w.heap.size, 0, none⟩) n n) ?_ hnew.1 hnew.2 ?_ hk
  ·simp only [execOp, ho, Sem.run_bind, hrun, Result.andThen_ok, Sem.run_pure]
  ·have hl := hi.len
   have hll' : ls.length = n := by omega
   rw [hll']
   exact .own C.σ.length 0 n n inf.size none _ n ⟨true, false, false, false, inf.size, ls.map fun x => (ρ x).cells, some 0⟩ C.w.heap.size (by simp) (by rw [← hl]; simp) (by rw [hlr]; exact Nat.le_refl _) (by omega) rfl (by simp) (Nat.le_refl _)
    (fun _ _ => ⟨⟨_, rfl, fun _ => by simp⟩, Nat.le_refl _, hml, by simp, vss.flatten.toArray, e, heap_alloc_new C.w _, by simp [hfl], fun _ => by simp [hfl]⟩) (fun _ h => by cases h)
 rw [if_pos hpts] at hk
 have hall : ∀ x ∈ ls, (ρ x).cells.length = inf.size ∧ (ρ x).ok = true ∧ (ρ x).pt = true := fun x hx => ⟨(hall0 x hx).1, (hall0 x hx).2, List.all_eq_true.1 hpts x hx⟩
 by_cases h0 : n = 0
 ·subst h0
  have e1 : ls = [] := List.eq_nil_of_length_eq_zero (by omega)
  subst e1
  have e2 : vss = [] := List.eq_nil_of_length_eq_zero (by omega)
  subst e2
  refine .mk (C' := { C with w := C.w.alloc (.cells ([] : List (List Value)).flatten.toArray e) }) (v := .slice (some ⟨C.w.heap.size, 0, none⟩) 0 0) ?_ hx.1 hx.2
   (.pure (.list (some false) true [] (some ⟨C.w.heap.size, 0, none⟩) 0 inf.size (fun _ _ => undef) (by simp) (by simp) (by simp) (by simp) (by simp) (by simp) (by simp) (by simp) (by simp))) hk
  have e3 : parts.map (fun (x : Nat × Operand) => (x.1, a.eval x.2)) = #[] := by
   apply Array.ext'; rw [Array.toList_map, List.eq_nil_of_length_eq_zero hlen]; rfl
  simp only [execOp, ho, Instr.buildSlice, Sem.run_bind, run_underlying hu, Result.andThen_ok, run_sizeOf' hinf, Nat.zero_mul, e3]
  simp [Instr.fill, newRow, go_sem]
 ·have hrun := run_buildSlice C.w t e n (parts.map fun (i, x) => (i, a.eval x)) vss.flatten.toArray inf z hu hinf hz (by omega) (by
   intro h; rcases Nat.mul_eq_zero.1 h with h | h <;> omega) hfill
  have hcell : ∀ (q : Nat) u, vss.flatten[q]? = some u → (C.w.alloc (.cells vss.flatten.toArray e)).cell? ⟨C.w.heap.size, q, none⟩ = some u := fun q u hq => by
   rw [cell_of_row _ C.w.heap.size q vss.flatten.toArray e (0, 0) (heap_alloc_new C.w _)]
   simpa using hq
  have hown : ∀ b, Ctx.owned { C with w := C.w.alloc (.cells vss.flatten.toArray e) } b → b < C.w.heap.size := by
   rintro b ⟨l, ob, h1, h2, h3, h4⟩
   exact hi.lt h1 h4 h2
  have hrows : (ls.map fun x => (ρ x).cells.map D.norm1).length = n := by simp; omega
  have row : ∀ (j i : Nat) r d, (ls.map fun x => (ρ x).cells.map D.norm1)[j]? = some r → r[i]? = some d → ∃ u d', vss.flatten[j * inf.size + i]? = some u ∧ Rep C d' u ∧ d = d'.norm1 ∧ d'.pt1 = true ∧ d'.one = true := fun j i r d hj hi' => by
   simp only [List.getElem?_map, Option.map_eq_some_iff] at hj
   obtain ⟨l, hl, rfl⟩ := hj
   simp only [List.getElem?_map, Option.map_eq_some_iff] at hi'
   obtain ⟨d', hd', rfl⟩ := hi'
   have hlt := (List.getElem?_eq_some_iff.1 hl).1
   have hvs : vss[j]? = some (vss[j]'(by omega)) := List.getElem?_eq_getElem (by omega)
   have hps : parts.toList[j]? = some (parts.toList[j]'(by omega)) := List.getElem?_eq_getElem (by omega)
   obtain ⟨_, g2, g3⟩ := hv j _ l _ hps hl hvs
   have hi2 := (List.getElem?_eq_some_iff.1 hd').1
   have hu' : (vss[j]'(by omega))[i]? = some ((vss[j]'(by omega))[i]'(by omega)) := List.getElem?_eq_getElem (by omega)
   obtain ⟨g4, g5, g6⟩ := hall l (List.mem_of_getElem? hl)
   have hm := List.mem_of_getElem? hd'
   refine ⟨_, d', ?_, g3 i d' _ hd' hu', rfl, ?_, ok_one g5 d' hm⟩
   ·rw [flatten_get inf.size vss j i _ hvsz hvs (by rw [g4] at hi2; exact hi2)]
    exact hu'
   ·cases hd : ρ l with
    | agg cs => rw [hd] at g6 hm; exact List.all_eq_true.1 g6 d' hm
    | _ => rw [hd] at g6 hm; simp [D.cells] at hm; subst hm; simpa [D.pt] using g6
  refine .mk (C' := { C with w := C.w.alloc (.cells vss.flatten.toArray e) }) (v := .slice (some ⟨C.w.heap.size, 0, none⟩) n n) ?_ hx.1 hx.2 ?_ hk
  ·simp only [execOp, ho, Sem.run_bind, hrun, Result.andThen_ok, Sem.run_pure]
  ·have := PRep.list (G := Ctx.good { C with w := C.w.alloc (.cells vss.flatten.toArray e) }) (w := C.w.alloc (.cells vss.flatten.toArray e)) (some false) true (ls.map fun x => (ρ x).cells.map D.norm1) (some ⟨C.w.heap.size, 0, none⟩) n inf.size
    (fun j i => (vss.flatten[j * inf.size + i]?).getD undef) (by simp) (by simp) (by omega) (by simp [hrows])
    (fun r hr' => by simp only [List.mem_map] at hr'; obtain ⟨l, hl, rfl⟩ := hr'; simpa using (hall l hl).1)
    (fun r hr' d hd => by
     obtain ⟨j, hj⟩ := List.getElem?_of_mem hr'
     obtain ⟨i, hi'⟩ := List.getElem?_of_mem hd
     obtain ⟨_, d', _, _, rfl, g, _⟩ := row j i r d hj hi'
     exact norm1_pt1 g)
    (fun ad had _ => by
     cases had
     exact ⟨by simp, fun hF => absurd (hi.F _ hF) (Nat.lt_irrefl _), fun h => absurd (hown _ h) (Nat.lt_irrefl _)⟩)
    (fun j i r d hj hi' => by
     obtain ⟨u, _, hu', _⟩ := row j i r d hj hi'
     refine ⟨_, rfl, ?_⟩
     rw [lit_add, Nat.zero_add, hcell _ u hu', hu']; rfl)
    (fun j i r d hj hi' => by
     obtain ⟨u, d', hu', hrep, rfl, g, _⟩ := row j i r d hj hi'
     rw [hu']
     exact ((hrep.ext hx.1).of_pt1 g).norm1)
   rw [hrows] at this
   exact .pure this
theorem news_of {nl : Option Bool} {tg : Bool} {new : List (List D)} {v : Value} (h : Rep C (.list nl tg new) v) {sz : Nat} (hsz : ∀ r ∈ new, r.length = sz) :
  (new = [] ∧ ∃ A c, v = .slice A 0 c) ∨ new ≠ [] ∧ ∃ (ad : Addr) (c : Nat) (news : List Value), v = .slice (some ad) new.length c ∧ news.length = new.length * sz ∧ (∀ (k : Nat) u, news[k]? = some u → C.w.cell? (ad.add k) = some u) ∧ (∀ u ∈ news, u.oneCell' = true) ∧
   (∀ (j i : Nat) r d, new[j]? = some r → r[i]? = some d → ∃ u, news[j * sz + i]? = some u ∧ Rep C d u) := by
 obtain ⟨A, cap, sz', hv, q1, q2, q3, q4, q5, q9, q6, q7⟩ := rep_list h
 by_cases hne : new = []
 ·subst hne; exact .inl ⟨rfl, A, cap, hv⟩
 ·refine .inr ⟨hne, ?_⟩
  have hs : sz' = sz := by
   obtain ⟨r, rs, rfl⟩ := List.exists_cons_of_ne_nil hne
   rw [← q5 r (by simp), hsz r (by simp)]
  subst hs
  cases A with
  | none =>
   have := q2 rfl
   have := List.length_pos_iff.2 hne
   omega
  | some ad =>
   have vals : ∃ vss : List (List Value), vss.length = new.length ∧ (∀ vs ∈ vss, vs.length = sz') ∧ ∀ (j i : Nat) r vs d u, new[j]? = some r → vss[j]? = some vs → r[i]? = some d → vs[i]? = some u → C.w.cell? (ad.add (j * sz' + i)) = some u ∧ Rep C d u := by
    refine ⟨(List.range new.length).map fun j => (List.range sz').map fun i => (C.w.cell? (ad.add (j * sz' + i))).getD undef, by simp, fun vs hvs => ?_, fun j i r vs d u hj hvs hi hu => ?_⟩
    ·simp only [List.mem_map] at hvs; obtain ⟨_, _, rfl⟩ := hvs; simp
    ·obtain ⟨ad', u', ha, hc, hrep⟩ := q7 j i r d hj hi
     cases ha
     have hjl := (List.getElem?_eq_some_iff.1 hj).1
     have hil : i < sz' := by rw [← q5 r (List.mem_of_getElem? hj)]; exact (List.getElem?_eq_some_iff.1 hi).1
     simp [hjl] at hvs
     subst hvs
     simp [hil, hc] at hu
     subst hu
     exact ⟨hc, .pure hrep⟩
   obtain ⟨vss, hl, hvsz, hval⟩ := vals
   have idx : ∀ (k : Nat) u, vss.flatten[k]? = some u → ∃ (j i : Nat) (r : List D) (vs : List Value) (d : D), k = j * sz' + i ∧ new[j]? = some r ∧ vss[j]? = some vs ∧ r[i]? = some d ∧ vs[i]? = some u := by
    intro k u hk
    have hkl := (List.getElem?_eq_some_iff.1 hk).1
    rw [flatten_length sz' vss hvsz] at hkl
    have hpos : 0 < sz' := by
     rcases Nat.eq_zero_or_pos sz' with h | h
     ·rw [h, Nat.mul_zero] at hkl; omega
     ·exact h
    have hj : k / sz' < vss.length := by rw [Nat.div_lt_iff_lt_mul hpos]; exact hkl
    have hi : k % sz' < sz' := Nat.mod_lt _ hpos
    have e : k = k / sz' * sz' + k % sz' := by rw [Nat.mul_comm]; exact (Nat.div_add_mod k sz').symm
    have hvs : vss[k / sz']? = some (vss[k / sz']) := List.getElem?_eq_getElem hj
    have hnew : new[k / sz']? = some (new[k / sz']'(by omega)) := List.getElem?_eq_getElem (by omega)
    have hrl : (new[k / sz']'(by omega)).length = sz' := q5 _ (List.mem_of_getElem? hnew)
    refine ⟨k / sz', k % sz', _, _, (new[k / sz']'(by omega))[k % sz']'(by omega), e, hnew, hvs, List.getElem?_eq_getElem _, ?_⟩
    rw [e, flatten_get sz' vss _ _ _ hvsz hvs hi] at hk
    exact hk
   refine ⟨ad, cap, vss.flatten, hv, by rw [flatten_length sz' vss hvsz, hl], fun k u hk => ?_, fun u hu => ?_, fun j i r d hj hi => ?_⟩
   ·obtain ⟨j, i, r, vs, d, e, h1, h2, h3, h4⟩ := idx k u hk
    rw [e]; exact (hval j i r vs d u h1 h2 h3 h4).1
   ·obtain ⟨k, hk⟩ := List.getElem?_of_mem hu
    obtain ⟨j, i, r, vs, d, e, h1, h2, h3, h4⟩ := idx k u hk
    exact (rep_one (hval j i r vs d u h1 h2 h3 h4).2 (pt1_one (q9 r (List.mem_of_getElem? h1) d (List.mem_of_getElem? h3)))).1
   ·have hjl := (List.getElem?_eq_some_iff.1 hj).1
    have hil : i < sz' := by rw [← q5 r (List.mem_of_getElem? hj)]; exact (List.getElem?_eq_some_iff.1 hi).1
    have hvs : vss[j]? = some (vss[j]'(by omega)) := List.getElem?_eq_getElem (by omega)
    have hvl := hvsz _ (List.mem_of_getElem? hvs)
    have hu : (vss[j]'(by omega))[i]? = some ((vss[j]'(by omega))[i]'(by omega)) := List.getElem?_eq_getElem (by omega)
    exact ⟨_, by rw [flatten_get sz' vss j i _ hvsz hvs hil]; exact hu, (hval j i r _ d _ hj hvs hi hu).2⟩
theorem rows_append {sz : Nat} {rows new : List (List D)} {olds news : List Value} {arr : Array Value} (hro : ∀ r ∈ rows, r.length = sz) (hno : ∀ r ∈ new, r.length = sz) (hlo : olds.length = rows.length * sz) (hln : news.length = new.length * sz)
  (ho : ∀ (j i : Nat) r d, rows[j]? = some r → r[i]? = some d → ∃ u, olds[j * sz + i]? = some u ∧ Rep C d u) (hn : ∀ (j i : Nat) r d, new[j]? = some r → r[i]? = some d → ∃ u, news[j * sz + i]? = some u ∧ Rep C d u)
  (harr : arr.toList.take ((rows.length + new.length) * sz) = olds ++ news) :
  ∀ (j i : Nat) r d, (rows ++ new)[j]? = some r → r[i]? = some d → ∃ u, arr[j * sz + i]? = some u ∧ Rep C d u := by
 intro j i r d hj hi
 have hjl := (List.getElem?_eq_some_iff.1 hj).1
 have hrl : r.length = sz := by
  rcases List.mem_append.1 (List.mem_of_getElem? hj) with h | h
  ·exact hro r h
  ·exact hno r h
 have hil : i < sz := by rw [← hrl]; exact (List.getElem?_eq_some_iff.1 hi).1
 have hlt : j * sz + i < (rows.length + new.length) * sz := mul_bound (by simpa using hjl) hil (Nat.le_refl _)
 have get : ∀ u, (olds ++ news)[j * sz + i]? = some u → arr[j * sz + i]? = some u := fun u hu => by
  rw [← harr, List.getElem?_take, if_pos hlt] at hu
  simpa using hu
 by_cases h1 : j < rows.length
 ·rw [List.getElem?_append_left h1] at hj
  obtain ⟨u, hu, hrep⟩ := ho j i r d hj hi
  refine ⟨u, get u ?_, hrep⟩
  rw [List.getElem?_append_left (List.getElem?_eq_some_iff.1 hu).1]; exact hu
 ·rw [List.getElem?_append_right (by omega)] at hj
  obtain ⟨u, hu, hrep⟩ := hn _ i r d hj hi
  refine ⟨u, get u ?_, hrep⟩
  have e : j * sz + i - olds.length = (j - rows.length) * sz + i := by
   rw [hlo, Nat.sub_mul]
   have : rows.length * sz ≤ j * sz := Nat.mul_le_mul_right _ (by omega)
   omega
  have : rows.length * sz ≤ j * sz := Nat.mul_le_mul_right _ (by omega)
  rw [List.getElem?_append_right (by omega), e]; exact hu
section
variable {t e : TypeId} {inf : TypeInfo} {z : Value} {s x : Value} {ty : TypeId}
end
end
end Go.Vi
