import Derived.Test.YtggchhmgeafoaaaVi6
import Derived.ArgAppend
set_option linter.unusedVariables false
set_option linter.unusedSimpArgs false
set_option linter.unnecessarySimpa false
namespace Go.Vi
open Go Go.RowKit
section
variable {P : Program} {o : Oper} {k : LK} {C : Ctx} {a : Act} {ρ : LO → D} {K : D → List Ob → Prop}
def loOpt : Option Operand → Option (Option LO)
 | none => some none
 | some x => (loOf x).map some
theorem bnd_read (hr : Reads C ρ a o) (hp : Plain ρ) {x : Option Operand} {l : Option LO} (hl : loOpt x = some l) (hm : ∀ y, x = some y → y ∈ o.op.operands) {z : Nat} {K : Int → Prop} (h : bnd (l.map ρ) z K) :
  ∃ n : Int, K n ∧ ((x.map a.eval = none ∧ n = z) ∨ ∃ k, x.map a.eval = some (.int k n)) := by
 cases x with
 | none =>
  simp [loOpt] at hl; subst hl
  exact ⟨z, h, .inl ⟨rfl, rfl⟩⟩
 | some y =>
  simp only [loOpt, Option.map_eq_some_iff] at hl
  obtain ⟨l', hl', rfl⟩ := hl
  have ry := hr.at hp hl' (hm y rfl)
  simp only [Option.map_some, bnd] at h
  split at h
  ·rename_i hx; cases hx
  ·rename_i k n hx
   simp only [Option.some.injEq] at hx
   rw [hx] at ry
   exact ⟨n, h, .inr ⟨k, by simp [rep_int ry]⟩⟩
  ·exact h.elim
theorem run_bounds {w : World} (isS : Bool) (len cap : Nat) {lo hi : Option Value} {l h : Int} (hlo : (lo = none ∧ l = (0 : Nat)) ∨ ∃ k, lo = some (.int k l)) (hhi : (hi = none ∧ h = len) ∨ ∃ k, hi = some (.int k h)) (h0 : 0 ≤ l) (h1 : l ≤ h) (h2 : h ≤ cap) :
  (Instr.sliceBounds isS len cap lo hi none).run P w = .ok (l.toNat, h.toNat, cap) w := by
 have eh : (h.toNat : Int) = h := Int.toNat_of_nonneg (by omega)
 rcases hlo with ⟨rfl, rfl⟩ | ⟨k, rfl⟩ <;> rcases hhi with ⟨rfl, rfl⟩ | ⟨k', rfl⟩
 ·simp [Instr.sliceBounds]
 ·simp only [Instr.sliceBounds, Sem.run_bind, Sem.run_pure, Result.andThen_ok, run_sliceBound w k' h cap _ (by omega) (by omega)]
  simp
 ·simp only [Instr.sliceBounds, Sem.run_bind, Sem.run_pure, Result.andThen_ok, run_sliceBound w k l len _ (by omega) (by omega)]
  simp
 ·simp only [Instr.sliceBounds, Sem.run_bind, Sem.run_pure, Result.andThen_ok, run_sliceBound w k' h cap _ (by omega) (by omega), run_sliceBound w k l h.toNat _ (by omega) (by omega)]
theorem run_bounds3 {w : World} (isS : Bool) (len cap : Nat) {lo : Option Value} {l h m : Int} {kh km : IntKind} (hlo : (lo = none ∧ l = (0 : Nat)) ∨ ∃ k, lo = some (.int k l)) (h0 : 0 ≤ l) (h1 : l ≤ h) (h2 : h ≤ m) (h3 : m ≤ cap) :
  (Instr.sliceBounds isS len cap lo (some (.int kh h)) (some (.int km m))).run P w = .ok (l.toNat, h.toNat, m.toNat) w := by
 rcases hlo with ⟨rfl, rfl⟩ | ⟨k, rfl⟩
 ·simp only [Instr.sliceBounds, Sem.run_bind, Sem.run_pure, Result.andThen_ok, run_sliceBound w km m cap _ (by omega) (by omega), run_sliceBound w kh h m.toNat _ (by omega) (by omega)]
  simp
 ·simp only [Instr.sliceBounds, Sem.run_bind, Sem.run_pure, Result.andThen_ok, run_sliceBound w km m cap _ (by omega) (by omega), run_sliceBound w kh h m.toNat _ (by omega) (by omega), run_sliceBound w k l h.toNat _ (by omega) (by omega)]
theorem list_slice {nl : Option Bool} {tg tg' : Bool} {rows : List (List D)} {A : Option Addr} {cap : Nat} {sz : Nat} (h : Rep C (.list nl tg rows) (.slice A rows.length cap)) (hrows : ∀ r ∈ rows, r.length = sz) {l m mx : Nat} (h1 : l ≤ m) (h2 : m ≤ mx) (h3 : mx ≤ cap) (h4 : m ≤ rows.length) (ht : tg' = true → m = mx) :
  Rep C (.list nl tg' ((rows.take m).drop l)) (.slice (if mx = l then A else A.map (·.add (l * sz))) (m - l) (mx - l)) := by
 obtain ⟨A', cap', sz', hv, q1, q2, q3, q4, q5, q9, q6, q7⟩ := rep_list h
 cases hv
 have hlen : ((rows.take m).drop l).length = m - l := by simp; omega
 have hres := PRep.list (G := C.good) (w := C.w) nl tg' ((rows.take m).drop l) (if mx = l then A else A.map (·.add (l * sz))) (mx - l) sz (fun j i => match (if mx = l then A else A.map (·.add (l * sz))) with | some ad => (C.w.cell? (ad.add (j * sz + i))).getD undef | none => undef)
   (fun b hb => ?_) (fun hA => ?_) (by rw [hlen]; omega) (fun h => by rw [hlen]; have := ht h; omega) (fun r hr => hrows r (List.mem_of_mem_take (List.mem_of_mem_drop hr))) (fun r hr => q9 r (List.mem_of_mem_take (List.mem_of_mem_drop hr))) (fun ad had hne => ?_) (fun j i r d hj hi => ?_) (fun j i r d hj hi => ?_)
 ·rw [hlen] at hres; exact .pure hres
 ·rw [q1 b hb]; split <;> simp
 ·have : A = none := by split at hA <;> simpa using hA
  have := q2 this; omega
 all_goals
  have hc : ¬ mx = l ∧ rows ≠ [] := by
   first
   | (have := List.length_pos_iff.2 hne; exact ⟨by omega, by rintro rfl; simp at hne⟩)
   | (have := (List.getElem?_eq_some_iff.1 hj).1; exact ⟨by omega, by rintro rfl; simp at hj⟩)
 ·rw [if_neg hc.1] at had
  simp only [Option.map_eq_some_iff] at had
  obtain ⟨ad', ha, rfl⟩ := had
  rw [add_block]; exact q6 ad' ha hc.2
 all_goals
  have hj' : rows[l + j]? = some r := by
   rw [List.getElem?_drop, List.getElem?_take] at hj
   split at hj
   ·exact hj
   ·cases hj
  have hsz : sz' = sz := by rw [← q5 r (List.mem_of_getElem? hj'), hrows r (List.mem_of_getElem? hj')]
  subst hsz
  obtain ⟨ad, v, ha, hcell, hrep⟩ := q7 _ i r d hj' hi
  have hadd : (ad.add (l * sz')).add (j * sz' + i) = ad.add ((l + j) * sz' + i) := by
   rw [add_add, Nat.add_mul, Nat.add_assoc]
 ·refine ⟨ad.add (l * sz'), by rw [if_neg hc.1, ha]; rfl, ?_⟩
  rw [if_neg hc.1, ha]
  simp only [Option.map_some, hadd, hcell, Option.getD_some]
 ·rw [if_neg hc.1, ha]
  simp only [Option.map_some, hadd, hcell, Option.getD_some]
  exact hrep
theorem own_slice {l' i k n sz : Nat} {cl cl' : Option Nat} {A : Option Addr} {cap : Nat} (h : Rep C (.own l' i k n sz cl) (.slice A k cap)) {l m mx : Nat} (h1 : l ≤ m) (h2 : m ≤ mx) (h3 : mx ≤ cap) (h4 : i + m ≤ n) (h5 : A = none → m = 0)
  (ht : (cl' = cl ∧ mx = cap) ∨ cl' = some (i + mx)) : Rep C (.own l' (i + l) (m - l) n sz cl') (.slice (if mx = l then A else A.map (·.add (l * sz))) (m - l) (mx - l)) := by
 obtain ⟨A', cap', ob, b, hv, q1, q2, q3, q3', q4, q5, q5', q6, q7⟩ := rep_own h
 cases hv
 refine .own l' (i + l) (m - l) n sz cl' _ _ ob b q1 q2 q3 (by omega) q4 (fun hA => ?_) (by omega) (fun e1 e2 => ?_) (fun e1 e2 => ?_)
 ·have : A = none := by split at hA <;> simpa using hA
  have := h5 this; omega
 ·obtain ⟨⟨ad, rfl, r1⟩, r2, r3, r4, arr, e, r5, r6, r7⟩ := q6 e1 e2
  refine ⟨?_, by omega, by omega, fun m' hm' => ?_, arr, e, r5, ?_, fun hcl => ?_⟩
  ·by_cases hc : mx = l
   ·rw [if_pos hc]; exact ⟨ad, rfl, fun h => by omega⟩
   ·rw [if_neg hc]
    refine ⟨_, rfl, fun _ => ?_⟩
    rw [r1 (by omega)]; show Addr.add _ _ = _; rw [lit_add, q4, Nat.add_mul]
  ·rcases ht with ⟨rfl, rfl⟩ | rfl
   ·have := r4 m' hm'; omega
   ·cases hm'; omega
  ·refine Nat.le_trans (Nat.mul_le_mul_right _ ?_) r6; omega
  ·rcases ht with ⟨rfl, rfl⟩ | rfl
   ·rw [r7 hcl]; congr 1; omega
   ·cases hcl
 ·obtain ⟨r1, r2, r3⟩ := q7 e1 e2
  refine ⟨by omega, by omega, ?_⟩
  have : mx = l := by omega
  rw [if_pos this]; exact r3
theorem sound_slice_str {t : TypeId} {x : Operand} {lo hi : Option Operand} {lx : LO} {llo lhi : Option LO} {sz : Nat} (ho : o.op = .slice t x lo hi none) (hu : P.underlying t = some .string) (hx : loOf x = some lx) (hlo : loOpt lo = some llo) (hhi : loOpt hi = some lhi) :
  Sound P o (.slice true sz lx llo lhi) := by
 intro dr C a ρ K hi' hp hr h
 have rx := hr.at hp hx (by simp [ho, Op.operands])
 simp only [LK.run] at h
 split at h
 ·rename_i s hρ
  rw [hρ] at rx
  obtain ⟨_, h⟩ := h
  obtain ⟨l, h, hl⟩ := bnd_read hr hp hlo (fun y hy => by subst hy; simp [ho, Op.operands]) h
  obtain ⟨m, h, hm⟩ := bnd_read hr hp hhi (fun y hy => by subst hy; simp [ho, Op.operands]) h
  obtain ⟨h0, h1, h2, hk⟩ := h
  refine .here (v := .string (s.extract l.toNat m.toNat)) hi' ?_ (.pure (.str _)) hk
  have hb := run_bounds (P := P) (w := C.w) false s.size s.size hl hm h0 h1 h2
  simp only [execOp, ho, rep_str rx, Instr.sliceAt, Instr.slice, Sem.run_bind, run_underlying hu, Result.andThen_ok, Option.map_none]
  simp [hb]
 ·exact absurd h.1 (by simp)
 ·exact absurd h.1 (by simp)
 ·exact h.elim
theorem sound_slice {t e : TypeId} {x : Operand} {lo hi : Option Operand} {inf : TypeInfo} {lx : LO} {llo lhi : Option LO} (ho : o.op = .slice t x lo hi none) (hu : P.underlying t = some (.slice e)) (hinf : P.info? e = some inf) (hx : loOf x = some lx)
  (hlo : loOpt lo = some llo) (hhi : loOpt hi = some lhi) : Sound P o (.slice false inf.size lx llo lhi) := by
 intro dr C a ρ K hi' hp hr h
 have rx := hr.at hp hx (by simp [ho, Op.operands])
 simp only [LK.run] at h
 split at h
 ·exact absurd h.1 (by simp)
 ·rename_i nl tg rows hρ
  rw [hρ] at rx
  obtain ⟨_, hpos, hrows, h⟩ := h
  obtain ⟨A, cap, sz, hv, q1, q2, q3, q4, q5, q9, q6, q7⟩ := rep_list rx
  obtain ⟨l, h, hl⟩ := bnd_read hr hp hlo (fun y hy => by subst hy; simp [ho, Op.operands]) h
  obtain ⟨m, h, hm⟩ := bnd_read hr hp hhi (fun y hy => by subst hy; simp [ho, Op.operands]) h
  obtain ⟨h0, h1, h2, hk⟩ := h
  have run : (execOp a.eval o).run P C.w = .ok (.value (.slice (if cap = l.toNat then A else A.map (·.add (l.toNat * inf.size))) (m.toNat - l.toNat) (cap - l.toNat))) C.w := by
   simp only [execOp, ho, hv, Instr.sliceAt, Instr.slice, Sem.run_bind, run_underlying hu, Result.andThen_ok, Option.map_none, run_bounds (P := P) true rows.length cap hl hm h0 h1 (by omega), run_sizeOf' hinf, Sem.run_pure]
  rw [hv] at rx
  exact .here hi' run (list_slice rx hrows (by omega) (by omega) (Nat.le_refl _) (by omega) (by simp)) hk
 ·rename_i l' i k n z cl hρ
  rw [hρ] at rx
  obtain ⟨_, rfl, h⟩ := h
  obtain ⟨A, cap, ob, b, hv, q1, q2, q3, q3', q4, q5, q5', q6, q7⟩ := rep_own rx
  obtain ⟨l, h, hl⟩ := bnd_read hr hp hlo (fun y hy => by subst hy; simp [ho, Op.operands]) h
  obtain ⟨m, h, hm⟩ := bnd_read hr hp hhi (fun y hy => by subst hy; simp [ho, Op.operands]) h
  obtain ⟨h0, h1, h⟩ := h
  have run : m ≤ cap → (execOp a.eval o).run P C.w = .ok (.value (.slice (if cap = l.toNat then A else A.map (·.add (l.toNat * inf.size))) (m.toNat - l.toNat) (cap - l.toNat))) C.w := fun hmc => by
   simp only [execOp, ho, hv, Instr.sliceAt, Instr.slice, Sem.run_bind, run_underlying hu, Result.andThen_ok, Option.map_none, run_bounds (P := P) true k cap hl hm h0 h1 hmc, run_sizeOf' hinf, Sem.run_pure]
  rw [hv] at rx
  rcases h with ⟨h2, hk⟩ | ⟨_, h2, hcl, h⟩
  ·exact .here hi' (run (by omega)) (own_slice rx (by omega) (by omega) (Nat.le_refl _) (by omega) (fun hA => by have := q5 hA; omega) (.inl ⟨rfl, rfl⟩)) hk
  ·split at h
   case h_2 => exact h.elim
   rename_i o' ho'
   rw [q1] at ho'; cases ho'
   obtain ⟨hn, hreal, h⟩ := h
   have hO := hi'.ob l' ob b q1 q2
   obtain ⟨⟨ad, rfl, r1⟩, r2, r3, r4, arr, e', r5, r6, r7⟩ := q6 hn hreal
   obtain ⟨hF, arr', e'', q, g1, g2, g3, g4, g5, g6⟩ := hO.block hreal
   rw [r5] at g1; cases g1
   have hpos := hO.pos
   have hq : i + cap = q := by
    have := r7 hcl
    rw [g2] at this
    exact (Nat.eq_of_mul_eq_mul_right hpos this).symm
   rcases h with ⟨h3, hk⟩ | ⟨hfz, h3, c, hc, h4, hk⟩
   ·exact .here hi' (run (by omega)) (own_slice rx (by omega) (by omega) (Nat.le_refl _) (by omega) (by simp) (.inl ⟨rfl, rfl⟩)) hk
   ·have hqc := g5 c hc
    have hlen : (ob.rows ++ List.replicate (i + m.toNat - n) (List.replicate inf.size D.undef)).length = i + m.toNat := by simp; omega
    have harr : ∀ (j i' : Nat) r d, (ob.rows ++ List.replicate (i + m.toNat - n) (List.replicate inf.size D.undef))[j]? = some r → r[i']? = some d → ∃ v, arr[j * ob.sz + i']? = some v ∧ Rep C d v := by
     intro j i' r d hj hi2
     by_cases hjn : j < ob.rows.length
     ·rw [List.getElem?_append_left hjn] at hj
      exact g6 j i' r d hj hi2
     ·have hjl := (List.getElem?_eq_some_iff.1 hj).1
      rw [hlen] at hjl
      rw [List.getElem?_append_right (by omega)] at hj
      simp only [List.getElem?_replicate] at hj
      split at hj
      ·cases hj
       simp only [List.getElem?_replicate] at hi2
       split at hi2
       ·cases hi2
        have hlt : j * ob.sz + i' < arr.size := by
         rw [g2]
         calc j * ob.sz + i' < j * ob.sz + ob.sz := by omega
          _ = (j + 1) * ob.sz := by rw [Nat.add_mul, Nat.one_mul]
          _ ≤ q * ob.sz := Nat.mul_le_mul_right _ (by omega)
        exact ⟨arr[j * ob.sz + i'], by simp [hlt], .undef _⟩
       ·cases hi2
      ·cases hj
    let ob2 : Ob := { ob with pure := false, rows := ob.rows ++ List.replicate (i + m.toNat - n) (List.replicate inf.size D.undef), spare := some (n + c - (i + m.toNat)) }
    obtain ⟨hx', hi2⟩ := turnOb hi' q1 q2 ob2 b (w' := C.w) ⟨rfl, rfl, rfl⟩ (Nat.le_refl _) (fun _ _ _ => rfl) hfz hfz rfl
     (fun r hr => by
      rcases List.mem_append.1 hr with h | h
      ·exact hO.sz r h
      ·rw [List.eq_of_mem_replicate h, List.length_replicate]; exact q4.symm) (fun r hr d hd => by
      rcases List.mem_append.1 hr with h | h
      ·exact hO.one r h d hd
      ·rw [List.eq_of_mem_replicate h] at hd
       rw [List.eq_of_mem_replicate hd]; rfl) (fun h => by rw [hreal] at h; cases h) (fun h => by cases h) (by show _ ≤ ob2.rows.length; rw [show ob2.rows.length = _ from hlen]; omega)
     (fun he => by rw [show ob2.rows.length = _ from hlen] at he; omega) (fun _ => .inl ⟨hreal, rfl⟩) (fun _ arr e h => ⟨arr, h, rfl⟩)
     (fun _ => ⟨arr, e', q, r5, g2, by rw [show ob2.rows.length = _ from hlen]; omega, g4, fun c' hc' => by cases hc'; rw [show ob2.rows.length = _ from hlen]; omega, harr⟩)
    refine .mk (C' := ⟨C.F, C.σ.set l' ob2, C.bs.set l' b, C.w⟩) (run (by omega)) hx' hi2 (.own l' (i + l.toNat) (m.toNat - l.toNat) (i + m.toNat) inf.size cl _ _ ob2 b (List.getElem?_set_self (List.getElem?_eq_some_iff.1 q1).1) (List.getElem?_set_self (List.getElem?_eq_some_iff.1 q2).1) (by show _ ≤ List.length _; rw [hlen]; exact Nat.le_refl _) (by omega) q4 ?_ (by omega) (fun _ _ => ?_) (fun _ h => by rw [show ob2.real = ob.real from rfl, hreal] at h; cases h)) hk
    ·intro hA; split at hA <;> simp at hA
    ·refine ⟨?_, by omega, by omega, (fun m' hm' => by rw [hcl] at hm'; cases hm'), arr, e', r5, ?_, fun _ => ?_⟩
     ·by_cases hc : cap = l.toNat
      ·rw [if_pos hc]; exact ⟨ad, rfl, fun h => by omega⟩
      ·rw [if_neg hc]
       refine ⟨_, rfl, fun _ => ?_⟩
       rw [r1 (by omega)]; show Addr.add _ _ = Addr.mk b ((i + l.toNat) * ob.sz) none; rw [lit_add, ← q4, Nat.add_mul]
     ·refine Nat.le_trans (Nat.mul_le_mul_right _ ?_) r6; omega
     ·rw [r7 hcl]; congr 1; omega
 ·exact h.elim
theorem sound_slice3 {t e : TypeId} {x hh mm : Operand} {lo : Option Operand} {inf : TypeInfo} {lx lh lm : LO} {llo : Option LO} (ho : o.op = .slice t x lo (some hh) (some mm)) (hu : P.underlying t = some (.slice e)) (hinf : P.info? e = some inf) (hx : loOf x = some lx)
  (hlo : loOpt lo = some llo) (hhh : loOf hh = some lh) (hmm : loOf mm = some lm) : Sound P o (.slice3 inf.size lx llo lh lm) := by
 intro dr C a ρ K hi' hp hr h
 have rx := hr.at hp hx (by simp [ho, Op.operands])
 have rh := hr.at hp hhh (by simp [ho, Op.operands])
 have rm := hr.at hp hmm (by simp [ho, Op.operands])
 have num : ∀ {d : D} {v : Value} {z : Nat} {K' : Int → Prop}, Rep C d v → bnd (some d) z K' → ∃ (n : Int) (k : IntKind), K' n ∧ v = .int k n := by
  intro d v z K' hrep hb
  simp only [bnd] at hb
  split at hb
  ·rename_i hq; cases hq
  ·rename_i k n hq
   cases hq
   exact ⟨n, k, hb, rep_int hrep⟩
  ·exact hb.elim
 simp only [LK.run] at h
 split at h
 ·rename_i nl tg rows hρ
  rw [hρ] at rx
  obtain ⟨hpos, hrows, h⟩ := h
  obtain ⟨A, cap, sz, hv, q1, q2, q3, q4, q5, q9, q6, q7⟩ := rep_list rx
  obtain ⟨l, h, hl⟩ := bnd_read hr hp hlo (fun y hy => by subst hy; simp [ho, Op.operands]) h
  obtain ⟨m, kh, h, hm⟩ := num rh h
  obtain ⟨mx, km, h, hmx⟩ := num rm h
  obtain ⟨h0, h1, h2, h3, hk⟩ := h
  have run : (execOp a.eval o).run P C.w = .ok (.value (.slice (if mx.toNat = l.toNat then A else A.map (·.add (l.toNat * inf.size))) (m.toNat - l.toNat) (mx.toNat - l.toNat))) C.w := by
   simp only [execOp, ho, hv, Instr.sliceAt, Instr.slice, Sem.run_bind, run_underlying hu, Result.andThen_ok, Option.map_some, hm, hmx, run_bounds3 (P := P) true rows.length cap hl h0 h1 h2 (by omega), run_sizeOf' hinf, Sem.run_pure]
  rw [hv] at rx
  exact .here hi' run (list_slice rx hrows (by omega) (by omega) (by omega) (by omega) (fun h => by simp at h; omega)) hk
 ·rename_i l' i k n z cl hρ
  rw [hρ] at rx
  obtain ⟨rfl, h⟩ := h
  obtain ⟨A, cap, ob, b, hv, p1, p2, p3, p3', p4, p5, p5', p6, p7⟩ := rep_own rx
  obtain ⟨l, h, hl⟩ := bnd_read hr hp hlo (fun y hy => by subst hy; simp [ho, Op.operands]) h
  obtain ⟨m, kh, h, hm⟩ := num rh h
  obtain ⟨mx, km, h, hmx⟩ := num rm h
  obtain ⟨h0, h1, h2, h3, hk⟩ := h
  have run : (execOp a.eval o).run P C.w = .ok (.value (.slice (if mx.toNat = l.toNat then A else A.map (·.add (l.toNat * inf.size))) (m.toNat - l.toNat) (mx.toNat - l.toNat))) C.w := by
   simp only [execOp, ho, hv, Instr.sliceAt, Instr.slice, Sem.run_bind, run_underlying hu, Result.andThen_ok, Option.map_some, hm, hmx, run_bounds3 (P := P) true k cap hl h0 h1 h2 (by omega), run_sizeOf' hinf, Sem.run_pure]
  rw [hv] at rx
  exact .here hi' run (own_slice rx (by omega) (by omega) (by omega) (by omega) (fun hA => by have := p5 hA; omega) (.inr rfl)) hk
 ·exact h.elim
theorem rep_one {d : D} {v : Value} (h : Rep C d v) (hd : d.one = true) : v.oneCell' = true ∧ v.cells = #[v] ∧ d.cells = [d] := by
 cases h with
 | pure h => cases h <;> first | (refine ⟨rfl, rfl, rfl⟩; done) | (obtain ⟨g, b, c, e⟩ := fnV_func _ _; rw [e]; exact ⟨rfl, rfl, rfl⟩) | (simp [D.one] at hd; done)
 | undef v => simp [D.one] at hd
 | ptr => exact ⟨rfl, rfl, rfl⟩
 | own => exact ⟨rfl, rfl, rfl⟩
 | agg => simp [D.one] at hd
 | tup => simp [D.one] at hd
 | fn => obtain ⟨g, b, c, e⟩ := fnV_func _ _; rw [e]; exact ⟨rfl, rfl, rfl⟩
theorem rep_cells {d : D} {v : Value} (h : Rep C d v) (hd : d.ok = true) : ∃ vs : List Value, v.cells = vs.toArray ∧ d.cells.length = vs.length ∧ (∀ (i : Nat) d' v', d.cells[i]? = some d' → vs[i]? = some v' → Rep C d' v') ∧ (∀ u ∈ vs, u.oneCell' = true) := by
 by_cases h1 : d.one = true
 ·obtain ⟨ho, hc, hdc⟩ := rep_one h h1
  refine ⟨[v], by rw [hc], by rw [hdc]; rfl, fun i d' v' hi hv => ?_, by simpa using ho⟩
  rw [hdc] at hi
  cases i with
  | zero => simp at hi hv; subst hi; subst hv; exact h
  | succ i => simp at hi
 ·cases d with
  | agg cs =>
   obtain ⟨vs, rfl, hl, hr⟩ := rep_agg h
   refine ⟨vs, rfl, hl, hr, fun u hu => ?_⟩
   obtain ⟨i, hi⟩ := List.getElem?_of_mem hu
   have hlt : i < cs.length := by rw [hl]; exact (List.getElem?_eq_some_iff.1 hi).1
   have hci : cs[i]? = some cs[i] := List.getElem?_eq_getElem hlt
   simp only [D.ok, List.all_eq_true] at hd
   exact (rep_one (hr i _ _ hci hi) (hd _ (List.mem_of_getElem? hci))).1
  | _ => simp_all [D.ok]
theorem foldl_set (off : Nat) : ∀ (us : List Value) (cs : Array Value) (m : Nat), off + m + us.length ≤ cs.size →
  ((us.zipIdx m).foldl (fun cs (x : Value × Nat) => cs.setIfInBounds (off + x.2) x.1) cs).toList = cs.toList.take (off + m) ++ us ++ cs.toList.drop (off + m + us.length)
 | [], cs, m, _ => by simp
 | u :: us, cs, m, h => by
  simp only [List.length_cons] at h
  rw [List.zipIdx_cons, List.foldl_cons, foldl_set off us _ (m + 1) (by simp; omega)]
  have hlt : off + m < cs.toList.length := by simp; omega
  have h2 : off + (m + 1) = off + m + 1 := by omega
  rw [h2]
  simp only [Array.toList_setIfInBounds]
  rw [List.drop_set_of_lt (by omega), List.take_set, List.length_cons, show off + m + (us.length + 1) = off + m + 1 + us.length by omega]
  congr 1
  rw [List.take_succ_eq_append_getElem hlt, List.set_append_right _ _ (by simp; omega)]
  simp [Nat.min_eq_left (show off + m ≤ cs.size by omega)]
def RowRep (C : Ctx) (ds : List D) (vs : List Value) : Prop := ds.length = vs.length ∧ ∀ (i : Nat) d v, ds[i]? = some d → vs[i]? = some v → Rep C d v
theorem RowRep.splice {ds : List D} {vs : List Value} {off : Nat} {ds' : List D} {vs' : List Value} (h : RowRep C ds vs) (h' : RowRep C ds' vs') (hle : off + ds'.length ≤ ds.length) :
  RowRep C (splice ds off ds') (vs.take off ++ vs' ++ vs.drop (off + vs'.length)) := by
 obtain ⟨hl, hr⟩ := h
 obtain ⟨hl', hr'⟩ := h'
 unfold Vi.splice
 refine ⟨by simp [hl, hl'], fun i d v hd hv => ?_⟩
 rw [List.append_assoc] at hd hv
 by_cases h1 : i < off
 ·rw [List.getElem?_append_left (by simp; omega), List.getElem?_take, if_pos h1] at hd hv
  exact hr i d v hd hv
 ·rw [List.getElem?_append_right (by simp; omega)] at hd hv
  rw [List.length_take, Nat.min_eq_left (by omega)] at hd hv
  by_cases h2 : i - off < ds'.length
  ·rw [List.getElem?_append_left (by omega)] at hd hv
   exact hr' _ d v hd hv
  ·rw [List.getElem?_append_right (by omega), List.getElem?_drop] at hd hv
   rw [hl'] at hd
   exact hr _ d v hd hv
theorem fill_rep {place : Nat → Option (Nat × Nat)} (hr : Reads C ρ a o) (hp : Plain ρ) : ∀ (ps : List (Nat × Operand)) (qs : List (Nat × Nat × LO)) (zs ds : List D) (vs : List Value),
  (∀ p ∈ ps, p.2 ∈ o.op.operands) → ps.length = qs.length → (∀ (i : Nat) p q, ps[i]? = some p → qs[i]? = some q → place p.1 = some (q.1, q.2.1) ∧ loOf p.2 = some q.2.2) → RowRep C zs vs → fillD ρ zs qs = some ds →
  ∃ us : List Value, Instr.fill place vs.toArray (ps.map fun p => (p.1, a.eval p.2)) = some us.toArray ∧ RowRep C ds us
 | [], qs, zs, ds, vs, hm, hl, hq, hz, hf => by
  have : qs = [] := List.eq_nil_of_length_eq_zero (by simpa using hl.symm)
  subst this
  simp [fillD] at hf; subst hf
  exact ⟨vs, by simp [Instr.fill], hz⟩
 | p :: ps, [], zs, ds, vs, hm, hl, hq, hz, hf => by simp at hl
 | p :: ps, q :: qs, zs, ds, vs, hm, hl, hq, hz, hf => by
  obtain ⟨hpl, hlo⟩ := hq 0 p q rfl rfl
  obtain ⟨off, n, x⟩ := q
  simp only [fillD] at hf
  split at hf
  ·rename_i hc
   obtain ⟨hok, hn, hle⟩ := hc
   have rx := hr.at hp hlo (hm p (by simp))
   obtain ⟨us, hus, hul, hur, _⟩ := rep_cells rx hok
   have hcs : off + us.length ≤ vs.length := by rw [← hul, hn, ← hz.1]; exact hle
   have := fill_rep hr hp ps qs _ ds _ (fun p hp => hm p (by simp [hp])) (by simpa using hl) (fun i p q h1 h2 => hq (i + 1) p q (by simpa using h1) (by simpa using h2)) (hz.splice ⟨hul, hur⟩ (by rw [hn]; exact hle)) hf
   obtain ⟨ws, hws, hwr⟩ := this
   refine ⟨ws, ?_, hwr⟩
   rw [List.map_cons]
   simp only [Instr.fill, hpl, hus]
   have hns : us.length = n := by rw [← hul, hn]
   have h1 : ¬ (us.toArray.size ≠ n ∨ off + us.toArray.size > vs.toArray.size) := by simp [hns]; omega
   rw [if_neg (by simpa using h1)]
   rw [← hws]
   congr 1
   apply Array.ext'
   rw [← Array.foldl_toList]
   have := foldl_set off us vs.toArray 0 (by simpa using hcs)
   simp only [Nat.add_zero] at this
   simpa using this
  ·cases hf
end
end Go.Vi
