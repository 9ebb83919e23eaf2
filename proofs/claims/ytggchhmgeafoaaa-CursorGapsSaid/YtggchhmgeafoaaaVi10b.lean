import Derived.Test.YtggchhmgeafoaaaVi10a
set_option linter.unusedVariables false
set_option linter.unusedSimpArgs false
set_option linter.unnecessarySimpa false
namespace Go.Vi
open Go Go.RowKit
section
variable {P : Program} {o : Oper} {k : LK} {C : Ctx} {a : Act} {ρ : LO → D} {K : D → List Ob → Prop}
theorem sound_app {c : Call} {t u e : TypeId} {s x : Operand} {inf : TypeInfo} {z : Value} {ls lx : LO} (ho : o.op = .call c) (hc : c.callee = .builtin .append) (hargs : c.args.toList = [s, x]) (hts : c.argTypes = #[t, u])
  (ht : P.underlying t = some (.slice e)) (hu : ∃ d, P.underlying u = some d ∧ ∀ k, d ≠ .int k) (hinf : P.info? e = some inf) (hz : inf.zero = some z) (hzs : z.cells.size = inf.size) (hs : loOf s = some ls) (hx : loOf x = some lx) : Sound P o (.app inf.size inf.bytes ls lx) := by
 intro dr C a ρ K hi hp hr h
 have rs := hr.at hp hs (mem_args ho hargs (by simp))
 have rx := hr.at hp hx (mem_args ho hargs (by simp))
 have run : ∀ r w', ((Builtin.append_ #[t, u] o.type #[a.eval s, a.eval x]).run P C.w = .ok r w') → (execOp a.eval o).run P C.w = .ok (.value r) w' := fun r w' h =>
  run_builtin (s := Builtin.append_ c.argTypes o.type) ho hc hargs (fun _ _ => rfl) (by rw [hts]; simpa using h)
 simp only [LK.run] at h
 split at h
 case h_2 => exact h.elim
 rename_i new pu hn
 obtain ⟨news, s1, s2, s3, s4, s5, s6, s7⟩ := src_of (P := P) hi rx hn h.2.1 h.1
 exact app_core hzs hi rs (srcR_src ht hinf hz hu s1 (fun w' hw => by have := s2 w' hw new.length (Nat.le_refl _); rwa [← s3, List.take_length] at this) s3 s4) run s5 s6 s7 h
theorem zeros_get {z : Value} {zs : List D} {m : Nat} (hzs : ofVals z.cells.toList = some zs) : (Builtin.zeroCells z.cells m).toList.length = m * z.cells.size ∧ (∀ x ∈ (Builtin.zeroCells z.cells m).toList, x.oneCell' = true) ∧
  ∀ (j i : Nat) r d, (List.replicate m zs)[j]? = some r → r[i]? = some d → ∃ x, (Builtin.zeroCells z.cells m).toList[j * z.cells.size + i]? = some x ∧ Rep C d x := by
 obtain ⟨hl, hx⟩ := ofVals_rep hzs
 have hl' : zs.length = z.cells.size := by simpa using hl
 have one : ∀ (i : Nat) x, z.cells[i]? = some x → x.oneCell' = true := fun i x hi => by
  have hlt : i < zs.length := by rw [hl']; exact (Array.getElem?_eq_some_iff.1 hi).1
  have hd := List.getElem?_eq_getElem hlt
  have h1 := hx i _ x hd (by rw [Array.getElem?_toList]; exact hi)
  exact (rep_one (C := ⟨fun _ => False, [], [], default⟩) (.pure (ofVal1_rep h1 _ _)) (ofVals_one hzs _ (List.mem_of_getElem? hd))).1
 have get : ∀ q, q < m * z.cells.size → (Builtin.zeroCells z.cells m).toList[q]? = z.cells[q % z.cells.size]? := fun q hq => by
  have hpos : 0 < z.cells.size := by
   rcases Nat.eq_zero_or_pos z.cells.size with h | h
   ·rw [h, Nat.mul_zero] at hq; omega
   ·exact h
  have hlt : q % z.cells.size < z.cells.size := Nat.mod_lt _ hpos
  simp [Builtin.zeroCells, hq, hlt]
 have len : (Builtin.zeroCells z.cells m).toList.length = m * z.cells.size := by simp [size_zeroCells]
 refine ⟨len, fun x hxm => ?_, fun j i r d hj hi => ?_⟩
 ·obtain ⟨q, hq⟩ := List.getElem?_of_mem hxm
  have hql := (List.getElem?_eq_some_iff.1 hq).1
  rw [len] at hql
  rw [get q hql] at hq
  exact one _ x hq
 ·simp only [List.getElem?_replicate] at hj
  split at hj
  ·cases hj
   have hil := (List.getElem?_eq_some_iff.1 hi).1
   rw [hl'] at hil
   have hb : j * z.cells.size + i < m * z.cells.size := mul_bound (by assumption) hil (Nat.le_refl _)
   have hz : z.cells[i]? = some z.cells[i] := Array.getElem?_eq_getElem hil
   refine ⟨z.cells[i], ?_, .pure (ofVal1_rep (hx i d _ hi (by rw [Array.getElem?_toList]; exact hz)) _ _)⟩
   rw [get _ hb, Nat.mul_add_mod_of_lt' hil, hz]
  ·cases hj
where
 Nat.mul_add_mod_of_lt' {j s i : Nat} (h : i < s) : (j * s + i) % s = i := by
  rw [Nat.mul_comm, Nat.mul_add_mod, Nat.mod_eq_of_lt h]
theorem sound_appz {c : Call} {t u e : TypeId} {s x : Operand} {inf : TypeInfo} {z : Value} {zs : List D} {kk : IntKind} {ls lx : LO} (ho : o.op = .call c) (hc : c.callee = .builtin .append) (hargs : c.args.toList = [s, x]) (hts : c.argTypes = #[t, u])
  (ht : P.underlying t = some (.slice e)) (hu : P.underlying u = some (.int kk)) (hinf : P.info? e = some inf) (hz : inf.zero = some z) (hzs : z.cells.size = inf.size) (hzd : ofVals z.cells.toList = some zs) (hs : loOf s = some ls) (hx : loOf x = some lx) :
  Sound P o (.appz inf.size inf.bytes zs ls lx) := by
 intro dr C a ρ K hi hp hr h
 have rs := hr.at hp hs (mem_args ho hargs (by simp))
 have rx := hr.at hp hx (mem_args ho hargs (by simp))
 have run : ∀ r w', ((Builtin.append_ #[t, u] o.type #[a.eval s, a.eval x]).run P C.w = .ok r w') → (execOp a.eval o).run P C.w = .ok (.value r) w' := fun r w' h =>
  run_builtin (s := Builtin.append_ c.argTypes o.type) ho hc hargs (fun _ _ => rfl) (by rw [hts]; simpa using h)
 simp only [LK.run] at h
 split at h
 case h_2 => exact h.elim
 rename_i kq n hn
 obtain ⟨⟨rfl, hzl, h0, h47, h63⟩, h⟩ := h
 rw [hn] at rx
 have hv := rep_int rx
 obtain ⟨m, rfl⟩ : ∃ m : Nat, n = m := ⟨n.toNat, by omega⟩
 simp only [Int.toNat_natCast] at h
 obtain ⟨g1, g2, g3⟩ := zeros_get (C := C) (m := m) hzd
 have hS := srcR_zeros (P := P) (w := C.w) (m := m) ht hinf hz hu hzs h.2.1 (by omega) (by rw [← Int.natCast_mul] at h47; omega) g2
 have hlr : (List.replicate m zs).length = m := by simp
 rw [hv] at run
 have hone : ∀ r ∈ List.replicate m zs, ∀ d ∈ r, d.one = true := fun r hr d hd => by
  rw [List.eq_of_mem_replicate hr] at hd; exact ofVals_one hzd d hd
 refine app_core (news := (Builtin.zeroCells z.cells m).toList) hzs hi rs (by rw [hlr]; exact hS) run (fun j i r d hj hi' => ?_) hone (fun hpu r hr d hd => ?_) h
 ·rw [← hzs]; exact g3 j i r d hj hi'
 ·rw [List.eq_of_mem_replicate hr] at hd; exact List.all_eq_true.1 hpu d hd
theorem same_ob (hi : Inv C) {l : Nat} {ob : Ob} {b : Nat} (hob : C.σ[l]? = some ob) (hb : C.bs[l]? = some b) (hfz : ob.fz = false) (ob' : Ob) (hr : ob'.rows = ob.rows) (h1 : ob'.real = ob.real) (h2 : ob'.nl = ob.nl) (h3 : ob'.sz = ob.sz) (h4 : ob'.fz = ob.fz) (h5 : ob'.pure = true → ob.pure = true)
  (h6 : ∀ c, ob'.spare = some c → ob.spare = some c ∨ ∀ q arr e, ob.real = true → C.w.heap[b]? = some (.cells arr e (0, 0)) → arr.size = q * ob.sz → q = ob.rows.length + c) :
  Ext C ⟨C.F, C.σ.set l ob', C.bs.set l b, C.w⟩ ∧ Inv ⟨C.F, C.σ.set l ob', C.bs.set l b, C.w⟩ := by
 have hO := hi.ob l ob b hob hb
 refine turnOb hi hob hb ob' b (w' := C.w) ⟨rfl, rfl, rfl⟩ (Nat.le_refl _) (fun _ _ _ => rfl) hfz (h4.trans hfz) h3 (by rw [hr, h3]; exact hO.sz) (by rw [hr]; exact hO.one) (by rw [hr, h1]; exact hO.rows)
  (fun hp => by rw [hr]; exact hO.pure (h5 hp)) (by rw [hr]; exact Nat.le_refl _) (fun _ => ⟨rfl, h1, h2⟩) (fun hq => .inl ⟨h1 ▸ hq, rfl⟩) (fun _ arr e h => ⟨arr, h, rfl⟩) (fun hreal => ?_)
 rw [h1] at hreal
 obtain ⟨hF, arr0, e0, q, g1, g2, g3, g4, g5, g6⟩ := hO.block hreal
 rw [hr, h3]
 exact ⟨arr0, e0, q, g1, g2, g3, g4, fun c hc => (h6 c hc).elim (g5 c) (fun h => h q arr0 e0 hreal g1 g2), g6⟩
theorem sound_cap {c : Call} {t e : TypeId} {x : Operand} {lx : LO} (ho : o.op = .call c) (hc : c.callee = .builtin .cap) (hargs : c.args.toList = [x]) (hts : c.argTypes[0]? = some t) (hu : P.underlying t = some (.slice e)) (hx : loOf x = some lx) : Sound P o (.cap lx) := by
 intro dr C a ρ K hi hp hr h
 have rx := hr.at hp hx (mem_args ho hargs (by simp))
 have run : ∀ A n cp, a.eval x = .slice A n cp → (execOp a.eval o).run P C.w = .ok (.value (.int .i64 cp)) C.w := fun A n cp hv =>
  run_builtin (s := Builtin.cap_ c.argTypes o.type) ho hc hargs (fun _ _ => rfl) (by simp [Builtin.cap_, hts, run_underlying hu, goInt, hv])
 simp only [LK.run] at h
 obtain ⟨_, h⟩ := h
 split at h
 case h_2 => exact h.elim
 rename_i l i k n z cl hρ
 rw [hρ] at rx
 obtain ⟨A, cap, ob, b, hv, q1, q2, q3, q3', q4, q5, q5', q6, q7⟩ := rep_own rx
 split at h
 case h_2 => exact h.elim
 rename_i ob' hob
 rw [q1] at hob; cases hob
 obtain ⟨hn, h⟩ := h
 have hO := hi.ob l ob b q1 q2
 split at h
 ·rename_i m
  obtain ⟨_, _, _, r4, _⟩ := q6 hn h.1
  have := r4 m rfl
  have hk := h.2
  rw [show m - i = cap by omega] at hk
  exact .here hi (run A k cap hv) (.pure (.int _ _)) hk
 ·split at h
  ·rename_i hreal
   obtain ⟨_, r2, r3, r4, arr, e', r5, r6, r7⟩ := q6 hn hreal
   obtain ⟨hF, arr0, e0, q, g1, g2, g3, g4, g5, g6⟩ := hO.block hreal
   rw [r5] at g1; cases g1
   have hicq : i + cap = q := by
    have := r7 rfl
    rw [g2] at this
    exact (Nat.eq_of_mul_eq_mul_right hO.pos this).symm
   split at h
   ·rename_i cc hcc
    have := g5 cc hcc
    rw [show n + cc - i = cap by omega] at h
    exact .here hi (run A k cap hv) (.pure (.int _ _)) h
   ·rename_i hnone
    obtain ⟨q', hq'⟩ : ∃ q', q = n + q' := ⟨q - n, by omega⟩
    have hk := h.2 q' (by simp only [maxLen] at g4; omega)
    rw [show n + q' - i = cap by omega] at hk
    obtain ⟨hx', hi'⟩ := same_ob hi q1 q2 h.1 { ob with spare := some q' } rfl rfl rfl rfl rfl (fun h => h) (fun c hc => .inr fun q'' arr e hreal w1 w2 => by
     cases hc
     rw [r5] at w1; cases w1
     have := Nat.eq_of_mul_eq_mul_right hO.pos (w2.symm.trans g2)
     omega)
    exact .mk (C' := ⟨C.F, C.σ.set l { ob with spare := some q' }, C.bs.set l b, C.w⟩) (run A k cap hv) hx' hi' (.pure (.int _ _)) hk
  ·rename_i hreal
   obtain ⟨_, r2, _⟩ := q7 hn (by simpa using hreal)
   subst r2
   exact .here hi (run A k 0 hv) (.pure (.int _ _)) h
theorem sound_copy {c : Call} {t e : TypeId} {s x : Operand} {inf : TypeInfo} {ls lx : LO} (ho : o.op = .call c) (hc : c.callee = .builtin .copy) (hargs : c.args.toList = [s, x]) (hts : c.argTypes[0]? = some t)
  (ht : P.underlying t = some (.slice e)) (hinf : P.info? e = some inf) (hpos : 0 < inf.size) (hs : loOf s = some ls) (hx : loOf x = some lx) : Sound P o (.copy inf.size ls lx) := by
 intro dr C a ρ K hi hp hr h
 have rs := hr.at hp hs (mem_args ho hargs (by simp))
 have rx := hr.at hp hx (mem_args ho hargs (by simp))
 have run : ∀ r w', ((Builtin.copy_ c.argTypes o.type #[a.eval s, a.eval x]).run P C.w = .ok r w') → (execOp a.eval o).run P C.w = .ok (.value r) w' := fun r w' h =>
  run_builtin (s := Builtin.copy_ c.argTypes o.type) ho hc hargs (fun _ _ => rfl) (by simpa using h)
 simp only [LK.run] at h
 split at h
 case h_2 => exact h.elim
 rename_i new pu hn
 obtain ⟨hnsz, h⟩ := h
 obtain ⟨news, s1, s2, s3, s5, s6, s7⟩ := src_ofC (P := P) hi rx hn hpos hnsz
 split at h
 ·rename_i l i k n z cl hρ
  rw [hρ] at rs
  obtain ⟨rfl, h⟩ := h
  obtain ⟨A, cap, ob, b, hv, q1, q2, q3, q3', q4, q5, q5', q6, q7⟩ := rep_own rs
  split at h
  case h_2 => exact h.elim
  rename_i ob' hob
  rw [q1] at hob; cases hob
  obtain ⟨hn', hfz, honeB, hk⟩ := h
  have hone : ∀ r ∈ new.take k, ∀ d ∈ r, d.one = true := fun r hr d hd => by
   rcases Bool.or_eq_true _ _ |>.mp honeB with hp | hp
   ·exact pt1_one (s7 hp r (List.mem_of_mem_take hr) d hd)
   ·exact List.all_eq_true.1 (List.all_eq_true.1 hp r hr) d hd
  have hO := hi.ob l ob b q1 q2
  have hlen : (new.take k).length = min new.length k := by simp; omega
  have hput : putR ob.rows i (new.take k) = ob.rows.take i ++ new.take k ++ ob.rows.drop (i + min new.length k) := by unfold putR; rw [hlen]
  rw [← hput] at hk
  have hm : min new.length k ≤ new.length := Nat.min_le_left _ _
  have hcells := s2 C.w rfl (Nat.min new.length k) hm
  have hrun : ∀ w', (match A with | some ad => (storeCells ad (news.take (min new.length k * inf.size))) | none => pure ()).run P C.w = .ok () w' → (execOp a.eval o).run P C.w = .ok (.value (.int .i64 (min new.length k : Nat))) w' := fun w' hw => by
   refine run _ _ ?_
   rw [hv]
   cases A with
   | none =>
    simp only [Sem.run_pure, Result.ok.injEq, true_and] at hw
    subst hw
    simp [Builtin.copy_, hts, run_underlying ht, s1, sizeOf, typeInfo, hinf, hcells, goInt]
   | some ad =>
    dsimp only at hw
    simp [Builtin.copy_, hts, run_underlying ht, s1, sizeOf, typeInfo, hinf, hcells, goInt]
    rw [show min new.length k = Nat.min new.length k from rfl] at hw ⊢
    simp [hw]
  by_cases hm0 : min new.length k = 0
  ·have hw : (match A with | some ad => (storeCells ad (news.take (min new.length k * inf.size))) | none => pure ()).run P C.w = .ok () C.w := by
    rw [hm0]
    cases A <;> simp [storeCells]
   have htk : new.take k = [] := List.eq_nil_of_length_eq_zero (by omega)
   have hrw : putR ob.rows i (new.take k) = ob.rows := by unfold putR; rw [htk]; simp
   obtain ⟨hx', hi'⟩ := same_ob hi q1 q2 hfz { ob with pure := ob.pure && pu, rows := putR ob.rows i (new.take k) } hrw rfl rfl rfl rfl (fun h => by simp only [Bool.and_eq_true] at h; exact h.1) (fun c hc => .inl hc)
   exact .mk (C' := ⟨C.F, C.σ.set l _, C.bs.set l b, C.w⟩) (hrun _ hw) hx' hi' (.pure (.int _ _)) hk
  ·have hreal : ob.real = true := by
    rcases Bool.eq_false_or_eq_true ob.real with h | h
    ·exact h
    ·have := (q7 hn' h).1; omega
   obtain ⟨⟨ad, rfl, r1⟩, r2, r3, r4, arr, e', r5, r6, r7⟩ := q6 hn' hreal
   have had := r1 (by omega)
   subst had
   obtain ⟨hF, arr0, e0, q, g1, g2, g3, g4, g5, g6⟩ := hO.block hreal
   rw [r5] at g1; cases g1
   have hnl : (news.take (min new.length k * inf.size)).length = (new.take k).length * ob.sz := by
    rw [List.length_take, s3, hlen, q4, Nat.min_eq_left (Nat.mul_le_mul_right _ hm)]
   obtain ⟨x1, x2, x3, x4⟩ := put_rows hi q1 q2 hreal hfz r5 g2 (p := i) (new := new.take k) (news := news.take (min new.length k * inf.size)) (pu := pu) (by omega) (by omega) g4 (fun r hr => by rw [q4]; exact hnsz r (List.mem_of_mem_take hr)) hnl
    (fun r hr d hd => s6 r (List.mem_of_mem_take hr) d hd) (fun hp r hr => s7 hp r (List.mem_of_mem_take hr)) (fun j i' r d hj hi' => by
     rw [List.getElem?_take] at hj
     split at hj
     ·obtain ⟨v, hv, hrep⟩ := s5 j i' r d hj hi'
      refine ⟨v, ?_, hrep⟩
      rw [q4]
      have hil : i' < inf.size := by rw [← hnsz r (List.mem_of_getElem? hj)]; exact (List.getElem?_eq_some_iff.1 hi').1
      have hjl := (List.getElem?_eq_some_iff.1 hj).1
      rw [List.getElem?_take, if_pos (mul_bound (by omega) hil (Nat.le_refl _))]
      exact hv
     ·cases hj) ob.nl (.inl rfl) ob.spare (fun c hc => by rw [g5 c hc, putR_length (by omega)]; omega) rfl
   refine .mk (C' := ⟨C.F, C.σ.set l { ob with nl := ob.nl, pure := ob.pure && pu, rows := putR ob.rows i (new.take k), spare := ob.spare }, C.bs.set l b, _⟩) (hrun _ ?_) x1 x2 (.pure (.int _ _)) hk
   have hst := run_storeCells_at P b (i * ob.sz) e' (news.take (min new.length k * inf.size)) 0 arr C.w r5 (by
    rw [hnl, Nat.add_zero, ← Nat.add_mul, hlen]
    refine Nat.le_trans (Nat.mul_le_mul_right _ ?_) r6; omega) (cells_one hpos (by rw [hnl, q4]) (fun r hr => hnsz r (List.mem_of_mem_take hr)) hone (fun j i' r d hj hi' => by
     rw [List.getElem?_take] at hj
     split at hj
     ·obtain ⟨v, hv, hrep⟩ := s5 j i' r d hj hi'
      refine ⟨v, ?_, hrep⟩
      have hil : i' < inf.size := by rw [← hnsz r (List.mem_of_getElem? hj)]; exact (List.getElem?_eq_some_iff.1 hi').1
      have hjl := (List.getElem?_eq_some_iff.1 hj).1
      rw [List.getElem?_take, if_pos (mul_bound (by omega) hil (Nat.le_refl _))]
      exact hv
     ·cases hj))
   simpa using hst
 ·rename_i nl tg hρ
  rw [hρ] at rs
  obtain ⟨A, cap, sz, hv, q1, q2, q3, q4, q5, q9, q6, q7⟩ := rep_list rs
  have hcells := s2 C.w rfl 0 (by omega)
  refine .here hi (run _ _ ?_) (.pure (.int _ _)) h
  rw [hv]
  cases A <;> simp [Builtin.copy_, hts, run_underlying ht, s1, sizeOf, typeInfo, hinf, hcells, goInt, storeCells]
 ·exact h.elim
theorem sound_clear {c : Call} {t e : TypeId} {x : Operand} {inf : TypeInfo} {z : Value} {zs : List D} {lx : LO} (ho : o.op = .call c) (hc : c.callee = .builtin .clear) (hargs : c.args.toList = [x]) (hts : c.argTypes[0]? = some t)
  (ht : P.underlying t = some (.slice e)) (hinf : P.info? e = some inf) (hz : inf.zero = some z) (hzd : ofVals z.cells.toList = some zs) (hx : loOf x = some lx) : Sound P o (.clear zs lx) := by
 intro dr C a ρ K hi hp hr h
 have rx := hr.at hp hx (mem_args ho hargs (by simp))
 have run : ∀ r w', ((Builtin.clear_ c.argTypes o.type #[a.eval x]).run P C.w = .ok r w') → (execOp a.eval o).run P C.w = .ok (.value r) w' := fun r w' h =>
  run_builtin (s := Builtin.clear_ c.argTypes o.type) ho hc hargs (fun _ _ => rfl) (by simpa using h)
 have hzl : zs.length = z.cells.size := by have := (ofVals_rep hzd).1; simpa using this
 simp only [LK.run] at h
 split at h
 ·rename_i l i k n zz cl hρ
  rw [hρ] at rx
  obtain ⟨rfl, h⟩ := h
  obtain ⟨A, cap, ob, b, hv, q1, q2, q3, q3', q4, q5, q5', q6, q7⟩ := rep_own rx
  split at h
  case h_2 => exact h.elim
  rename_i ob' hob
  rw [q1] at hob; cases hob
  obtain ⟨hn', hfz, hk⟩ := h
  have hO := hi.ob l ob b q1 q2
  have hput : putR ob.rows i (List.replicate k zs) = ob.rows.take i ++ List.replicate k zs ++ ob.rows.drop (i + k) := by unfold putR; simp
  rw [← hput] at hk
  by_cases hm0 : k = 0
  ·subst hm0
   have hrw : putR ob.rows i (List.replicate 0 zs) = ob.rows := by unfold putR; simp
   obtain ⟨hx', hi'⟩ := same_ob hi q1 q2 hfz { ob with pure := ob.pure && zs.all D.pt1, rows := putR ob.rows i (List.replicate 0 zs) } hrw rfl rfl rfl rfl (fun h => by simp only [Bool.and_eq_true] at h; exact h.1) (fun c hc => .inl hc)
   refine .mk (C' := ⟨C.F, C.σ.set l _, C.bs.set l b, C.w⟩) (run (.tuple #[]) _ ?_) hx' hi' (.tup [] [] rfl (by simp)) hk
   rw [hv]
   cases A <;> simp [Builtin.clear_, hts, run_underlying ht]
  ·have hreal : ob.real = true := by
    rcases Bool.eq_false_or_eq_true ob.real with h | h
    ·exact h
    ·have := (q7 hn' h).1; omega
   obtain ⟨⟨ad, rfl, r1⟩, r2, r3, r4, arr, e', r5, r6, r7⟩ := q6 hn' hreal
   have had := r1 (by omega)
   subst had
   obtain ⟨hF, arr0, e0, q, g1, g2, g3, g4, g5, g6⟩ := hO.block hreal
   rw [r5] at g1; cases g1
   obtain ⟨z1, z2, z3⟩ := zeros_get (C := C) (m := k) hzd
   have hlr : (List.replicate k zs).length = k := by simp
   obtain ⟨x1, x2, x3, x4⟩ := put_rows hi q1 q2 hreal hfz r5 g2 (p := i) (new := List.replicate k zs) (news := (Builtin.zeroCells z.cells k).toList) (pu := zs.all D.pt1) (by omega) (by rw [hlr]; omega) g4 (fun r hr => by rw [List.eq_of_mem_replicate hr, q4]) (by rw [z1, hlr, q4, hzl])
    (fun r hr d hd => by rw [List.eq_of_mem_replicate hr] at hd; exact D.one_cell (ofVals_one hzd d hd)) (fun hp r hr d hd => by rw [List.eq_of_mem_replicate hr] at hd; exact List.all_eq_true.1 hp d hd) (by rw [q4, hzl]; exact z3)
    ob.nl (.inl rfl) ob.spare (fun c hc => by rw [g5 c hc, putR_length (by omega), hlr]; omega) rfl
   refine .mk (C' := ⟨C.F, C.σ.set l { ob with nl := ob.nl, pure := ob.pure && zs.all D.pt1, rows := putR ob.rows i (List.replicate k zs), spare := ob.spare }, C.bs.set l b, _⟩) (run (.tuple #[]) _ ?_) x1 x2 (.tup [] [] rfl (by simp)) hk
   have hst := run_storeCells_at P b (i * ob.sz) e' (Builtin.zeroCells z.cells k).toList 0 arr C.w r5 (by
    rw [z1, Nat.add_zero, ← hzl, ← q4, ← Nat.add_mul]
    refine Nat.le_trans (Nat.mul_le_mul_right _ ?_) r6; omega) z2
   simp only [Nat.add_zero] at hst
   have hzv : (zeroValue e).run P C.w = .ok z C.w := by simp [zeroValue, typeInfo, hinf, hz, go_sem]
   have hk' : ∃ k', k = k' + 1 := ⟨k - 1, by omega⟩
   obtain ⟨k', rfl⟩ := hk'
   rw [hv]
   simp [Builtin.clear_, hts, run_underlying ht, hzv, hst]
 ·rename_i nl tg hρ
  rw [hρ] at rx
  obtain ⟨A, cap, sz, hv, q1, q2, q3, q4, q5, q9, q6, q7⟩ := rep_list rx
  refine .here hi (run (.tuple #[]) _ ?_) (.tup [] [] rfl (by simp)) h
  rw [hv]
  cases A <;> simp [Builtin.clear_, hts, run_underlying ht]
 ·exact h.elim
theorem sound_mks {t e : TypeId} {x y : Operand} {inf : TypeInfo} {z : Value} {zs : List D} {lx ly : LO} (ho : o.op = .makeSlice t x y) (ht : P.underlying t = some (.slice e)) (hinf : P.info? e = some inf) (hz : inf.zero = some z) (hzs : z.cells.size = inf.size) (hzd : ofVals z.cells.toList = some zs)
  (hx : loOf x = some lx) (hy : loOf y = some ly) : Sound P o (.mks zs inf.bytes lx ly) := by
 intro dr C a ρ K hi hp hr h
 have rx := hr.at hp hx (by simp [ho, Op.operands])
 have ry := hr.at hp hy (by simp [ho, Op.operands])
 have hzl : zs.length = z.cells.size := by have := (ofVals_rep hzd).1; simpa using this
 simp only [LK.run] at h
 split at h
 case h_2 => exact h.elim
 rename_i k1 n1 k2 n2 h1 h2
 rw [h1] at rx; rw [h2] at ry
 have ex := rep_int rx
 have ey := rep_int ry
 obtain ⟨hne, h0, hle, h47, h63, hk⟩ := h
 obtain ⟨m, rfl⟩ : ∃ m : Nat, n1 = m := ⟨n1.toNat, by omega⟩
 obtain ⟨q, rfl⟩ : ∃ m : Nat, n2 = m := ⟨n2.toNat, by omega⟩
 simp only [Int.toNat_natCast] at hk
 have hpos : 0 < inf.size := by rw [← hzs, ← hzl]; exact List.length_pos_iff.2 hne
 have hmq : m ≤ q := by omega
 have hw1 : IntKind.i64.wrap (m : Int) = m := by rw [IntKind.wrap_i64]; omega
 have hw2 : IntKind.i64.wrap (q : Int) = q := by rw [IntKind.wrap_i64]; omega
 obtain ⟨z1, z2, z3⟩ := zeros_get (C := C) (m := q) hzd
 have hzv : (zeroValue e).run P C.w = .ok z C.w := by simp [zeroValue, typeInfo, hinf, hz, go_sem]
 have hcells : (Array.range (q * inf.size)).map (z.cells[· % z.cells.size]!) = Builtin.zeroCells z.cells q := by simp [Builtin.zeroCells, hzs]
 have h1' : ¬ ((q : Int) < 0) := by omega
 have h2' : ¬ (281474976710656 < (inf.bytes : Int) * (q : Int)) := by rw [Int.mul_comm]; omega
 have h3' : ¬ ((m : Int) < 0) := by omega
 have h4' : ¬ ((q : Int) < (m : Int)) := by omega
 have hrun : (execOp a.eval o).run P C.w = .ok (.value (.slice (some ⟨C.w.heap.size, 0, none⟩) m q)) (C.w.alloc (.cells (Builtin.zeroCells z.cells q) e)) := by
  by_cases hq0 : q = 0
  ·subst hq0
   have hm0 : m = 0 := by omega
   subst hm0
   have hz0 : Builtin.zeroCells z.cells 0 = #[] := by simp [Builtin.zeroCells]
   simp only [execOp, ho, ex, ey]
   simp [Instr.makeSlice, run_underlying ht, asInt, asIntOf, typeInfo, hinf, show IntKind.i64.wrap 0 = 0 from rfl, sizeOf, newRow, hz0]
   congr 2
   apply Array.ext'; simp
  ·have hns : ¬ (q * inf.size = 0) := Nat.mul_ne_zero hq0 (by omega)
   have hns' : ¬ (q = 0 ∨ inf.size = 0) := by omega
   simp only [execOp, ho, ex, ey]
   simp [Instr.makeSlice, run_underlying ht, asInt, asIntOf, typeInfo, hinf, hw1, hw2, h1', h2', h3', h4', sizeOf, hns, hns', hzv, newRow, hcells]
 have hlr : (List.replicate m zs).length = m := by simp
 obtain ⟨hx', hi'⟩ := newOb hi (below_alloc' C.w (.cells (Builtin.zeroCells z.cells q) e)) ⟨true, false, zs.all D.pt1, false, zs.length, List.replicate m zs, some (q - m)⟩ C.w.heap.size rfl (List.length_pos_iff.2 hne) (fun r hr => by rw [List.eq_of_mem_replicate hr])
  (fun r hr d hd => by rw [List.eq_of_mem_replicate hr] at hd; exact D.one_cell (ofVals_one hzd d hd)) (by simp) (fun hp r hr d hd => by rw [List.eq_of_mem_replicate hr] at hd; exact List.all_eq_true.1 hp d hd)
  (fun _ => ⟨Nat.le_refl _, Builtin.zeroCells z.cells q, e, q, heap_alloc_new C.w _, by show _ = q * zs.length; rw [size_zeroCells, hzl], by rw [hlr]; exact hmq, by simp only [maxLen]; omega, fun c hc => by cases hc; rw [hlr]; omega, fun j i r d hj hi2 => by
   obtain ⟨x, hx, hrep⟩ := z3 j i r d (by
    simp only [List.getElem?_replicate] at hj ⊢
    split at hj
    ·rw [if_pos (by omega)]; exact hj
    ·cases hj) hi2
   refine ⟨x, ?_, hrep⟩
   show (Builtin.zeroCells z.cells q)[j * zs.length + i]? = some x
   rw [hzl]; simpa using hx⟩)
 refine .mk (C' := ⟨C.F, C.σ ++ [⟨true, false, zs.all D.pt1, false, zs.length, List.replicate m zs, some (q - m)⟩], C.bs ++ [C.w.heap.size], C.w.alloc (.cells (Builtin.zeroCells z.cells q) e)⟩) hrun hx' hi' ?_ hk
 have hl := hi.len
 exact .own C.σ.length 0 m m zs.length none _ q ⟨true, false, zs.all D.pt1, false, zs.length, List.replicate m zs, some (q - m)⟩ C.w.heap.size (by simp) (by rw [← hl]; simp) (by simp) (by omega) rfl (by simp) hmq
  (fun _ _ => ⟨⟨_, rfl, fun _ => by simp⟩, hmq, by simp only [maxLen]; omega, by simp, Builtin.zeroCells z.cells q, e, heap_alloc_new C.w _, by simp [size_zeroCells, hzl], fun _ => by simp [size_zeroCells, hzl]⟩) (fun _ h => by cases h)
end
end Go.Vi
