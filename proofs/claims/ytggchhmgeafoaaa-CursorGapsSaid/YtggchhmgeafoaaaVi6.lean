import Derived.Test.YtggchhmgeafoaaaVi5
import Derived.Laws.Tables
import Derived.Laws.Slices
import Derived.Great.BuildSlice
set_option linter.unusedVariables false
set_option linter.unusedSimpArgs false
set_option linter.unnecessarySimpa false
namespace Go.Vi
open Go Go.RowKit
section
variable {P : Program} {o : Oper} {k : LK} {C : Ctx} {a : Act} {ρ : LO → D} {K : D → List Ob → Prop}
theorem losOf_spec : ∀ {xs : List Operand} {ls : List LO}, losOf xs = some ls → ls.length = xs.length ∧ ∀ (i : Nat) x l, xs[i]? = some x → ls[i]? = some l → loOf x = some l
 | [], ls, h => by simp [losOf] at h; subst h; simp
 | x :: xs, ls, h => by
  simp only [losOf] at h
  split at h
  ·rename_i l ls' h1 h2
   cases h
   obtain ⟨hl, hs⟩ := losOf_spec h2
   refine ⟨by simp [hl], fun i y m hy hm => ?_⟩
   cases i with
   | zero => simp at hy hm; subst hy; subst hm; exact h1
   | succ i => simp at hy hm; exact hs i y m hy hm
  ·cases h
theorem reads_all (hr : Reads C ρ a o) (hp : Plain ρ) {xs : List Operand} {ls : List LO} (h : losOf xs = some ls) (hm : ∀ x ∈ xs, x ∈ o.op.operands) :
  ∀ (i : Nat) d v, (ls.map ρ)[i]? = some d → (xs.map a.eval)[i]? = some v → Rep C d v := by
 obtain ⟨hl, hs⟩ := losOf_spec h
 intro i d v hd hv
 simp only [List.getElem?_map, Option.map_eq_some_iff] at hd hv
 obtain ⟨l, hl', rfl⟩ := hd
 obtain ⟨x, hx', rfl⟩ := hv
 exact hr.at hp (hs i x l hx' hl') (hm x (List.mem_of_getElem? hx'))
theorem sound_mkfnb {f : FuncId} {caps : Array Operand} {ls : List LO} (ho : o.op = .makeFunc (.func f) caps #[]) (hc : losOf caps.toList = some ls) : Sound P o (.mkfn (f + bB) ls) := by
 intro dr C a ρ K hi hp hr h
 have hw := Rep.fn (C := C) (f + bB) (ls.map ρ) (caps.toList.map a.eval) (by simp [(losOf_spec hc).1]) (reads_all hr hp hc (by simp [ho, Op.operands]))
 rw [fnV_ge (show ¬ f + bB < bB from Nat.not_lt.2 (Nat.le_add_left _ _)), show f + bB - bB = f from Nat.add_sub_cancel _ _] at hw
 refine .here (v := .func (.func f) ((caps.toList.map a.eval).toArray) #[]) hi ?_ hw h
 simp only [execOp, ho, Instr.makeFunc, Sem.run_bind, Sem.run_pure, Result.andThen_ok]
 congr 3
 ·apply Array.ext'; simp
 ·simp
theorem sound_mkfn {f : FuncId} {caps : Array Operand} {ls : List LO} (hf : f < bB) (ho : o.op = .makeFunc (.func f) #[] caps) (hc : losOf caps.toList = some ls) : Sound P o (.mkfn f ls) := by
 intro dr C a ρ K hi hp hr h
 have hw := Rep.fn (C := C) f (ls.map ρ) (caps.toList.map a.eval) (by simp [(losOf_spec hc).1]) (reads_all hr hp hc (by simp [ho, Op.operands]))
 rw [fnV_lt hf] at hw
 refine .here (v := .func (.func f) #[] ((caps.toList.map a.eval).toArray)) hi ?_ hw h
 simp only [execOp, ho, Instr.makeFunc, Sem.run_bind, Sem.run_pure, Result.andThen_ok]
 congr 3
 ·simp
 ·apply Array.ext'; simp
theorem mem_args {c : Call} {xs : List Operand} (ho : o.op = .call c) (hargs : c.args.toList = xs) {x : Operand} (hx : x ∈ xs) : x ∈ o.op.operands := by
 rw [ho]
 simp only [Op.operands, Call.operands, Array.mem_append]
 right
 rw [← Array.mem_toList_iff, hargs]; exact hx
theorem run_builtin {c : Call} {b : Builtin} {xs : List Operand} {s : Array Value → Sem Value} (ho : o.op = .call c) (hc : c.callee = .builtin b) (hargs : c.args.toList = xs)
  (hb : ∀ consts args, builtin b c.argTypes o.type consts args = do pure (.value (← s args))) {r : Value} {w' : World} (hs : (s (xs.map a.eval).toArray).run P C.w = .ok r w') :
  (execOp a.eval o).run P C.w = .ok (.value r) w' := by
 have : (c.args.map a.eval) = (xs.map a.eval).toArray := by apply Array.ext'; simp [hargs]
 simp only [execOp, ho, resolve, hc, invoke, Sem.run_bind, Sem.run_pure, Result.andThen_ok, hb, this, hs]
theorem sound_len {c : Call} {st : Bool} {t : TypeId} {x : Operand} {lx : LO} (ho : o.op = .call c) (hc : c.callee = .builtin .len) (hargs : c.args.toList = [x]) (hts : c.argTypes[0]? = some t)
  (hu : match P.underlying t with | some .string => st = true | some (.slice _) => st = false | _ => False) (hx : loOf x = some lx) : Sound P o (.len st lx) := by
 intro dr C a ρ K hi hp hr h
 have rx := hr.at hp hx (mem_args ho hargs (by simp))
 have run : ∀ r, ((Builtin.len_ c.argTypes o.type #[a.eval x]).run P C.w = .ok r C.w) → (execOp a.eval o).run P C.w = .ok (.value r) C.w := fun r h =>
  run_builtin (s := Builtin.len_ c.argTypes o.type) ho hc hargs (fun _ _ => rfl) (by simpa using h)
 have sl : ∀ A n cap, st = false → a.eval x = .slice A n cap → (execOp a.eval o).run P C.w = .ok (.value (.int .i64 n)) C.w := by
  intro A n cap hst hv
  refine run _ ?_
  split at hu
  ·simp_all
  ·rename_i s hs
   simp [Builtin.len_, hts, run_underlying hs, goInt, hv]
  ·exact hu.elim
 simp only [LK.run] at h
 split at h
 ·rename_i s hρ
  rw [hρ] at rx
  refine .here hi (run (.int .i64 s.size) ?_) (.pure (.int _ _)) h.2
  split at hu
  ·rename_i hs
   simp [Builtin.len_, hts, run_underlying hs, goInt, rep_str rx]
  ·simp_all
  ·exact hu.elim
 ·rename_i nl tg rows hρ
  rw [hρ] at rx
  obtain ⟨A, cap, sz, hv, _⟩ := rep_list rx
  exact .here hi (sl _ _ _ h.1 hv) (.pure (.int _ _)) h.2
 ·rename_i l i n m z cl hρ
  rw [hρ] at rx
  obtain ⟨A, cap, ob, b, hv, _⟩ := rep_own rx
  exact .here hi (sl _ _ _ h.1 hv) (.pure (.int _ _)) h.2
 ·exact h.elim
theorem sound_mx {c : Call} {x y : Operand} {lx ly : LO} (ho : o.op = .call c) (hc : c.callee = .builtin .max) (hargs : c.args.toList = [x, y]) (hx : loOf x = some lx) (hy : loOf y = some ly) : Sound P o (.mx lx ly) := by
 intro dr C a ρ K hi hp hr h
 have rx := hr.at hp hx (mem_args ho hargs (by simp))
 have ry := hr.at hp hy (mem_args ho hargs (by simp))
 simp only [LK.run] at h
 split at h
 ·rename_i k m k' n h1 h2
  rw [h1] at rx; rw [h2] at ry
  exact .here hi (run_builtin (s := Builtin.max_ c.argTypes o.type) ho hc hargs (fun _ _ => rfl) (by simp [rep_int rx, rep_int ry]; exact run_max_int2 _ _ _ _ _ _ _)) (.pure (.int _ _)) h
 ·exact h.elim
theorem sound_mn {c : Call} {x y : Operand} {lx ly : LO} (ho : o.op = .call c) (hc : c.callee = .builtin .min) (hargs : c.args.toList = [x, y]) (hx : loOf x = some lx) (hy : loOf y = some ly) : Sound P o (.mn lx ly) := by
 intro dr C a ρ K hi hp hr h
 have rx := hr.at hp hx (mem_args ho hargs (by simp))
 have ry := hr.at hp hy (mem_args ho hargs (by simp))
 simp only [LK.run] at h
 split at h
 ·rename_i k m k' n h1 h2
  rw [h1] at rx; rw [h2] at ry
  exact .here hi (run_builtin (s := Builtin.min_ c.argTypes o.type) ho hc hargs (fun _ _ => rfl) (by simp [rep_int rx, rep_int ry]; exact run_min_int2 _ _ _ _ _ _ _)) (.pure (.int _ _)) h
 ·exact h.elim
theorem sound_idx {t : TypeId} {x i : Operand} {lx li : LO} (ho : o.op = .index t x i) (hu : P.underlying t = some .string) (hx : loOf x = some lx) (hli : loOf i = some li) : Sound P o (.idx lx li) := by
 intro dr C a ρ K hi hp hr h
 have rx := hr.at hp hx (by simp [ho, Op.operands])
 have ri := hr.at hp hli (by simp [ho, Op.operands])
 simp only [LK.run] at h
 split at h
 ·rename_i s k n h1 h2
  rw [h1] at rx; rw [h2] at ri
  obtain ⟨h3, h4, h5⟩ := h
  refine .here (v := .int .u8 (bt s n)) hi ?_ (.pure (.int _ _)) h5
  have hlt : n.toNat < s.size := by omega
  have hb : bt s n = (s[n.toNat]'hlt).toNat := by
   unfold bt
   have : s.data.toList[n.toNat]? = some s[n.toNat] := by
    rw [Array.getElem?_toList, Array.getElem?_eq_getElem (show n.toNat < s.data.size from hlt)]; rfl
   rw [this]; rfl
  simp only [execOp, ho, rep_str rx, rep_int ri, Sem.run_bind, run_index_string C.w t s k n hu, dif_pos (show 0 ≤ n ∧ n < s.size from ⟨h3, h4⟩), Result.andThen_ok, Sem.run_pure, hb]
 ·exact h.elim
theorem sound_iaddr {t e : TypeId} {x i : Operand} {inf : TypeInfo} {lx li : LO} (ho : o.op = .indexAddr t x i) (hu : P.underlying t = some (.slice e)) (hinf : P.info? e = some inf) (hx : loOf x = some lx) (hli : loOf i = some li) : Sound P o (.iaddr inf.size lx li) := by
 intro dr C a ρ K hi hp hr h
 have rx := hr.at hp hx (by simp [ho, Op.operands])
 have ri := hr.at hp hli (by simp [ho, Op.operands])
 have run : ∀ (ad : Addr) (len cap : Nat) (k : IntKind) (n : Int), a.eval x = .slice (some ad) len cap → a.eval i = .int k n → 0 ≤ n → n < len → (execOp a.eval o).run P C.w = .ok (.value (.pointer (some (ad.add (n.toNat * inf.size))))) C.w := by
  intro ad len cap k n hv hn h0 h1
  simp only [execOp, ho, hv, hn, Instr.indexAt, asIntOf, Sem.run_bind, Sem.run_pure, Result.andThen_ok, run_underlying hu, h0, h1, and_self, if_true, run_sizeOf' hinf]
 simp only [LK.run] at h
 split at h
 ·rename_i nl tg rows k n h1 h2
  rw [h1] at rx; rw [h2] at ri
  obtain ⟨h3, h4, h5⟩ := h
  have hr : rows[n.toNat]? = some (rows[n.toNat]'(by omega)) := List.getElem?_eq_getElem (by omega)
  obtain ⟨hsz, hk⟩ := h5 _ hr
  obtain ⟨A, cap, sz, hv, q1, q2, q3, q4, q5, q9, q6, q7⟩ := rep_list rx
  have hne : rows ≠ [] := by rintro rfl; simp at hr
  have hsz' : sz = inf.size := by rw [← q5 _ (List.mem_of_getElem? hr), hsz]
  subst hsz'
  cases A with
  | none => have := q2 rfl; omega
  | some ad =>
   refine .here hi (run ad _ _ k n hv (rep_int ri) h3 (by simpa using h4)) (.pure (.elt _ 0 _ (fun i' => (C.w.cell? (ad.add (n.toNat * inf.size + i'))).getD undef) (by rw [add_block]; exact q6 ad rfl hne) (fun i' d hd => ?_) (fun i' d hd => ?_))) hk
   ·obtain ⟨ad', v, ha, hc, _⟩ := q7 n.toNat i' _ d hr (by simpa using hd)
    cases ha
    rw [add_add, hc]; rfl
   ·obtain ⟨ad', v, ha, hc, hrep⟩ := q7 n.toNat i' _ d hr (by simpa using hd)
    cases ha
    rw [hc]; exact hrep
 ·rename_i l i0 k0 m z cl k n h1 h2
  rw [h1] at rx; rw [h2] at ri
  obtain ⟨hz, h3, h4, h5⟩ := h
  subst hz
  obtain ⟨A, cap, ob, b, hv, q1, q2, q3, q3', q4, q5, q5', q6, q7⟩ := rep_own rx
  cases A with
  | none => have := q5 rfl; omega
  | some ad =>
   refine .here hi (run ad _ _ k n hv (rep_int ri) h3 h4) (.ptr l (i0 + n.toNat) 0 m ob b _ q1 q2 q3 fun e1 e2 => ?_) h5
   obtain ⟨⟨ad', e3, e3'⟩, e4, _⟩ := q6 e1 e2
   cases e3
   rw [e3' (by omega), lit_add, q4]; simp [Nat.add_mul]
 ·exact h.elim
end
end Go.Vi
