import Derived.Test.YtggchhmgeafoaaaVi2
import Derived.WalkKit
set_option linter.unusedVariables false
set_option linter.unusedSimpArgs false
set_option linter.unnecessarySimpa false
namespace Go.Vi
open Go Go.RowKit
def lowAg (P : Program) (t : TypeId) : Option (Option Nat) :=
 match P.underlying t with
 | some (.struct _) => (P.info? t).map fun i => some i.size
 | some (.array _ _) => none
 | some _ => some none
 | none => none
def Done (P : Program) (o : Oper) (a : Act) (C : Ctx) (K : D → List Ob → Prop) : Prop :=
 ∃ nx v C' d, (execOp a.eval o).run P C.w = .ok nx C'.w ∧ Ext C C' ∧ Inv C' ∧ Rep C' d v ∧ K d C'.σ ∧ (nx = .value v ∨ nx = .skip ∧ v = undef)
theorem Done.here {P : Program} {o : Oper} {a : Act} {C : Ctx} {K : D → List Ob → Prop} {v : Value} {d : D} (hi : Inv C) (h : (execOp a.eval o).run P C.w = .ok (.value v) C.w) (hr : Rep C d v) (hk : K d C.σ) : Done P o a C K :=
 ⟨_, v, C, d, h, .refl C, hi, hr, hk, .inl rfl⟩
theorem Done.mk {P : Program} {o : Oper} {a : Act} {C : Ctx} {K : D → List Ob → Prop} {C' : Ctx} {v : Value} {d : D} (hrun : (execOp a.eval o).run P C.w = .ok (.value v) C'.w) (hx : Ext C C') (hi : Inv C') (hr : Rep C' d v) (hk : K d C'.σ) : Done P o a C K :=
 ⟨_, v, C', d, hrun, hx, hi, hr, hk, .inl rfl⟩
theorem ofVal1_rep {v : Value} {d : D} (h : ofVal1 v = some d) (G : Nat → Prop) (w : World) : PRep G w d v := by
 unfold ofVal1 at h
 split at h <;> simp only [Option.some.injEq, reduceCtorEq] at h <;> subst h
 ·exact .bool _
 ·exact .int _ _
 ·exact .str _
 ·exact .nilp
 ·exact .nilfn
 ·exact .list (some true) true [] none 0 0 (fun _ _ => undef) (by simp) (by simp) (by simp) (by simp) (by simp) (by simp) (by simp) (by simp) (by simp)
theorem ofVals_rep : ∀ {vs : List Value} {ds : List D}, ofVals vs = some ds → ds.length = vs.length ∧ ∀ (i : Nat) d v, ds[i]? = some d → vs[i]? = some v → ofVal1 v = some d
 | [], ds, h => by simp [ofVals] at h; subst h; simp
 | v :: vs, ds, h => by
  simp only [ofVals] at h
  split at h
  ·rename_i d' ds' h1 h2
   simp at h; subst h
   obtain ⟨hl, hx⟩ := ofVals_rep h2
   refine ⟨by simp [hl], fun i d v' hd hv => ?_⟩
   cases i with
   | zero => simp at hd hv; subst hd; subst hv; exact h1
   | succ i => simp at hd hv; exact hx i d v' hd hv
  ·cases h
theorem ofVal_rep {v : Value} {d : D} (h : ofVal v = some d) (G : Nat → Prop) (w : World) : PRep G w d v := by
 unfold ofVal at h
 split at h
 ·rename_i cs
  cases hd : ofVals cs.toList with
  | none => simp [hd] at h
  | some ds =>
   simp [hd] at h; subst h
   obtain ⟨hl, hx⟩ := ofVals_rep hd
   have := PRep.agg (G := G) (w := w) ds cs.toList hl (fun i d v hi hv => ofVal1_rep (hx i d v hi hv) G w)
   simpa using this
 ·exact ofVal1_rep h G w
def Reads (C : Ctx) (ρ : LO → D) (a : Act) (o : Oper) : Prop := ∀ t, Operand.tmp t ∈ o.op.operands → Rep C (ρ (.t t)) (a.tmps.getD t undef)
def Plain (ρ : LO → D) : Prop := ∀ d, ρ (.c d) = d
theorem Reads.at {C : Ctx} {ρ : LO → D} {a : Act} {o : Oper} (h : Reads C ρ a o) (hp : Plain ρ) {x : Operand} {l : LO} (hl : loOf x = some l) (hx : x ∈ o.op.operands) : Rep C (ρ l) (a.eval x) := by
 cases x with
 | tmp t => simp [loOf] at hl; subst hl; exact h t hx
 | const v =>
  simp only [loOf, Option.map_eq_some_iff] at hl
  obtain ⟨d, hd, rfl⟩ := hl
  rw [hp]; exact .pure (ofVal_rep hd _ _)
 | func f =>
  simp [loOf] at hl; obtain ⟨hlt, hl⟩ := hl; subst hl
  rw [hp]; exact .pure (.fn0 f hlt)
 | global g => simp [loOf] at hl
section
variable {P : Program} {o : Oper} {k : LK} {C : Ctx} {a : Act} {ρ : LO → D} {K : D → List Ob → Prop}
def Sound (P : Program) (o : Oper) (k : LK) : Prop :=
 ∀ (dr : Bool) (C : Ctx) (a : Act) (ρ : LO → D) (K : D → List Ob → Prop), Inv C → Plain ρ → Reads C ρ a o → k.run dr ρ C.σ K → Done P o a C K
theorem sound_move {x : Operand} {l : LO} (ho : o.op = .move x) (hl : loOf x = some l) : Sound P o (.mov l) := by
 intro dr C a ρ K hi hp hr h
 exact .here hi (by simp [execOp, ho]) (hr.at hp hl (by simp [ho, Op.operands])) h
theorem sound_assign {x : Operand} {l : LO} (ho : o.op = .assign x) (hl : loOf x = some l) : Sound P o (.mov l) := by
 intro dr C a ρ K hi hp hr h
 exact .here hi (by simp [execOp, ho]) (hr.at hp hl (by simp [ho, Op.operands])) h
theorem rep_bool {b : Bool} {v : Value} (h : Rep C (.bool b) v) : v = .bool b := by
 cases h with
 | pure h => cases h; rfl
theorem rep_int {k : IntKind} {n : Int} {v : Value} (h : Rep C (.int k n) v) : v = .int k n := by
 cases h with
 | pure h => cases h; rfl
theorem rep_str {s : ByteArray} {v : Value} (h : Rep C (.str s) v) : v = .string s := by
 cases h with
 | pure h => cases h; rfl
theorem sound_pick {c x y : Operand} {lc lx ly : LO} (ho : o.op = .pick c x y) (hc : loOf c = some lc) (hx : loOf x = some lx) (hy : loOf y = some ly) : Sound P o (.pick lc lx ly) := by
 intro dr C a ρ K hi hp hr h
 have rc := hr.at hp hc (by simp [ho, Op.operands])
 have rx := hr.at hp hx (by simp [ho, Op.operands])
 have ry := hr.at hp hy (by simp [ho, Op.operands])
 simp only [LK.run] at h
 split at h
 ·rename_i b hb
  rw [hb] at rc
  have ec := rep_bool rc
  refine .here (v := if b then a.eval x else a.eval y) hi (by simp only [execOp, ho, ec, asBool, Sem.run_bind, Sem.run_pure, Result.andThen_ok]) ?_ h
  cases b <;> simp [rx, ry]
 ·exact h.elim
theorem add_add (ad : Addr) (m n : Nat) : (ad.add m).add n = ad.add (m + n) := by
 unfold Addr.add
 by_cases h1 : m = 0 <;> by_cases h2 : n = 0 <;> simp [h1, h2, Nat.add_assoc]
theorem add_zero (ad : Addr) : ad.add 0 = ad := by simp [Addr.add]
theorem add_block (ad : Addr) (n : Nat) : (ad.add n).block = ad.block := by unfold Addr.add; split <;> rfl
theorem lit_add (b o n : Nat) : (⟨b, o, none⟩ : Addr).add n = ⟨b, o + n, none⟩ := by unfold Addr.add; split <;> simp_all
def Cells (C : Ctx) (ad : Addr) (row : List D) (i : Nat) : Prop := ∀ i' d, row[i + i']? = some d → ∃ v, C.w.cell? (ad.add i') = some v ∧ Rep C d v
theorem rep_elt {r : List D} {i : Nat} {v : Value} (h : Rep C (.elt r i) v) : ∃ (ad : Addr) (vf : Nat → Value), v = .pointer (some ad) ∧ C.good ad.block ∧ (∀ i' d, r[i + i']? = some d → C.w.cell? (ad.add i') = some (vf i') ∧ PRep C.good C.w d (vf i')) := by
 cases h with
 | pure h =>
  cases h with
  | elt row i ad vf hg h7 h8 => exact ⟨ad, vf, rfl, hg, fun i' d hi => ⟨h7 i' d hi, h8 i' d hi⟩⟩
theorem rep_ptr {l j i n : Nat} {v : Value} (h : Rep C (.ptr l j i n) v) : ∃ ad o b, v = .pointer (some ad) ∧ C.σ[l]? = some o ∧ C.bs[l]? = some b ∧ (o.rows.length = n → o.real = true → ad = ⟨b, j * o.sz + i, none⟩) := by
 cases h with
 | pure h => cases h
 | ptr l j i n o b ad ho hb hle hv => exact ⟨ad, o, b, rfl, ho, hb, hv⟩
theorem load_row {ad : Addr} {r : List D} {i : Nat} (hc : Cells C ad r i) {t : TypeId} {ag : Option Nat} (hag : lowAg P t = some ag) {K : D → Prop} (h : loadRow r i ag K) :
  ∃ v d, (loadVar t ad).run P C.w = .ok v C.w ∧ Rep C d v ∧ K d := by
 unfold lowAg at hag
 cases hu : P.underlying t with
 | none => simp [hu] at hag
 | some td =>
  have plain : (∀ fs, td ≠ .struct fs) → (∀ n e, td ≠ .array n e) → ag = none → ∃ v d, (loadVar t ad).run P C.w = .ok v C.w ∧ Rep C d v ∧ K d := by
   intro h1 h2 hn
   subst hn
   simp only [loadRow] at h
   split at h
   ·rename_i d hd
    obtain ⟨v, hv, hrep⟩ := hc 0 d (by simpa using hd)
    rw [add_zero] at hv
    refine ⟨v, d, ?_, hrep, h⟩
    have hag : (isAgg t).run P C.w = .ok false C.w := by
     simp only [isAgg, Sem.run_bind, run_underlying hu, Result.andThen_ok]
     cases td <;> first | rfl | exact absurd rfl (h1 _) | exact absurd rfl (h2 _ _)
    simp only [loadVar, Sem.run_bind, hag, Result.andThen_ok]
    simp [run_load, hv]
   ·exact h.elim
  rw [hu] at hag
  cases td with
  | struct fs =>
   simp only [Option.map_eq_some_iff] at hag
   obtain ⟨inf, hinf, rfl⟩ := hag
   simp only [loadRow] at h
   obtain ⟨hlen, hK⟩ := h
   have hlen' : ((r.drop i).take inf.size).length = inf.size := by simp; omega
   have hcell : ∀ m, m < inf.size → ∃ v, C.w.cell? (ad.add m) = some v ∧ ∀ d, r[i + m]? = some d → Rep C d v := by
    intro m hm
    have hd : r[i + m]? = some r[i + m] := List.getElem?_eq_getElem (by omega)
    obtain ⟨v, hv, hrep⟩ := hc m _ hd
    exact ⟨v, hv, fun d h' => by rw [hd] at h'; cases h'; exact hrep⟩
   refine ⟨.agg (((List.range inf.size).map fun m => (C.w.cell? (ad.add m)).getD undef).toArray), .agg ((r.drop i).take inf.size), ?_, ?_, hK⟩
   ·have hag : (isAgg t).run P C.w = .ok true C.w := by
     simp only [isAgg, Sem.run_bind, run_underlying hu, Result.andThen_ok]; rfl
    have hsz : (sizeOf t).run P C.w = .ok inf.size C.w := by
     simp [sizeOf, typeInfo, hinf, go_sem]
    have hl := run_loadCells (P := P) C.w ad inf.size (fun m => (C.w.cell? (ad.add m)).getD undef) (fun j hj => by obtain ⟨v, hv, _⟩ := hcell j hj; simp [hv])
    simp only [loadVar, Sem.run_bind, hag, Result.andThen_ok, if_true, hsz, hl, Sem.run_pure]
   ·refine .agg _ _ (by simp; omega) fun m d v hd hv => ?_
    have hm : m < inf.size := by
     have := (List.getElem?_eq_some_iff.1 hd).1
     omega
    obtain ⟨v', hv', hrep⟩ := hcell m hm
    simp [hm] at hv
    rw [hv'] at hv
    simp at hv; subst hv
    refine hrep d ?_
    simpa [List.getElem?_take, hm, List.getElem?_drop] using hd
  | array n e => simp at hag
  | _ => exact plain (by intros; simp) (by intros; simp) (by simpa using hag.symm)
theorem cells_elt {r : List D} {i : Nat} {v : Value} (h : Rep C (.elt r i) v) : ∃ ad, v = .pointer (some ad) ∧ Cells C ad r i := by
 obtain ⟨ad, vf, rfl, hg, hc⟩ := rep_elt h
 exact ⟨ad, rfl, fun i' d hi => ⟨_, (hc i' d hi).1, .pure (hc i' d hi).2⟩⟩
theorem cells_ptr (hi : Inv C) {l j i n : Nat} {v : Value} (h : Rep C (.ptr l j i n) v) {o : Ob} (ho : C.σ[l]? = some o) (hn : o.rows.length = n) (hr : o.real = true) {r : List D} (hj : o.rows[j]? = some r) :
  ∃ ad, v = .pointer (some ad) ∧ Cells C ad r i := by
 obtain ⟨ad, o', b, rfl, ho', hb, hv⟩ := rep_ptr h
 rw [ho] at ho'; cases ho'
 obtain rfl := hv hn hr
 obtain ⟨_, arr, e, h1, h2, h3⟩ := (hi.ob l o b ho hb).blk hr
 refine ⟨_, rfl, fun i' d hd => ?_⟩
 obtain ⟨v, hv, hrep⟩ := h3 j (i + i') r d hj hd
 refine ⟨v, ?_, hrep⟩
 rw [lit_add]
 simp only [World.cell?, h1]
 simpa [Nat.add_assoc] using hv
theorem sound_load {t : TypeId} {x : Operand} {ag : Option Nat} {lx : LO} (ho : o.op = .load t x) (hag : lowAg P t = some ag) (hx : loOf x = some lx) : Sound P o (.load ag lx) := by
 intro dr C a ρ K hi hp hr h
 have rx := hr.at hp hx (by simp [ho, Op.operands])
 have fin : ∀ {ad : Addr} {r : List D} {i : Nat}, a.eval x = .pointer (some ad) → Cells C ad r i → loadRow r i ag (fun d => K d C.σ) → Done P o a C K := by
  intro ad r i hv hc hK
  obtain ⟨v, d, hl, hrep, hk⟩ := load_row (P := P) hc hag hK
  exact .here hi (by simp only [execOp, ho, hv, Instr.loadAt, Instr.sureAddr, Sem.run_bind, Sem.run_pure, Result.andThen_ok, hl]) hrep hk
 simp only [LK.run] at h
 split at h
 ·rename_i r i hρ
  rw [hρ] at rx
  obtain ⟨ad, hv, hc⟩ := cells_elt rx
  exact fin hv hc h
 ·rename_i l j i n hρ
  rw [hρ] at rx
  split at h
  ·rename_i ob hob
   obtain ⟨hn, hreal, hj, hK⟩ := h
   have hjr : ob.rows[j]? = some ob.rows[j] := List.getElem?_eq_getElem (by omega)
   obtain ⟨ad, hv, hc⟩ := cells_ptr hi rx hob hn hreal hjr
   exact fin hv hc (hK _ hjr)
  ·exact h.elim
 ·exact h.elim
theorem sound_chk {x : Operand} {lx : LO} (ho : o.op = .nilCheck x) (hx : loOf x = some lx) : Sound P o (.chk lx) := by
 intro dr C a ρ K hi hp hr h
 have rx := hr.at hp hx (by simp [ho, Op.operands])
 simp only [LK.run] at h
 split at h
 ·rename_i l j i n hρ
  rw [hρ] at rx
  obtain ⟨ad, ob, b, hv, _⟩ := rep_ptr rx
  exact .here (v := a.eval x) hi (by simp only [execOp, ho, hv]; rfl) rx h
 ·rename_i r i hρ
  rw [hρ] at rx
  obtain ⟨ad, vf, hv, _⟩ := rep_elt rx
  exact .here (v := a.eval x) hi (by simp only [execOp, ho, hv]; rfl) rx h
 ·rename_i f cs hρ
  rw [hρ] at rx
  have : ∃ g b vs, a.eval x = .func (.func g) b vs := by
   generalize a.eval x = v at rx
   cases rx with
   | pure h => cases h; exact fnV_func _ _
   | fn f cs vs h1 h2 => exact fnV_func _ _
  obtain ⟨g, b, vs, hv⟩ := this
  exact .here (v := a.eval x) hi (by simp only [execOp, ho, hv]; rfl) rx h
 ·exact h.elim
theorem sound_un {op : UnOp} {t : TypeId} {x : Operand} {lx : LO} (ho : o.op = .unOp op t x) (hx : loOf x = some lx) : Sound P o (.un op lx) := by
 intro dr C a ρ K hi hp hr h
 have rx := hr.at hp hx (by simp [ho, Op.operands])
 simp only [LK.run] at h
 split at h
 ·rename_i d hd
  unfold unD at hd
  split at hd
  ·rename_i k n hρ
   rw [hρ] at rx
   cases hd
   exact .here (v := .int k (k.wrap (0 - n))) hi (by simp only [execOp, ho, rep_int rx, Op.unary, Op.intArith, Sem.run_bind, Sem.run_pure, Result.andThen_ok]) (.pure (.int _ _)) h
  ·rename_i b hρ
   rw [hρ] at rx
   cases hd
   exact .here (v := .bool !b) hi (by simp only [execOp, ho, rep_bool rx, Op.unary, Sem.run_bind, Sem.run_pure, Result.andThen_ok]) (.pure (.bool _)) h
  ·rename_i k n hρ
   rw [hρ] at rx
   cases hd
   exact .here hi (by simp only [execOp, ho, rep_int rx, Op.unary, Op.intBits, Sem.run_bind, Sem.run_pure, Result.andThen_ok]) (.pure (.int _ _)) h
  ·cases hd
 ·exact h.elim
theorem sound_faddr {t : TypeId} {x : Operand} {f : Nat} {fs : Array Field} {fd : Field} {inf : TypeInfo} {lx : LO} (ho : o.op = .fieldAddr t x f) (hu : P.underlying t = some (.struct fs)) (hf : fs[f]? = some fd)
  (hinf : P.info? fd.type = some inf) (hz : inf.size ≠ 0) (hx : loOf x = some lx) : Sound P o (.faddr fd.offset lx) := by
 intro dr C a ρ K hi hp hr h
 have rx := hr.at hp hx (by simp [ho, Op.operands])
 have run : ∀ ad, a.eval x = .pointer (some ad) → (execOp a.eval o).run P C.w = .ok (.value (.pointer (some (ad.add fd.offset)))) C.w := by
  intro ad hv
  have hs : (sizeOf fd.type).run P C.w = .ok inf.size C.w := by simp [sizeOf, typeInfo, hinf, go_sem]
  have hfp : (fieldPlace ad fd).run P C.w = .ok (ad.add fd.offset) C.w := by
   simp only [fieldPlace, Sem.run_bind, hs, Result.andThen_ok, hz, if_false, Sem.run_pure]
  simp only [execOp, ho, hv, Instr.fieldAt, Sem.run_bind, run_underlying hu, Result.andThen_ok, hf, Instr.sureAddr, Sem.run_pure, hfp]
 simp only [LK.run] at h
 split at h
 ·rename_i l j i n hρ
  rw [hρ] at rx
  generalize hv : a.eval x = v at rx
  cases rx with
  | pure h => cases h
  | ptr l j i n ob b ad hob hb hle he =>
   refine .here hi (run ad hv) (.ptr l j (i + fd.offset) n ob b _ hob hb hle fun h1 h2 => ?_) h
   rw [he h1 h2, lit_add, Nat.add_assoc]
 ·rename_i r i hρ
  rw [hρ] at rx
  obtain ⟨ad, vf, hv, hg, hc⟩ := rep_elt rx
  refine .here hi (run ad hv) (.pure (.elt r (i + fd.offset) _ (fun i' => vf (fd.offset + i')) (by rw [add_block]; exact hg) (fun i' d hd => ?_) (fun i' d hd => ?_))) h
  ·rw [add_add]; exact (hc _ d (by rw [← Nat.add_assoc]; exact hd)).1
  ·exact (hc _ d (by rw [← Nat.add_assoc]; exact hd)).2
 ·exact h.elim
theorem sound_ext {x : Operand} {i : Nat} {lx : LO} (ho : o.op = .extract x i) (hx : loOf x = some lx) : Sound P o (.ext i lx) := by
 intro dr C a ρ K hi hp hr h
 have rx := hr.at hp hx (by simp [ho, Op.operands])
 simp only [LK.run] at h
 split at h
 ·rename_i ds hρ
  rw [hρ] at rx
  split at h
  ·rename_i d hd
   generalize hv : a.eval x = v at rx
   have rx' : ∃ vs : List Value, v = .tuple vs.toArray ∧ ds.length = vs.length ∧ ∀ (i : Nat) d v, ds[i]? = some d → vs[i]? = some v → Rep C d v := by
    cases rx with
    | pure h => cases h with
     | tup cs vs hl hc => exact ⟨vs, rfl, hl, fun i d v h1 h2 => .pure (hc i d v h1 h2)⟩
    | tup cs vs hl hc => exact ⟨vs, rfl, hl, hc⟩
   obtain ⟨vs, rfl, hl, hc⟩ := rx'
   ·have hlt : i < vs.length := by rw [← hl]; exact (List.getElem?_eq_some_iff.1 hd).1
    have hvi : vs[i]? = some vs[i] := List.getElem?_eq_getElem hlt
    refine .here (v := vs[i]) hi ?_ (hc i d _ hd hvi) h
    simp only [execOp, ho, hv, Instr.extract, Sem.run_bind]
    simp [hvi]
  ·exact h.elim
 ·exact h.elim
end
end Go.Vi
