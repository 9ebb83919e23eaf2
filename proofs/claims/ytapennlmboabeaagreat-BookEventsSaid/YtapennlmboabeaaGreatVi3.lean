import Derived.Test.YtapennlmboabeaaGreatVi2
import Derived.WalkKit
set_option linter.unusedVariables false
set_option linter.unusedSimpArgs false
set_option linter.unnecessarySimpa false
namespace Go.Vi
open Go Go.RowKit
def mL (P : Program) (t : TypeId) : Option (Option Nat) :=
 match P.underlying t with
 | some (.struct _) => (P.info? t).map fun i => some i.size
 | some (.array _ _) => none
 | some _ => some none
 | none => none
def mD (P : Program) (o : Oper) (a : Act) (C : fZ) (K : D → List Ob → Prop) : Prop :=
 ∃ nx v C' d, (execOp a.eval o).run P C.w = .ok nx C'.w ∧ jq C C' ∧ i2 C' ∧ ef C' d v ∧ K d C'.σ ∧ (nx = .value v ∨ nx = .skip ∧ v = undef)
theorem mD.here {P : Program} {o : Oper} {a : Act} {C : fZ} {K : D → List Ob → Prop} {v : Value} {d : D} (hi : i2 C) (h : (execOp a.eval o).run P C.w = .ok (.value v) C.w) (hr : ef C d v) (hk : K d C.σ) : mD P o a C K :=
 ⟨_, v, C, d, h, .refl C, hi, hr, hk, .inl rfl⟩
theorem mD.mk {P : Program} {o : Oper} {a : Act} {C : fZ} {K : D → List Ob → Prop} {C' : fZ} {v : Value} {d : D} (hrun : (execOp a.eval o).run P C.w = .ok (.value v) C'.w) (hx : jq C C') (hi : i2 C') (hr : ef C' d v) (hk : K d C'.σ) : mD P o a C K :=
 ⟨_, v, C', d, hrun, hx, hi, hr, hk, .inl rfl⟩
theorem jV {v : Value} {d : D} (h : nh v = some d) (G : Nat → Prop) (w : World) : eB G w d v := by
 unfold nh at h
 split at h <;> simp only [Option.some.injEq, reduceCtorEq] at h <;> subst h
 ·exact .bool _
 ·exact .int _ _
 ·exact .str _
 ·exact .nilp
 ·exact .nilfn
 ·exact .list (some true) true [] none 0 0 (fun _ _ => undef) (by simp) (by simp) (by simp) (by simp) (by simp) (by simp) (by simp) (by simp) (by simp)
theorem i1 : ∀ {vs : List Value} {ds : List D}, ik vs = some ds → ds.length = vs.length ∧ ∀ (i : Nat) d v, ds[i]? = some d → vs[i]? = some v → nh v = some d
 | [], ds, h => by simp [ik] at h; subst h; simp
 | v :: vs, ds, h => by
  simp only [ik] at h
  split at h
  ·rename_i d' ds' h1 h2
   simp at h; subst h
   obtain ⟨hl, hx⟩ := i1 h2
   refine ⟨by simp [hl], fun i d v' hd hv => ?_⟩
   cases i with
   | zero => simp at hd hv; subst hd; subst hv; exact h1
   | succ i => simp at hd hv; exact hx i d v' hd hv
  ·cases h
theorem qA {v : Value} {d : D} (h : xz v = some d) (G : Nat → Prop) (w : World) : eB G w d v := by
 unfold xz at h
 split at h
 ·rename_i cs
  cases hd : ik cs.toList with
  | none => simp [hd] at h
  | some ds =>
   simp [hd] at h; subst h
   obtain ⟨hl, hx⟩ := i1 hd
   have := eB.agg (G := G) (w := w) ds cs.toList hl (fun i d v hi hv => jV (hx i d v hi hv) G w)
   simpa using this
 ·exact jV h G w
def kV (C : fZ) (ρ : LO → D) (a : Act) (o : Oper) : Prop := ∀ t, Operand.tmp t ∈ o.op.operands → ef C (ρ (.t t)) (a.tmps.getD t undef)
def lW (ρ : LO → D) : Prop := ∀ d, ρ (.c d) = d
theorem kV.at {C : fZ} {ρ : LO → D} {a : Act} {o : Oper} (h : kV C ρ a o) (hp : lW ρ) {x : Operand} {l : LO} (hl : cU x = some l) (hx : x ∈ o.op.operands) : ef C (ρ l) (a.eval x) := by
 cases x with
 | tmp t => simp [cU] at hl; subst hl; exact h t hx
 | const v =>
  simp only [cU, Option.map_eq_some_iff] at hl
  obtain ⟨d, hd, rfl⟩ := hl
  rw [hp]; exact .pure (qA hd _ _)
 | func f =>
  simp [cU] at hl; obtain ⟨hlt, hl⟩ := hl; subst hl
  rw [hp]; exact .pure (.fn0 f hlt)
 | global g => simp [cU] at hl
section
variable {P : Program} {o : Oper} {k : LK} {C : fZ} {a : Act} {ρ : LO → D} {K : D → List Ob → Prop}
def ge (P : Program) (o : Oper) (k : LK) : Prop :=
 ∀ (dr : Bool) (C : fZ) (a : Act) (ρ : LO → D) (K : D → List Ob → Prop), i2 C → lW ρ → kV C ρ a o → k.run dr ρ C.σ K → mD P o a C K
theorem uy {x : Operand} {l : LO} (ho : o.op = .move x) (hl : cU x = some l) : ge P o (.mov l) := by
 intro dr C a ρ K hi hp hr h
 exact .here hi (by simp [execOp, ho]) (hr.at hp hl (by simp [ho, Op.operands])) h
theorem rX {x : Operand} {l : LO} (ho : o.op = .assign x) (hl : cU x = some l) : ge P o (.mov l) := by
 intro dr C a ρ K hi hp hr h
 exact .here hi (by simp [execOp, ho]) (hr.at hp hl (by simp [ho, Op.operands])) h
theorem je {b : Bool} {v : Value} (h : ef C (.bool b) v) : v = .bool b := by
 cases h with
 | pure h => cases h; rfl
theorem gE {k : IntKind} {n : Int} {v : Value} (h : ef C (.int k n) v) : v = .int k n := by
 cases h with
 | pure h => cases h; rfl
theorem jM {s : ByteArray} {v : Value} (h : ef C (.str s) v) : v = .string s := by
 cases h with
 | pure h => cases h; rfl
theorem uz {c x y : Operand} {lc lx ly : LO} (ho : o.op = .pick c x y) (hc : cU c = some lc) (hx : cU x = some lx) (hy : cU y = some ly) : ge P o (.pick lc lx ly) := by
 intro dr C a ρ K hi hp hr h
 have rc := hr.at hp hc (by simp [ho, Op.operands])
 have rx := hr.at hp hx (by simp [ho, Op.operands])
 have ry := hr.at hp hy (by simp [ho, Op.operands])
 simp only [LK.run] at h
 split at h
 ·rename_i b hb
  rw [hb] at rc
  have ec := je rc
  refine .here (v := if b then a.eval x else a.eval y) hi (by simp only [execOp, ho, ec, asBool, Sem.run_bind, Sem.run_pure, Result.andThen_ok]) ?_ h
  cases b <;> simp [rx, ry]
 ·exact h.elim
theorem ot (ad : Addr) (m n : Nat) : (ad.add m).add n = ad.add (m + n) := by
 unfold Addr.add
 by_cases h1 : m = 0 <;> by_cases h2 : n = 0 <;> simp [h1, h2, Nat.add_assoc]
theorem add_zero (ad : Addr) : ad.add 0 = ad := by simp [Addr.add]
theorem lF (ad : Addr) (n : Nat) : (ad.add n).block = ad.block := by unfold Addr.add; split <;> rfl
theorem jJ (b o n : Nat) : (⟨b, o, none⟩ : Addr).add n = ⟨b, o + n, none⟩ := by unfold Addr.add; split <;> simp_all
def uG (C : fZ) (ad : Addr) (row : List D) (i : Nat) : Prop := ∀ i' d, row[i + i']? = some d → ∃ v, C.w.cell? (ad.add i') = some v ∧ ef C d v
theorem oI {r : List D} {i : Nat} {v : Value} (h : ef C (.elt r i) v) : ∃ (ad : Addr) (vf : Nat → Value), v = .pointer (some ad) ∧ C.good ad.block ∧ (∀ i' d, r[i + i']? = some d → C.w.cell? (ad.add i') = some (vf i') ∧ eB C.good C.w d (vf i')) := by
 cases h with
 | pure h =>
  cases h with
  | elt row i ad vf hg h7 h8 => exact ⟨ad, vf, rfl, hg, fun i' d hi => ⟨h7 i' d hi, h8 i' d hi⟩⟩
theorem lM {l j i n : Nat} {v : Value} (h : ef C (.ptr l j i n) v) : ∃ ad o b, v = .pointer (some ad) ∧ C.σ[l]? = some o ∧ C.bs[l]? = some b ∧ (o.rows.length = n → o.real = true → ad = ⟨b, j * o.sz + i, none⟩) := by
 cases h with
 | pure h => cases h
 | ptr l j i n o b ad ho hb hle hv => exact ⟨ad, o, b, rfl, ho, hb, hv⟩
theorem sH {ad : Addr} {r : List D} {i : Nat} (hc : uG C ad r i) {t : TypeId} {ag : Option Nat} (hag : mL P t = some ag) {K : D → Prop} (h : fX r i ag K) :
  ∃ v d, (loadVar t ad).run P C.w = .ok v C.w ∧ ef C d v ∧ K d := by
 unfold mL at hag
 cases hu : P.underlying t with
 | none => simp [hu] at hag
 | some td =>
  have plain : (∀ fs, td ≠ .struct fs) → (∀ n e, td ≠ .array n e) → ag = none → ∃ v d, (loadVar t ad).run P C.w = .ok v C.w ∧ ef C d v ∧ K d := by
   intro h1 h2 hn
   subst hn
   simp only [fX] at h
   split at h
   ·rename_i d hd
    obtain ⟨v, hv, hrep⟩ := hc 0 d (by simpa using hd)
    rw [add_zero] at hv
    refine ⟨v, d, ?_, hrep, h⟩
    have hag : (isAgg t).run P C.w = .ok false C.w := by
     simp only [isAgg, Sem.run_bind, run_underlying hu, Result.andThen_ok]
     cases td <;> first | rfl | exact absurd rfl (h1 _) | exact absurd rfl (h2 _ _)
    simp only [loadVar, Sem.run_bind, hag, Result.andThen_ok]
    simp [run_load, hv]
   ·exact h.elim
  rw [hu] at hag
  cases td with
  | struct fs =>
   simp only [Option.map_eq_some_iff] at hag
   obtain ⟨inf, hinf, rfl⟩ := hag
   simp only [fX] at h
   obtain ⟨hlen, hK⟩ := h
   have hlen' : ((r.drop i).take inf.size).length = inf.size := by simp; omega
   have hcell : ∀ m, m < inf.size → ∃ v, C.w.cell? (ad.add m) = some v ∧ ∀ d, r[i + m]? = some d → ef C d v := by
    intro m hm
    have hd : r[i + m]? = some r[i + m] := List.getElem?_eq_getElem (by omega)
    obtain ⟨v, hv, hrep⟩ := hc m _ hd
    exact ⟨v, hv, fun d h' => by rw [hd] at h'; cases h'; exact hrep⟩
   refine ⟨.agg (((List.range inf.size).map fun m => (C.w.cell? (ad.add m)).getD undef).toArray), .agg ((r.drop i).take inf.size), ?_, ?_, hK⟩
   ·have hag : (isAgg t).run P C.w = .ok true C.w := by
     simp only [isAgg, Sem.run_bind, run_underlying hu, Result.andThen_ok]; rfl
    have hsz : (sizeOf t).run P C.w = .ok inf.size C.w := by
     simp [sizeOf, typeInfo, hinf, go_sem]
    have hl := run_loadCells (P := P) C.w ad inf.size (fun m => (C.w.cell? (ad.add m)).getD undef) (fun j hj => by obtain ⟨v, hv, _⟩ := hcell j hj; simp [hv])
    simp only [loadVar, Sem.run_bind, hag, Result.andThen_ok, if_true, hsz, hl, Sem.run_pure]
   ·refine .agg _ _ (by simp; omega) fun m d v hd hv => ?_
    have hm : m < inf.size := by
     have := (List.getElem?_eq_some_iff.1 hd).1
     omega
    obtain ⟨v', hv', hrep⟩ := hcell m hm
    simp [hm] at hv
    rw [hv'] at hv
    simp at hv; subst hv
    refine hrep d ?_
    simpa [List.getElem?_take, hm, List.getElem?_drop] using hd
  | array n e => simp at hag
  | _ => exact plain (by intros; simp) (by intros; simp) (by simpa using hag.symm)
theorem vn {r : List D} {i : Nat} {v : Value} (h : ef C (.elt r i) v) : ∃ ad, v = .pointer (some ad) ∧ uG C ad r i := by
 obtain ⟨ad, vf, rfl, hg, hc⟩ := oI h
 exact ⟨ad, rfl, fun i' d hi => ⟨_, (hc i' d hi).1, .pure (hc i' d hi).2⟩⟩
theorem qf (hi : i2 C) {l j i n : Nat} {v : Value} (h : ef C (.ptr l j i n) v) {o : Ob} (ho : C.σ[l]? = some o) (hn : o.rows.length = n) (hr : o.real = true) {r : List D} (hj : o.rows[j]? = some r) :
  ∃ ad, v = .pointer (some ad) ∧ uG C ad r i := by
 obtain ⟨ad, o', b, rfl, ho', hb, hv⟩ := lM h
 rw [ho] at ho'; cases ho'
 obtain rfl := hv hn hr
 obtain ⟨_, arr, e, h1, h2, h3⟩ := (hi.ob l o b ho hb).blk hr
 refine ⟨_, rfl, fun i' d hd => ?_⟩
 obtain ⟨v, hv, hrep⟩ := h3 j (i + i') r d hj hd
 refine ⟨v, ?_, hrep⟩
 rw [jJ]
 simp only [World.cell?, h1]
 simpa [Nat.add_assoc] using hv
theorem uw {t : TypeId} {x : Operand} {ag : Option Nat} {lx : LO} (ho : o.op = .load t x) (hag : mL P t = some ag) (hx : cU x = some lx) : ge P o (.load ag lx) := by
 intro dr C a ρ K hi hp hr h
 have rx := hr.at hp hx (by simp [ho, Op.operands])
 have fin : ∀ {ad : Addr} {r : List D} {i : Nat}, a.eval x = .pointer (some ad) → uG C ad r i → fX r i ag (fun d => K d C.σ) → mD P o a C K := by
  intro ad r i hv hc hK
  obtain ⟨v, d, hl, hrep, hk⟩ := sH (P := P) hc hag hK
  exact .here hi (by simp only [execOp, ho, hv, Instr.loadAt, Instr.sureAddr, Sem.run_bind, Sem.run_pure, Result.andThen_ok, hl]) hrep hk
 simp only [LK.run] at h
 split at h
 ·rename_i r i hρ
  rw [hρ] at rx
  obtain ⟨ad, hv, hc⟩ := vn rx
  exact fin hv hc h
 ·rename_i l j i n hρ
  rw [hρ] at rx
  split at h
  ·rename_i ob hob
   obtain ⟨hn, hreal, hj, hK⟩ := h
   have hjr : ob.rows[j]? = some ob.rows[j] := List.getElem?_eq_getElem (by omega)
   obtain ⟨ad, hv, hc⟩ := qf hi rx hob hn hreal hjr
   exact fin hv hc (hK _ hjr)
  ·exact h.elim
 ·exact h.elim
theorem we {x : Operand} {lx : LO} (ho : o.op = .nilCheck x) (hx : cU x = some lx) : ge P o (.chk lx) := by
 intro dr C a ρ K hi hp hr h
 have rx := hr.at hp hx (by simp [ho, Op.operands])
 simp only [LK.run] at h
 split at h
 ·rename_i l j i n hρ
  rw [hρ] at rx
  obtain ⟨ad, ob, b, hv, _⟩ := lM rx
  exact .here (v := a.eval x) hi (by simp only [execOp, ho, hv]; rfl) rx h
 ·rename_i r i hρ
  rw [hρ] at rx
  obtain ⟨ad, vf, hv, _⟩ := oI rx
  exact .here (v := a.eval x) hi (by simp only [execOp, ho, hv]; rfl) rx h
 ·rename_i f cs hρ
  rw [hρ] at rx
  have : ∃ g b vs, a.eval x = .func (.func g) b vs := by
   generalize a.eval x = v at rx
   cases rx with
   | pure h => cases h; exact kj _ _
   | fn f cs vs h1 h2 => exact kj _ _
  obtain ⟨g, b, vs, hv⟩ := this
  exact .here (v := a.eval x) hi (by simp only [execOp, ho, hv]; rfl) rx h
 ·exact h.elim
theorem ym {op : UnOp} {t : TypeId} {x : Operand} {lx : LO} (ho : o.op = .unOp op t x) (hx : cU x = some lx) : ge P o (.un op lx) := by
 intro dr C a ρ K hi hp hr h
 have rx := hr.at hp hx (by simp [ho, Op.operands])
 simp only [LK.run] at h
 split at h
 ·rename_i d hd
  unfold ky at hd
  split at hd
  ·rename_i k n hρ
   rw [hρ] at rx
   cases hd
   exact .here (v := .int k (k.wrap (0 - n))) hi (by simp only [execOp, ho, gE rx, Op.unary, Op.intArith, Sem.run_bind, Sem.run_pure, Result.andThen_ok]) (.pure (.int _ _)) h
  ·rename_i b hρ
   rw [hρ] at rx
   cases hd
   exact .here (v := .bool !b) hi (by simp only [execOp, ho, je rx, Op.unary, Sem.run_bind, Sem.run_pure, Result.andThen_ok]) (.pure (.bool _)) h
  ·rename_i k n hρ
   rw [hρ] at rx
   cases hd
   exact .here hi (by simp only [execOp, ho, gE rx, Op.unary, Op.intBits, Sem.run_bind, Sem.run_pure, Result.andThen_ok]) (.pure (.int _ _)) h
  ·cases hd
 ·exact h.elim
theorem tc {t : TypeId} {x : Operand} {f : Nat} {fs : Array Field} {fd : Field} {inf : TypeInfo} {lx : LO} (ho : o.op = .fieldAddr t x f) (hu : P.underlying t = some (.struct fs)) (hf : fs[f]? = some fd)
  (hinf : P.info? fd.type = some inf) (hz : inf.size ≠ 0) (hx : cU x = some lx) : ge P o (.faddr fd.offset lx) := by
 intro dr C a ρ K hi hp hr h
 have rx := hr.at hp hx (by simp [ho, Op.operands])
 have run : ∀ ad, a.eval x = .pointer (some ad) → (execOp a.eval o).run P C.w = .ok (.value (.pointer (some (ad.add fd.offset)))) C.w := by
  intro ad hv
  have hs : (sizeOf fd.type).run P C.w = .ok inf.size C.w := by simp [sizeOf, typeInfo, hinf, go_sem]
  have hfp : (fieldPlace ad fd).run P C.w = .ok (ad.add fd.offset) C.w := by
   simp only [fieldPlace, Sem.run_bind, hs, Result.andThen_ok, hz, if_false, Sem.run_pure]
  simp only [execOp, ho, hv, Instr.fieldAt, Sem.run_bind, run_underlying hu, Result.andThen_ok, hf, Instr.sureAddr, Sem.run_pure, hfp]
 simp only [LK.run] at h
 split at h
 ·rename_i l j i n hρ
  rw [hρ] at rx
  generalize hv : a.eval x = v at rx
  cases rx with
  | pure h => cases h
  | ptr l j i n ob b ad hob hb hle he =>
   refine .here hi (run ad hv) (.ptr l j (i + fd.offset) n ob b _ hob hb hle fun h1 h2 => ?_) h
   rw [he h1 h2, jJ, Nat.add_assoc]
 ·rename_i r i hρ
  rw [hρ] at rx
  obtain ⟨ad, vf, hv, hg, hc⟩ := oI rx
  refine .here hi (run ad hv) (.pure (.elt r (i + fd.offset) _ (fun i' => vf (fd.offset + i')) (by rw [lF]; exact hg) (fun i' d hd => ?_) (fun i' d hd => ?_))) h
  ·rw [ot]; exact (hc _ d (by rw [← Nat.add_assoc]; exact hd)).1
  ·exact (hc _ d (by rw [← Nat.add_assoc]; exact hd)).2
 ·exact h.elim
theorem wg {x : Operand} {i : Nat} {lx : LO} (ho : o.op = .extract x i) (hx : cU x = some lx) : ge P o (.ext i lx) := by
 intro dr C a ρ K hi hp hr h
 have rx := hr.at hp hx (by simp [ho, Op.operands])
 simp only [LK.run] at h
 split at h
 ·rename_i ds hρ
  rw [hρ] at rx
  split at h
  ·rename_i d hd
   generalize hv : a.eval x = v at rx
   have rx' : ∃ vs : List Value, v = .tuple vs.toArray ∧ ds.length = vs.length ∧ ∀ (i : Nat) d v, ds[i]? = some d → vs[i]? = some v → ef C d v := by
    cases rx with
    | pure h => cases h with
     | tup cs vs hl hc => exact ⟨vs, rfl, hl, fun i d v h1 h2 => .pure (hc i d v h1 h2)⟩
    | tup cs vs hl hc => exact ⟨vs, rfl, hl, hc⟩
   obtain ⟨vs, rfl, hl, hc⟩ := rx'
   ·have hlt : i < vs.length := by rw [← hl]; exact (List.getElem?_eq_some_iff.1 hd).1
    have hvi : vs[i]? = some vs[i] := List.getElem?_eq_getElem hlt
    refine .here (v := vs[i]) hi ?_ (hc i d _ hd hvi) h
    simp only [execOp, ho, hv, Instr.extract, Sem.run_bind]
    simp [hvi]
  ·exact h.elim
 ·exact h.elim
end
end Go.Vi
