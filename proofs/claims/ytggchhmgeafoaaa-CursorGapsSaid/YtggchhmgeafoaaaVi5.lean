import Derived.Test.YtggchhmgeafoaaaVi4
import Derived.Laws.Rows
import Derived.Laws.BytesArg
import Derived.Laws.BytesString
set_option linter.unusedVariables false
set_option linter.unusedSimpArgs false
set_option linter.unnecessarySimpa false
namespace Go.Vi
open Go Go.RowKit
section
variable {P : Program} {o : Oper} {k : LK} {C : Ctx} {a : Act} {ρ : LO → D} {K : D → List Ob → Prop}
theorem run_sizeOf' {t : TypeId} {i : TypeInfo} (h : P.info? t = some i) (w : World) : (sizeOf t).run P w = .ok i.size w := by simp [sizeOf, typeInfo, h, go_sem]
theorem part_row {cs : List D} {vs : List Value} (hl : cs.length = vs.length) (hr : ∀ (i : Nat) d v, cs[i]? = some d → vs[i]? = some v → Rep C d v) {t : TypeId} {ag : Option Nat} (hag : lowAg P t = some ag)
  {off : Nat} {K : D → Prop} (h : loadRow cs off ag K) : ∃ v d, (part t vs.toArray off).run P C.w = .ok v C.w ∧ Rep C d v ∧ K d := by
 unfold lowAg at hag
 cases hu : P.underlying t with
 | none => simp [hu] at hag
 | some td =>
  rw [hu] at hag
  have plain : (∀ fs, td ≠ .struct fs) → (∀ n e, td ≠ .array n e) → ag = none → ∃ v d, (part t vs.toArray off).run P C.w = .ok v C.w ∧ Rep C d v ∧ K d := by
   intro h1 h2 hn
   subst hn
   simp only [loadRow] at h
   split at h
   ·rename_i d hd
    have hlt : off < vs.length := by rw [← hl]; exact (List.getElem?_eq_some_iff.1 hd).1
    have hv : vs[off]? = some vs[off] := List.getElem?_eq_getElem hlt
    refine ⟨vs[off], d, ?_, hr off d _ hd hv, h⟩
    have hag : (isAgg t).run P C.w = .ok false C.w := by
     simp only [isAgg, Sem.run_bind, run_underlying hu, Result.andThen_ok]
     cases td <;> first | rfl | exact absurd rfl (h1 _) | exact absurd rfl (h2 _ _)
    simp only [part, Sem.run_bind, hag, Result.andThen_ok]
    simp [hlt]
   ·exact h.elim
  cases td with
  | struct fs =>
   simp only [Option.map_eq_some_iff] at hag
   obtain ⟨inf, hinf, rfl⟩ := hag
   simp only [loadRow] at h
   obtain ⟨hlen, hK⟩ := h
   refine ⟨.agg (((vs.drop off).take inf.size).toArray), .agg ((cs.drop off).take inf.size), ?_, ?_, hK⟩
   ·have hag : (isAgg t).run P C.w = .ok true C.w := by
     simp only [isAgg, Sem.run_bind, run_underlying hu, Result.andThen_ok]; rfl
    simp only [part, Sem.run_bind, hag, Result.andThen_ok, if_true, run_sizeOf' hinf, Sem.run_pure]
    congr 2
    apply Array.ext'
    simp [List.take_drop]
   ·refine .agg _ _ (by simp [hl]) fun m d v hd hv => ?_
    rw [List.getElem?_take] at hd hv
    split at hd
    ·rename_i hm
     rw [if_pos hm, List.getElem?_drop] at hv
     rw [List.getElem?_drop] at hd
     exact hr _ d v hd hv
    ·cases hd
  | array n e => simp at hag
  | _ => exact plain (by intros; simp) (by intros; simp) (by simpa using hag.symm)
theorem sound_fld {t : TypeId} {x : Operand} {f : Nat} {fs : Array Field} {fd : Field} {ag : Option Nat} {lx : LO} (ho : o.op = .field t x f) (hu : P.underlying t = some (.struct fs)) (hf : fs[f]? = some fd)
  (hag : lowAg P fd.type = some ag) (hx : loOf x = some lx) : Sound P o (.fld fd.offset ag lx) := by
 intro dr C a ρ K hi hp hr h
 have rx := hr.at hp hx (by simp [ho, Op.operands])
 simp only [LK.run] at h
 split at h
 ·rename_i cs hρ
  rw [hρ] at rx
  obtain ⟨vs, hv, hl, hc⟩ := rep_agg rx
  obtain ⟨v, d, hrun, hrep, hk⟩ := part_row (P := P) hl hc hag h
  exact .here hi (by simp only [execOp, ho, hv, Instr.field, Sem.run_bind, run_underlying hu, Result.andThen_ok, hf, asAgg, Sem.run_pure, hrun]) hrep hk
 ·exact h.elim
theorem sound_conv {s t : TypeId} {x : Operand} {k : IntKind} {sd : TypeDesc} {lx : LO} (ho : o.op = .convert s t x) (hs : P.underlying s = some sd) (ht : P.underlying t = some (.int k)) (hx : loOf x = some lx) : Sound P o (.conv k lx) := by
 intro dr C a ρ K hi hp hr h
 have rx := hr.at hp hx (by simp [ho, Op.operands])
 simp only [LK.run] at h
 split at h
 ·rename_i q n hρ
  rw [hρ] at rx
  refine .here (v := .int k (k.wrap n)) hi ?_ (.pure (.int _ _)) h
  simp only [execOp, ho, rep_int rx, Go.convert, Sem.run_bind, run_underlying hs, run_underlying ht, Result.andThen_ok]
  cases sd <;> simp [Conv.intToInt]
 ·exact h.elim
theorem sound_same {s t : TypeId} {x : Operand} {sd : TypeDesc} {lx : LO} (ho : o.op = .convert s t x) (hs : P.underlying s = some sd) (ht : P.underlying t = some .string) (hx : loOf x = some lx) : Sound P o (.same lx) := by
 intro dr C a ρ K hi hp hr h
 have rx := hr.at hp hx (by simp [ho, Op.operands])
 simp only [LK.run] at h
 split at h
 ·rename_i s' hρ
  rw [hρ] at rx
  refine .here (v := .string s') hi ?_ (.pure (.str _)) h
  simp only [execOp, ho, rep_str rx, Go.convert, Sem.run_bind, run_underlying hs, run_underlying ht, Result.andThen_ok]
  cases sd <;> simp
 ·exact h.elim
theorem push_all (f : Int → UInt8) : ∀ (ns : List Int) (s : ByteArray), ns.foldl (fun r n => r.push (f n)) s = ⟨s.data ++ (ns.map f).toArray⟩
 | [], s => by simp
 | n :: ns, s => by
  rw [List.foldl_cons, push_all f ns]
  congr 1
  simp [ByteArray.push]
theorem bytesOf_spec : ∀ {rows : List (List D)} {l : List UInt8}, bytesOf rows = some l → l.length = rows.length ∧ ∀ (j : Nat) r, rows[j]? = some r → ∃ n : Int, r = [.int .u8 n] ∧ l[j]? = some (UInt8.ofNat n.toNat)
 | [], l, h => by simp [bytesOf] at h; subst h; simp
 | r :: rows, l, h => by
  unfold bytesOf at h
  split at h
  ·rename_i heq; cases heq
  ·rename_i n rest heq
   cases heq
   simp only [Option.map_eq_some_iff] at h
   obtain ⟨l', hl', rfl⟩ := h
   obtain ⟨h1, h2⟩ := bytesOf_spec hl'
   refine ⟨by simp [h1], fun j r hj => ?_⟩
   cases j with
   | zero => simp at hj; subst hj; exact ⟨n, rfl, by simp⟩
   | succ j => simp at hj; simpa using h2 j r hj
  ·cases h
theorem rep_list {nl : Option Bool} {tg : Bool} {rows : List (List D)} {v : Value} (h : Rep C (.list nl tg rows) v) : ∃ (A : Option Addr) (cap sz : Nat), v = .slice A rows.length cap ∧ (∀ b, nl = some b → b = A.isNone) ∧ (A = none → cap = 0) ∧ rows.length ≤ cap ∧
  (tg = true → cap = rows.length) ∧ (∀ r, r ∈ rows → r.length = sz) ∧ (∀ r, r ∈ rows → ∀ d, d ∈ r → d.pt1 = true) ∧ (∀ ad, A = some ad → rows ≠ [] → C.good ad.block) ∧
  (∀ (j i : Nat) r d, rows[j]? = some r → r[i]? = some d → ∃ ad v, A = some ad ∧ C.w.cell? (ad.add (j * sz + i)) = some v ∧ PRep C.good C.w d v) := by
 cases h with
 | pure h => cases h with
  | list nl tg rows A cap sz vf h1 h2 h3 h4 h5 h9 h6 h7 h8 =>
   refine ⟨A, cap, sz, rfl, h1, h2, h3, h4, h5, h9, h6, fun j i r d hj hi => ?_⟩
   obtain ⟨ad, ha, hc⟩ := h7 j i r d hj hi
   exact ⟨ad, _, ha, hc, h8 j i r d hj hi⟩
theorem prep_list {G : Nat → Prop} {w : World} {nl : Option Bool} {tg : Bool} {rows : List (List D)} {v : Value} (h : PRep G w (.list nl tg rows) v) : ∃ (A : Option Addr) (cap sz : Nat), v = .slice A rows.length cap ∧ (∀ b, nl = some b → b = A.isNone) ∧ (A = none → cap = 0) ∧ rows.length ≤ cap ∧
  (tg = true → cap = rows.length) ∧ (∀ r, r ∈ rows → r.length = sz) ∧ (∀ r, r ∈ rows → ∀ d, d ∈ r → d.pt1 = true) ∧ (∀ ad, A = some ad → rows ≠ [] → G ad.block) ∧
  (∀ (j i : Nat) r d, rows[j]? = some r → r[i]? = some d → ∃ ad v, A = some ad ∧ w.cell? (ad.add (j * sz + i)) = some v ∧ PRep G w d v) := by
 cases h with
 | list nl tg rows A cap sz vf h1 h2 h3 h4 h5 h9 h6 h7 h8 =>
  refine ⟨A, cap, sz, rfl, h1, h2, h3, h4, h5, h9, h6, fun j i r d hj hi => ?_⟩
  obtain ⟨ad, ha, hc⟩ := h7 j i r d hj hi
  exact ⟨ad, _, ha, hc, h8 j i r d hj hi⟩
theorem own_list (hi : Inv C) {l i k n z : Nat} {cl : Option Nat} {v : Value} (h : Rep C (.own l i k n z cl) v) {o : Ob} (ho : C.σ[l]? = some o) (hn : o.rows.length = n) (hp : ∀ r ∈ winD i k n o.rows, ∀ d ∈ r, d.pt1 = true)
  {G : Nat → Prop} (hG : ∀ b, C.good b → G b) (hGb : ∀ b, C.bs[l]? = some b → o.real = true → G b) : PRep G C.w (.list none false (winD i k n o.rows)) v := by
 obtain ⟨A, cap, ob, b, rfl, q1, q2, q3, q3', q4, q5, q5', q6, q7⟩ := rep_own h
 rw [ho] at q1; cases q1
 have hO := hi.ob l o b ho q2
 have hlen := winD_length (i := i) (k := k) hn q3'
 by_cases hreal : o.real = true
 ·obtain ⟨⟨ad, rfl, hadr⟩, r2, r3, r4, arr, e, r5, r6, r7⟩ := q6 hn hreal
  obtain ⟨hF, arr', e', h1, h2, h3⟩ := hO.blk hreal
  rw [r5] at h1; cases h1
  have key : ∀ (j i' : Nat) r d, (winD i k n o.rows)[j]? = some r → r[i']? = some d → ad = ⟨b, i * o.sz, none⟩ ∧ ∃ v, arr[i * o.sz + (j * o.sz + i')]? = some v ∧ Rep C d v := by
   intro j i' r d hj hi'
   obtain ⟨hj', hjk⟩ := winD_get hn hj
   obtain ⟨v, hv, hrep⟩ := h3 _ i' r d hj' hi'
   exact ⟨hadr (by omega), v, by rw [← Nat.add_assoc, ← Nat.add_mul]; exact hv, hrep⟩
  have hres := PRep.list (G := G) (w := C.w) none false (winD i k n o.rows) (some ad) cap o.sz (fun j i' => (arr[i * o.sz + (j * o.sz + i')]?).getD undef) (by simp) (by simp) (by rw [hlen]; exact r2) (by simp)
   (fun r hr => hO.sz r (winD_mem hr)) (fun r hr d hd => hp r hr d hd) (fun ad' had hne => ?_) (fun j i' r d hj hi' => ?_) (fun j i' r d hj hi' => ?_)
  ·rw [hlen] at hres; exact hres
  ·cases had
   have : 0 < k := by have := List.length_pos_iff.2 hne; omega
   rw [hadr (by omega)]
   exact hGb b q2 hreal
  ·obtain ⟨rfl, v, hv, _⟩ := key j i' r d hj hi'
   refine ⟨_, rfl, ?_⟩
   rw [lit_add, cell_of_row C.w b _ arr e (0, 0) r5, hv]; rfl
  ·obtain ⟨rfl, v, hv, hrep⟩ := key j i' r d hj hi'
   rw [hv]
   exact (hrep.of_pt1 (hp r (List.mem_of_getElem? hj) d (List.mem_of_getElem? hi'))).mono hG (fun _ _ => rfl)
 ·have hr : o.real = false := by simpa using hreal
  obtain ⟨r1, r2, r3⟩ := q7 hn hr
  subst r1
  have : winD i 0 n o.rows = [] := List.eq_nil_of_length_eq_zero hlen
  rw [this, r2]
  exact .list none false [] A 0 o.sz (fun _ _ => undef) (by simp) (by simp) (by simp) (by simp) (by simp) (by simp) (by simp) (by simp) (by simp)
theorem viewS_own {l i k n z : Nat} {cl : Option Nat} {rows : List (List D)} (hi : Inv C) {v : Value} (h : Rep C (.own l i k n z cl) v) (hv : viewS C.σ (.own l i k n z cl) = some rows) {G : Nat → Prop} (hG : ∀ b, C.good b → G b)
  (hGb : ∀ o b, C.σ[l]? = some o → C.bs[l]? = some b → o.real = true → G b) : PRep G C.w (.list none false rows) v := by
 simp only [viewS] at hv
 split at hv
 ·rename_i o ho
  split at hv
  ·rename_i hc
   cases hv
   obtain ⟨A, cap, ob, b, _, q1, q2, _⟩ := rep_own h
   rw [ho] at q1; cases q1
   refine own_list hi h ho hc.1 (fun r hr d hd => ?_) hG (fun b hb hr => hGb o b ho hb hr)
   rcases Bool.or_eq_true _ _ |>.mp hc.2 with hp | hp
   ·exact (hi.ob l o b ho q2).pure hp r (winD_mem hr) d hd
   ·exact List.all_eq_true.1 (List.all_eq_true.1 hp r hr) d hd
  ·cases hv
 ·cases hv
theorem viewS_rep (hi : Inv C) {d : D} {v : Value} (h : Rep C d v) {rows : List (List D)} (hv : viewS C.σ d = some rows) : ∃ nl tg, PRep (fun b => b < C.w.heap.size ∧ ¬ C.F b) C.w (.list nl tg rows) v := by
 cases d with
 | list nl tg rows' =>
  simp only [viewS, Option.some.injEq] at hv
  subst hv
  cases h with
  | pure h => exact ⟨nl, tg, h.mono (fun b hb => ⟨hb.1, hb.2.1⟩) fun _ _ => rfl⟩
 | own l i k n z cl =>
  exact ⟨none, false, viewS_own hi h hv (fun b hb => ⟨hb.1, hb.2.1⟩) fun o b ho hb hr => ⟨hi.lt ho hb hr, ((hi.ob l o b ho hb).blk hr).1⟩⟩
 | _ => simp [viewS] at hv
theorem sound_b2s {s t e : TypeId} {x : Operand} {lx : LO} (ho : o.op = .convert s t x) (hs : P.underlying s = some (.slice e)) (he : P.underlying e = some (.int .u8)) (ht : P.underlying t = some .string) (hx : loOf x = some lx) : Sound P o (.b2s lx) := by
 intro dr C a ρ K hi hp hr h
 have rx := hr.at hp hx (by simp [ho, Op.operands])
 simp only [LK.run] at h
 split at h
 ·rename_i rows hρ
  split at h
  ·rename_i l hl
   obtain ⟨nl, tg, rx'⟩ := viewS_rep hi rx hρ
   obtain ⟨A, cap, sz, hv, h1, h2, h3, h4, h5, h9, h6, h7⟩ := prep_list rx'
   obtain ⟨hlen, hspec⟩ := bytesOf_spec hl
   have hb : (Conv.bytesToString (.slice A rows.length cap)).run P C.w = .ok (.string ⟨l.toArray⟩) C.w := by
    cases A with
    | none =>
     have : rows = [] := List.eq_nil_of_length_eq_zero (by have := h2 rfl; omega)
     subst this
     have : l = [] := List.eq_nil_of_length_eq_zero (by simpa using hlen)
     subst this
     simp [Conv.bytesToString]; rfl
    | some ad =>
     have hsz : ∀ j r, rows[j]? = some r → sz = 1 := fun j r hj => by
      obtain ⟨n, rfl, _⟩ := hspec j r hj
      have := h5 _ (List.mem_of_getElem? hj); simpa using this.symm
     have hcell : ∀ j, j < rows.length → ∃ n : Int, C.w.cell? (ad.add j) = some (.int .u8 n) ∧ l[j]? = some (UInt8.ofNat n.toNat) := fun j hj => by
      have hr : rows[j]? = some rows[j] := List.getElem?_eq_getElem hj
      obtain ⟨n, hn, hln⟩ := hspec j _ hr
      obtain ⟨ad', v, ha, hc, hrep⟩ := h7 j 0 _ (.int .u8 n) hr (by simp [hn])
      cases ha
      have := hsz j _ hr
      subst this
      cases hrep
      exact ⟨n, by simpa using hc, hln⟩
     have hns : ∃ ns : List Int, ns.length = rows.length ∧ (∀ j n, ns[j]? = some n → C.w.cell? (ad.add j) = some (.int .u8 n) ∧ l[j]? = some (UInt8.ofNat n.toNat)) := by
      refine ⟨(List.range rows.length).map fun j => match C.w.cell? (ad.add j) with | some (.int _ n) => n | _ => 0, by simp, fun j n hj => ?_⟩
      have hlt : j < rows.length := by have := (List.getElem?_eq_some_iff.1 hj).1; simpa using this
      obtain ⟨n', hc, hl'⟩ := hcell j hlt
      simp [hlt, hc] at hj
      subst hj
      exact ⟨hc, hl'⟩
     obtain ⟨ns, hnl, hn⟩ := hns
     have hld : (loadCells ad rows.length).run P C.w = .ok (ns.map (Value.int .u8)).toArray C.w := by
      have := run_loadCells_list (P := P) C.w ad (ns.map (Value.int .u8)) (fun j v hj => by
       simp only [List.getElem?_map, Option.map_eq_some_iff] at hj
       obtain ⟨n, hn', rfl⟩ := hj
       exact (hn j n hn').1)
      simpa [hnl] using this
     rw [run_bytesToString (P := P) C.w ad rows.length cap ns hld]
     have el : l = ns.map fun n => UInt8.ofNat n.toNat := by
      apply List.ext_getElem?
      intro j
      by_cases hj : j < ns.length
      ·have e := List.getElem?_eq_getElem hj
       rw [(hn j _ e).2, List.getElem?_map, e]; rfl
      ·rw [List.getElem?_eq_none (by omega), List.getElem?_eq_none (by simp; omega)]
     rw [push_all, el]
     simp
   refine .here (v := .string ⟨l.toArray⟩) hi ?_ (.pure (.str _)) h
   simp only [execOp, ho, hv, Go.convert, Sem.run_bind, run_underlying hs, run_underlying ht, run_underlying he, Result.andThen_ok, hb, Sem.run_pure]
  ·exact h.elim
 ·exact h.elim
end
end Go.Vi
