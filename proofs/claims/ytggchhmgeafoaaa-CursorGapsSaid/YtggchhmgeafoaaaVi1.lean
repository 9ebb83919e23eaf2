import Derived.Below
import Derived.Laws.AppendOwn
import Derived.Laws.CopyRow
import Derived.Orders
import Derived.KernelRfl
set_option linter.unusedVariables false
set_option linter.unusedSimpArgs false
set_option linter.unnecessarySimpa false
namespace Go.Vi
open Go Go.RowKit
inductive D where
 | undef
 | bool (b : Bool)
 | int (k : IntKind) (n : Int)
 | str (s : ByteArray)
 | nilp
 | nilfn
 | ptr (l j i n : Nat)
 | elt (row : List D) (i : Nat)
 | list (nl : Option Bool) (tg : Bool) (rows : List (List D))
 | own (l i k n sz : Nat) (cl : Option Nat)
 | agg (cs : List D)
 | tup (vs : List D)
 | fn (f : FuncId) (caps : List D)
 deriving Inhabited
structure Ob where
 real : Bool
 nl : Bool
 pure : Bool
 fz : Bool
 sz : Nat
 rows : List (List D)
 spare : Option Nat
 deriving Inhabited
def D.one : D → Bool
 | .undef | .agg _ | .tup _ => false
 | _ => true
def D.cell : D → Bool
 | .agg _ | .tup _ => false
 | _ => true
theorem D.one_cell {d : D} (h : d.one = true) : d.cell = true := by cases d <;> first | rfl | exact h
def D.pt0 : D → Bool
 | .bool _ | .int _ _ | .str _ | .nilp | .nilfn | .list _ _ _ | .elt _ _ => true
 | .fn _ caps => caps.isEmpty
 | _ => false
def D.pt1 : D → Bool
 | .bool _ | .int _ _ | .str _ | .nilp | .nilfn | .list _ _ _ | .elt _ _ => true
 | .fn _ caps => caps.all D.pt0
 | _ => false
def D.pt : D → Bool
 | .agg cs => cs.all D.pt1
 | d => d.pt1
theorem pt1_one {d : D} (h : d.pt1 = true) : d.one = true := by cases d <;> first | rfl | (simp [D.pt1] at h)
def bB : Nat := 4096
def fnV (f : FuncId) (vs : List Value) : Value := if f < bB then .func (.func f) #[] vs.toArray else .func (.func (f - bB)) vs.toArray #[]
theorem fnV_lt {f : FuncId} {vs : List Value} (h : f < bB) : fnV f vs = .func (.func f) #[] vs.toArray := if_pos h
theorem fnV_ge {f : FuncId} {vs : List Value} (h : ¬ f < bB) : fnV f vs = .func (.func (f - bB)) vs.toArray #[] := if_neg h
theorem fnV_func (f : FuncId) (vs : List Value) : ∃ g a b, fnV f vs = .func (.func g) a b := by
 unfold fnV; split <;> exact ⟨_, _, _, rfl⟩
inductive PRep (G : Nat → Prop) (w : World) : D → Value → Prop
 | bool (b : Bool) : PRep G w (.bool b) (.bool b)
 | int (k : IntKind) (n : Int) : PRep G w (.int k n) (.int k n)
 | str (s : ByteArray) : PRep G w (.str s) (.string s)
 | nilp : PRep G w .nilp (.pointer none)
 | nilfn : PRep G w .nilfn .nilFunc
 | fn (f : FuncId) (cs : List D) (vs : List Value) (h : cs.length = vs.length) (h' : ∀ (i : Nat) d v, cs[i]? = some d → vs[i]? = some v → PRep G w d v) : PRep G w (.fn f cs) (fnV f vs)
 | list (nl : Option Bool) (tg : Bool) (rows : List (List D)) (A : Option Addr) (cap sz : Nat) (vf : Nat → Nat → Value)
   (h1 : ∀ b, nl = some b → b = A.isNone) (h2 : A = none → cap = 0) (h3 : rows.length ≤ cap) (h4 : tg = true → cap = rows.length)
   (h5 : ∀ r, r ∈ rows → r.length = sz) (h9 : ∀ r, r ∈ rows → ∀ d, d ∈ r → d.pt1 = true) (h6 : ∀ ad, A = some ad → rows ≠ [] → G ad.block)
   (h7 : ∀ j i r d, rows[j]? = some r → r[i]? = some d → ∃ ad, A = some ad ∧ w.cell? (ad.add (j * sz + i)) = some (vf j i))
   (h8 : ∀ j i r d, rows[j]? = some r → r[i]? = some d → PRep G w d (vf j i)) : PRep G w (.list nl tg rows) (.slice A rows.length cap)
 | agg (cs : List D) (vs : List Value) (h : cs.length = vs.length) (h' : ∀ (i : Nat) d v, cs[i]? = some d → vs[i]? = some v → PRep G w d v) : PRep G w (.agg cs) (.agg vs.toArray)
 | tup (cs : List D) (vs : List Value) (h : cs.length = vs.length) (h' : ∀ (i : Nat) d v, cs[i]? = some d → vs[i]? = some v → PRep G w d v) : PRep G w (.tup cs) (.tuple vs.toArray)
 | elt (row : List D) (i : Nat) (ad : Addr) (vf : Nat → Value) (hg : G ad.block)
   (h7 : ∀ i' d, row[i + i']? = some d → w.cell? (ad.add i') = some (vf i')) (h8 : ∀ i' d, row[i + i']? = some d → PRep G w d (vf i')) : PRep G w (.elt row i) (.pointer (some ad))
theorem PRep.mono {G G' : Nat → Prop} {w w' : World} (hg : ∀ b, G b → G' b) (hw : ∀ b, G b → w'.heap[b]? = w.heap[b]?) {d : D} {v : Value} (h : PRep G w d v) : PRep G' w' d v := by
 induction h with
 | bool b => exact .bool b
 | int k n => exact .int k n
 | str s => exact .str s
 | nilp => exact .nilp
 | nilfn => exact .nilfn
 | fn f cs vs h h' ih => exact .fn f cs vs h ih
 | list nl tg rows A cap sz vf h1 h2 h3 h4 h5 h9 h6 h7 h8 ih =>
  refine .list nl tg rows A cap sz vf h1 h2 h3 h4 h5 h9 (fun ad ha hr => hg _ (h6 ad ha hr)) (fun j i r d hj hi => ?_) ih
  obtain ⟨ad, ha, hc⟩ := h7 j i r d hj hi
  have hne : rows ≠ [] := by rintro rfl; simp at hj
  have hb : (ad.add (j * sz + i)).block = ad.block := by unfold Addr.add; split <;> rfl
  exact ⟨ad, ha, by rw [World.cell?_of_block (w := w) (by rw [hb]; exact hw _ (h6 ad ha hne))]; exact hc⟩
 | agg cs vs h h' ih => exact .agg cs vs h ih
 | tup cs vs h h' ih => exact .tup cs vs h ih
 | elt row i ad vf h6 h7 h8 ih =>
  refine .elt row i ad vf (hg _ h6) (fun i' d hi => ?_) ih
  have hb : (ad.add i').block = ad.block := by unfold Addr.add; split <;> rfl
  rw [World.cell?_of_block (w := w) (by rw [hb]; exact hw _ h6)]
  exact h7 i' d hi
structure Ctx where
 F : Nat → Prop
 σ : List Ob
 bs : List Nat
 w : World
def Ctx.owned (C : Ctx) (b : Nat) : Prop := ∃ (l : Nat) (o : Ob), C.σ[l]? = some o ∧ o.real = true ∧ o.fz = false ∧ C.bs[l]? = some b
def Ctx.good (C : Ctx) (b : Nat) : Prop := b < C.w.heap.size ∧ ¬ C.F b ∧ ¬ C.owned b
inductive Rep (C : Ctx) : D → Value → Prop
 | pure {d : D} {v : Value} (h : PRep C.good C.w d v) : Rep C d v
 | undef (v : Value) : Rep C .undef v
 | ptr (l j i n : Nat) (o : Ob) (b : Nat) (ad : Addr) (ho : C.σ[l]? = some o) (hb : C.bs[l]? = some b) (hle : n ≤ o.rows.length)
   (hv : o.rows.length = n → o.real = true → ad = ⟨b, j * o.sz + i, none⟩) : Rep C (.ptr l j i n) (.pointer (some ad))
 | own (l i k n sz : Nat) (cl : Option Nat) (A : Option Addr) (cap : Nat) (o : Ob) (b : Nat) (ho : C.σ[l]? = some o) (hb : C.bs[l]? = some b) (hle : n ≤ o.rows.length) (hik : i + k ≤ n) (hsz : o.sz = sz) (hA : A = none → k = 0) (hkc : k ≤ cap)
   (hr : o.rows.length = n → o.real = true → (∃ ad, A = some ad ∧ (cap ≠ 0 → ad = ⟨b, i * o.sz, none⟩)) ∧ k ≤ cap ∧ cap ≤ maxLen ∧ (∀ m, cl = some m → i + cap = m) ∧
    ∃ arr e, C.w.heap[b]? = some (.cells arr e (0, 0)) ∧ (i + cap) * o.sz ≤ arr.size ∧ (cl = none → arr.size = (i + cap) * o.sz))
   (hn : o.rows.length = n → o.real = false → k = 0 ∧ cap = 0 ∧ o.nl = A.isNone) : Rep C (.own l i k n sz cl) (.slice A k cap)
 | agg (cs : List D) (vs : List Value) (h : cs.length = vs.length) (h' : ∀ (i : Nat) d v, cs[i]? = some d → vs[i]? = some v → Rep C d v) : Rep C (.agg cs) (.agg vs.toArray)
 | tup (cs : List D) (vs : List Value) (h : cs.length = vs.length) (h' : ∀ (i : Nat) d v, cs[i]? = some d → vs[i]? = some v → Rep C d v) : Rep C (.tup cs) (.tuple vs.toArray)
 | fn (f : FuncId) (cs : List D) (vs : List Value) (h : cs.length = vs.length) (h' : ∀ (i : Nat) d v, cs[i]? = some d → vs[i]? = some v → Rep C d v) : Rep C (.fn f cs) (fnV f vs)
theorem Rep.of_pt0 {C : Ctx} {d : D} {v : Value} (h : Rep C d v) (hd : d.pt0 = true) : PRep C.good C.w d v := by
 cases h with
 | pure h => exact h
 | fn f cs vs hl h' =>
  simp only [D.pt0, List.isEmpty_iff] at hd
  subst hd
  have hv : vs = [] := List.eq_nil_of_length_eq_zero (by simpa using hl.symm)
  subst hv
  exact .fn f [] [] rfl (by simp)
 | _ => simp [D.pt0] at hd
theorem Rep.of_pt1 {C : Ctx} {d : D} {v : Value} (h : Rep C d v) (hd : d.pt1 = true) : PRep C.good C.w d v := by
 cases h with
 | pure h => exact h
 | fn f cs vs hl h' =>
  simp only [D.pt1, List.all_eq_true] at hd
  exact .fn f cs vs hl fun i d v hi hv => (h' i d v hi hv).of_pt0 (hd d (List.mem_of_getElem? hi))
 | _ => simp [D.pt1] at hd
structure Ext (C C' : Ctx) : Prop where
 F : C'.F = C.F
 os : C'.w.os = C.w.os
 tape : C'.w.tape = C.w.tape
 output : C'.w.output = C.w.output
 size : C.w.heap.size ≤ C'.w.heap.size
 blk : ∀ b, b < C.w.heap.size → ¬ C.owned b → C'.w.heap[b]? = C.w.heap[b]? ∧ ¬ C'.owned b
 ob : ∀ (l : Nat) o b, C.σ[l]? = some o → C.bs[l]? = some b → ∃ o' b', C'.σ[l]? = some o' ∧ C'.bs[l]? = some b' ∧ o'.sz = o.sz ∧ o.rows.length ≤ o'.rows.length ∧
  (o.rows.length = o'.rows.length → b' = b ∧ o'.real = o.real ∧ o'.nl = o.nl ∧ (o.real = true → ∀ arr e, C.w.heap[b]? = some (.cells arr e (0, 0)) → ∃ arr', C'.w.heap[b]? = some (.cells arr' e (0, 0)) ∧ arr'.size = arr.size))
theorem Ext.refl (C : Ctx) : Ext C C :=
 ⟨rfl, rfl, rfl, rfl, Nat.le_refl _, fun _ _ h => ⟨rfl, h⟩, fun l o b ho hb => ⟨o, b, ho, hb, rfl, Nat.le_refl _, fun _ => ⟨rfl, rfl, rfl, fun _ arr _ h => ⟨arr, h, rfl⟩⟩⟩⟩
theorem Ext.trans {A B C : Ctx} (h : Ext A B) (k : Ext B C) : Ext A C := by
 refine ⟨k.F.trans h.F, k.os.trans h.os, k.tape.trans h.tape, k.output.trans h.output, Nat.le_trans h.size k.size, fun b hb ho => ?_, fun l o b ho hb => ?_⟩
 ·obtain ⟨h1, h2⟩ := h.blk b hb ho
  obtain ⟨k1, k2⟩ := k.blk b (Nat.lt_of_lt_of_le hb h.size) h2
  exact ⟨k1.trans h1, k2⟩
 ·obtain ⟨o1, b1, ho1, hb1, hs1, hl1, he1⟩ := h.ob l o b ho hb
  obtain ⟨o2, b2, ho2, hb2, hs2, hl2, he2⟩ := k.ob l o1 b1 ho1 hb1
  refine ⟨o2, b2, ho2, hb2, hs2.trans hs1, Nat.le_trans hl1 hl2, fun he => ?_⟩
  obtain ⟨rfl, hr1, hn1, ha1⟩ := he1 (by omega)
  obtain ⟨rfl, hr2, hn2, ha2⟩ := he2 (by omega)
  refine ⟨rfl, hr2.trans hr1, hn2.trans hn1, fun hr arr e harr => ?_⟩
  obtain ⟨arr1, harr1, hz1⟩ := ha1 hr arr e harr
  obtain ⟨arr2, harr2, hz2⟩ := ha2 (hr1.trans hr) arr1 e harr1
  exact ⟨arr2, harr2, hz2.trans hz1⟩
theorem Ext.good {C C' : Ctx} (h : Ext C C') {b : Nat} (hb : C.good b) : C'.good b ∧ C'.w.heap[b]? = C.w.heap[b]? := by
 obtain ⟨h1, h2, h3⟩ := hb
 obtain ⟨k1, k2⟩ := h.blk b h1 h3
 exact ⟨⟨Nat.lt_of_lt_of_le h1 h.size, by rw [h.F]; exact h2, k2⟩, k1⟩
theorem Rep.ext {C C' : Ctx} (hx : Ext C C') {d : D} {v : Value} (h : Rep C d v) : Rep C' d v := by
 induction h with
 | pure h => exact .pure (h.mono (fun b hb => (hx.good hb).1) (fun b hb => (hx.good hb).2))
 | undef v => exact .undef v
 | ptr l j i n o b v ho hb hle hv =>
  obtain ⟨o', b', ho', hb', hs, hl, he⟩ := hx.ob l o b ho hb
  refine .ptr l j i n o' b' v ho' hb' (Nat.le_trans hle hl) fun hn hr => ?_
  obtain ⟨rfl, e1, _⟩ := he (by omega)
  rw [hs]; exact hv (by omega) (e1.symm.trans hr)
 | own l i k n sz cl A cap o b ho hb hle hik hsz hA hkc hr hn =>
  obtain ⟨o', b', ho', hb', hs, hl, he⟩ := hx.ob l o b ho hb
  refine .own l i k n sz cl A cap o' b' ho' hb' (Nat.le_trans hle hl) hik (hs.trans hsz) hA hkc (fun h1 h2 => ?_) (fun h1 h2 => ?_)
  ·obtain ⟨rfl, e1, e2, e3⟩ := he (by omega)
   rw [e1] at h2
   obtain ⟨r1, r2, r3, r4, arr, e, r5, r6, r7⟩ := hr (by omega) h2
   obtain ⟨arr', r5', r6'⟩ := e3 h2 arr e r5
   rw [hs]
   exact ⟨r1, r2, r3, r4, arr', e, r5', by rw [r6']; exact r6, fun h => by rw [r6']; exact r7 h⟩
  ·obtain ⟨rfl, e1, e2, e3⟩ := he (by omega)
   rw [e1] at h2
   obtain ⟨a1, a2, a4⟩ := hn (by omega) h2
   exact ⟨a1, a2, e2.trans a4⟩
 | agg cs vs h h' ih => exact .agg cs vs h ih
 | tup cs vs h h' ih => exact .tup cs vs h ih
 | fn f cs vs h h' ih => exact .fn f cs vs h ih
structure ObOK (C : Ctx) (o : Ob) (b : Nat) : Prop where
 rows : o.real = false → o.rows = []
 sz : ∀ r, r ∈ o.rows → r.length = o.sz
 pos : 0 < o.sz
 one : ∀ r, r ∈ o.rows → ∀ d, d ∈ r → d.cell = true
 block : o.real = true → ¬ C.F b ∧ ∃ arr e q, C.w.heap[b]? = some (.cells arr e (0, 0)) ∧ arr.size = q * o.sz ∧ o.rows.length ≤ q ∧ q ≤ maxLen ∧ (∀ c, o.spare = some c → q = o.rows.length + c) ∧
  ∀ (j i : Nat) r d, o.rows[j]? = some r → r[i]? = some d → ∃ v, arr[j * o.sz + i]? = some v ∧ Rep C d v
 pure : o.pure = true → ∀ r, r ∈ o.rows → ∀ d, d ∈ r → d.pt1 = true
 frozen : o.real = true → o.fz = true → ¬ C.owned b
theorem ObOK.blk {C : Ctx} {o : Ob} {b : Nat} (h : ObOK C o b) (hr : o.real = true) : ¬ C.F b ∧ ∃ arr e, C.w.heap[b]? = some (.cells arr e (0, 0)) ∧ o.rows.length * o.sz ≤ arr.size ∧
  ∀ (j i : Nat) r d, o.rows[j]? = some r → r[i]? = some d → ∃ v, arr[j * o.sz + i]? = some v ∧ Rep C d v := by
 obtain ⟨hF, arr, e, q, h1, h2, h3, _, _, h4⟩ := h.block hr
 exact ⟨hF, arr, e, h1, by rw [h2]; exact Nat.mul_le_mul_right _ h3, h4⟩
theorem PRep.fn0 {G : Nat → Prop} {w : World} (f : FuncId) (hf : f < bB) : PRep G w (.fn f []) (.func (.func f) #[] #[]) := by
 have h := PRep.fn (G := G) (w := w) f [] [] rfl (by simp)
 rw [fnV_lt hf] at h
 exact h
structure Inv (C : Ctx) : Prop where
 F : ∀ b, C.F b → b < C.w.heap.size
 len : C.bs.length = C.σ.length
 ob : ∀ (l : Nat) o b, C.σ[l]? = some o → C.bs[l]? = some b → ObOK C o b
 dis : ∀ (l l' : Nat) o o' b, C.σ[l]? = some o → C.σ[l']? = some o' → o.real = true → o'.real = true → o.fz = false → o'.fz = false → C.bs[l]? = some b → C.bs[l']? = some b → l = l'
abbrev Env := List (Nat × D)
def lk : Env → Nat → D
 | [], _ => .undef
 | (k, d) :: e, n => if k = n then d else lk e n
def put (e : Env) (dst : Option Nat) (d : D) : Env := match dst with | some k => (k, d) :: e | none => e
structure St (C : Ctx) (env : Env) (a : Act) (N : Nat) : Prop where
 inv : Inv C
 size : a.tmps.size = N
 defers : a.defers = []
 rep : ∀ t, Rep C (lk env t) (a.tmps.getD t undef)
theorem St.put {C : Ctx} {env : Env} {a : Act} {N : Nat} (h : St C env a N) {dst : Option Nat} (hd : ∀ k, dst = some k → k < N) {d : D} {v : Value} (hr : Rep C d v) :
  St C (put env dst d) (a.put dst v) N := by
 cases dst with
 | none => exact ⟨h.inv, h.size, h.defers, h.rep⟩
 | some k =>
  refine ⟨h.inv, by simpa [Act.put] using h.size, h.defers, fun t => ?_⟩
  have hk := hd k rfl
  rw [← h.size] at hk
  show Rep C (if k = t then d else lk env t) _
  by_cases e : k = t
  ·subst e; simp [Act.put, hk]; exact hr
  ·rw [if_neg e]
   have := h.rep t
   simpa [Act.put, Array.getElem?_setIfInBounds_ne e] using this
theorem Inv.ext {C C' : Ctx} (hx : Ext C C') (hσ : C'.σ = C.σ) (hbs : C'.bs = C.bs) (h : Inv C)
  (hh : ∀ (l : Nat) o b, C.σ[l]? = some o → C.bs[l]? = some b → o.real = true → C'.w.heap[b]? = C.w.heap[b]?) : Inv C' := by
 have hown : ∀ b, C'.owned b → C.owned b := by
  rintro b ⟨l, o, h1, h2, h3, h4⟩
  rw [hσ] at h1; rw [hbs] at h4
  exact ⟨l, o, h1, h2, h3, h4⟩
 refine ⟨fun b hb => Nat.lt_of_lt_of_le (h.F b (by rw [← hx.F]; exact hb)) hx.size, by rw [hσ, hbs]; exact h.len, fun l o b ho hb => ?_, fun l l' o o' b ho ho' => ?_⟩
 ·rw [hσ] at ho; rw [hbs] at hb
  have k := h.ob l o b ho hb
  refine ⟨k.rows, k.sz, k.pos, k.one, fun hr => ?_, k.pure, fun hr hf ho' => k.frozen hr hf (hown b ho')⟩
  obtain ⟨hF, arr, e, q, h1, h2, h2', h2'', h2s, h3⟩ := k.block hr
  refine ⟨by rw [hx.F]; exact hF, arr, e, q, by rw [hh l o b ho hb hr]; exact h1, h2, h2', h2'', h2s, fun j i r d hj hi => ?_⟩
  obtain ⟨v, hv, hrep⟩ := h3 j i r d hj hi
  exact ⟨v, hv, hrep.ext hx⟩
 ·rw [hσ] at ho ho'; rw [hbs]
  exact h.dis l l' o o' b ho ho'
theorem St.ext {C C' : Ctx} (hx : Ext C C') (hi : Inv C') {env : Env} {a : Act} {N : Nat} (h : St C env a N) : St C' env a N :=
 ⟨hi, h.size, h.defers, fun t => (h.rep t).ext hx⟩
theorem Ext.later {C : Ctx} {w' : World} (hb : Below C.w.heap.size C.w w') (h : Inv C) : Ext C { C with w := w' } ∧ Inv { C with w := w' } := by
 have lt : ∀ (l : Nat) o b, C.σ[l]? = some o → C.bs[l]? = some b → o.real = true → b < C.w.heap.size := by
  intro l o b ho hb hr
  obtain ⟨_, arr, e, _, h1, _⟩ := (h.ob l o b ho hb).block hr
  exact (Array.getElem?_eq_some_iff.1 h1).1
 have hx : Ext C { C with w := w' } := by
  refine ⟨rfl, hb.os, hb.tape, hb.output, hb.size, fun b hlt ho => ⟨hb.block b hlt, ho⟩, fun l o b ho hb' => ⟨o, b, ho, hb', rfl, Nat.le_refl _, fun _ => ⟨rfl, rfl, rfl, fun hr arr e harr => ⟨arr, ?_, rfl⟩⟩⟩⟩
  rw [show ({ C with w := w' } : Ctx).w = w' from rfl, hb.block b (lt l o b ho hb' hr)]
  exact harr
 exact ⟨hx, h.ext hx rfl rfl fun l o b ho hb' hr => hb.block b (lt l o b ho hb' hr)⟩
theorem getElem?_snoc {α : Type} {l : List α} {x : α} {n : Nat} {y : α} (h : (l ++ [x])[n]? = some y) : l[n]? = some y ∨ (n = l.length ∧ y = x) := by
 by_cases hn : n < l.length
 ·rw [List.getElem?_append_left hn] at h; exact .inl h
 ·rw [List.getElem?_append_right (by omega)] at h
  have : n - l.length = 0 := by
   have := (List.getElem?_eq_some_iff.1 h).1
   simp at this; omega
  rw [this] at h
  simp at h
  exact .inr ⟨by omega, h.symm⟩
theorem Inv.lt {C : Ctx} (h : Inv C) {l : Nat} {o : Ob} {b : Nat} (ho : C.σ[l]? = some o) (hb : C.bs[l]? = some b) (hr : o.real = true) : b < C.w.heap.size := by
 obtain ⟨_, arr, e, _, h1, _⟩ := (h.ob l o b ho hb).block hr
 exact (Array.getElem?_eq_some_iff.1 h1).1
theorem newOb {C : Ctx} (hi : Inv C) {w' : World} (hB : Below C.w.heap.size C.w w') (ob : Ob) (b : Nat) (hfz : ob.fz = false) (hpos : 0 < ob.sz) (hsz : ∀ r, r ∈ ob.rows → r.length = ob.sz) (hone : ∀ r, r ∈ ob.rows → ∀ d, d ∈ r → d.cell = true) (hrows : ob.real = false → ob.rows = [])
  (hpure : ob.pure = true → ∀ r, r ∈ ob.rows → ∀ d, d ∈ r → d.pt1 = true)
  (hreal : ob.real = true → C.w.heap.size ≤ b ∧ ∃ arr e q, w'.heap[b]? = some (.cells arr e (0, 0)) ∧ arr.size = q * ob.sz ∧ ob.rows.length ≤ q ∧ q ≤ maxLen ∧ (∀ c, ob.spare = some c → q = ob.rows.length + c) ∧
   ∀ (j i : Nat) r d, ob.rows[j]? = some r → r[i]? = some d → ∃ v, arr[j * ob.sz + i]? = some v ∧ Rep C d v) :
  Ext C ⟨C.F, C.σ ++ [ob], C.bs ++ [b], w'⟩ ∧ Inv ⟨C.F, C.σ ++ [ob], C.bs ++ [b], w'⟩ := by
 have old : ∀ {l : Nat} {o : Ob}, C.σ[l]? = some o → (C.σ ++ [ob])[l]? = some o := fun {l o} h => by
  rw [List.getElem?_append_left (List.getElem?_eq_some_iff.1 h).1]; exact h
 have oldb : ∀ {l b' : Nat}, C.bs[l]? = some b' → (C.bs ++ [b])[l]? = some b' := fun {l o} h => by
  rw [List.getElem?_append_left (List.getElem?_eq_some_iff.1 h).1]; exact h
 have parts : ∀ {l : Nat} {o : Ob} {b' : Nat}, (C.σ ++ [ob])[l]? = some o → (C.bs ++ [b])[l]? = some b' → (C.σ[l]? = some o ∧ C.bs[l]? = some b') ∨ (l = C.σ.length ∧ o = ob ∧ b' = b) := by
  intro l o b' h1 h2
  rcases getElem?_snoc h1 with h1 | ⟨e1, rfl⟩
  ·rcases getElem?_snoc h2 with h2 | ⟨e2, rfl⟩
   ·exact .inl ⟨h1, h2⟩
   ·have := (List.getElem?_eq_some_iff.1 h1).1
    have := hi.len; omega
  ·rcases getElem?_snoc h2 with h2 | ⟨e2, rfl⟩
   ·have := (List.getElem?_eq_some_iff.1 h2).1
    have := hi.len; omega
   ·exact .inr ⟨e1, rfl, rfl⟩
 have hown : ∀ b', b' < C.w.heap.size → Ctx.owned ⟨C.F, C.σ ++ [ob], C.bs ++ [b], w'⟩ b' → C.owned b' := by
  rintro b' hlt ⟨l, o, h1, h2, h3, h4⟩
  rcases parts h1 h4 with ⟨h1, h4⟩ | ⟨_, rfl, rfl⟩
  ·exact ⟨l, o, h1, h2, h3, h4⟩
  ·have := (hreal h2).1; omega
 have hx : Ext C ⟨C.F, C.σ ++ [ob], C.bs ++ [b], w'⟩ := by
  refine ⟨rfl, hB.os, hB.tape, hB.output, hB.size, fun b' hlt ho => ⟨hB.block b' hlt, fun h => ho (hown b' hlt h)⟩, fun l o b' ho hb' => ⟨o, b', old ho, oldb hb', rfl, Nat.le_refl _, fun _ => ⟨rfl, rfl, rfl, fun hr arr e harr => ⟨arr, ?_, rfl⟩⟩⟩⟩
  rw [show (⟨C.F, C.σ ++ [ob], C.bs ++ [b], w'⟩ : Ctx).w = w' from rfl, hB.block b' (hi.lt ho hb' hr)]
  exact harr
 refine ⟨hx, fun b' hb' => Nat.lt_of_lt_of_le (hi.F b' hb') hB.size, by simp [hi.len], fun l o b' ho hb' => ?_, fun l l' o o' b' ho ho' hr hr' hf hf' hb' hb'' => ?_⟩
 ·rcases parts ho hb' with ⟨ho, hb'⟩ | ⟨rfl, rfl, rfl⟩
  ·have k := hi.ob l o b' ho hb'
   refine ⟨k.rows, k.sz, k.pos, k.one, fun hr => ?_, k.pure, fun hr hf h => k.frozen hr hf (hown b' (hi.lt ho hb' hr) h)⟩
   obtain ⟨hF, arr, e, q, h1, h2, h2', h2'', h2s, h3⟩ := k.block hr
   refine ⟨hF, arr, e, q, by show w'.heap[b']? = _; rw [hB.block b' (hi.lt ho hb' hr)]; exact h1, h2, h2', h2'', h2s, fun j i r d hj hi' => ?_⟩
   obtain ⟨v, hv, hrep⟩ := h3 j i r d hj hi'
   exact ⟨v, hv, hrep.ext hx⟩
  ·refine ⟨hrows, hsz, hpos, hone, fun hr => ?_, hpure, fun _ hf => by rw [hfz] at hf; cases hf⟩
   obtain ⟨hle, arr, e, q, h1, h2, h2', h2'', h2s, h3⟩ := hreal hr
   refine ⟨fun hF => by have := hi.F _ hF; omega, arr, e, q, h1, h2, h2', h2'', h2s, fun j i r d hj hi' => ?_⟩
   obtain ⟨v, hv, hrep⟩ := h3 j i r d hj hi'
   exact ⟨v, hv, hrep.ext hx⟩
 ·rcases parts ho hb' with ⟨q1, q2⟩ | ⟨rfl, rfl, rfl⟩ <;> rcases parts ho' hb'' with ⟨q3, q4⟩ | ⟨h1, h2, h3⟩
  ·exact hi.dis l l' o o' b' q1 q3 hr hr' hf hf' q2 q4
  ·subst h2; subst h3
   have := (hreal hr').1
   have := hi.lt q1 q2 hr
   omega
  ·have := (hreal hr).1
   have := hi.lt q3 q4 hr'
   omega
  ·exact h1.symm
theorem turnOb {C : Ctx} (hi : Inv C) {w' : World} {l : Nat} {o : Ob} {b : Nat} (ho : C.σ[l]? = some o) (hb : C.bs[l]? = some b) (ob : Ob) (b' : Nat)
  (hw : w'.os = C.w.os ∧ w'.tape = C.w.tape ∧ w'.output = C.w.output) (hsize : C.w.heap.size ≤ w'.heap.size)
  (hblk : ∀ k, k < C.w.heap.size → (o.real = true → k ≠ b) → w'.heap[k]? = C.w.heap[k]?)
  (hfo : o.fz = false) (hfz : ob.fz = false) (hszo : ob.sz = o.sz) (hsz : ∀ r, r ∈ ob.rows → r.length = ob.sz) (hone : ∀ r, r ∈ ob.rows → ∀ d, d ∈ r → d.cell = true) (hrows : ob.real = false → ob.rows = [])
  (hpure : ob.pure = true → ∀ r, r ∈ ob.rows → ∀ d, d ∈ r → d.pt1 = true) (hlen : o.rows.length ≤ ob.rows.length)
  (hsame : o.rows.length = ob.rows.length → b' = b ∧ ob.real = o.real ∧ ob.nl = o.nl)
  (hnew : ob.real = true → (o.real = true ∧ b' = b) ∨ C.w.heap.size ≤ b')
  (harrs : o.real = true → ∀ arr e, C.w.heap[b]? = some (.cells arr e (0, 0)) → ∃ arr', w'.heap[b]? = some (.cells arr' e (0, 0)) ∧ arr'.size = arr.size)
  (hreal : ob.real = true → ∃ arr e q, w'.heap[b']? = some (.cells arr e (0, 0)) ∧ arr.size = q * ob.sz ∧ ob.rows.length ≤ q ∧ q ≤ maxLen ∧ (∀ c, ob.spare = some c → q = ob.rows.length + c) ∧
   ∀ (j i : Nat) r d, ob.rows[j]? = some r → r[i]? = some d → ∃ v, arr[j * ob.sz + i]? = some v ∧ Rep C d v) :
  Ext C ⟨C.F, C.σ.set l ob, C.bs.set l b', w'⟩ ∧ Inv ⟨C.F, C.σ.set l ob, C.bs.set l b', w'⟩ := by
 have hl := (List.getElem?_eq_some_iff.1 ho).1
 have hl' := (List.getElem?_eq_some_iff.1 hb).1
 have parts : ∀ {m : Nat} {o' : Ob} {c : Nat}, (C.σ.set l ob)[m]? = some o' → (C.bs.set l b')[m]? = some c → (m ≠ l ∧ C.σ[m]? = some o' ∧ C.bs[m]? = some c) ∨ (m = l ∧ o' = ob ∧ c = b') := by
  intro m o' c h1 h2
  by_cases e : l = m
  ·subst e
   rw [List.getElem?_set_self hl] at h1
   rw [List.getElem?_set_self hl'] at h2
   cases h1; cases h2
   exact .inr ⟨rfl, rfl, rfl⟩
  ·rw [List.getElem?_set_ne e] at h1 h2
   exact .inl ⟨fun h => e h.symm, h1, h2⟩
 have hown : ∀ k, k < C.w.heap.size → Ctx.owned ⟨C.F, C.σ.set l ob, C.bs.set l b', w'⟩ k → C.owned k := by
  rintro k hlt ⟨m, o', h1, h2, h3, h4⟩
  rcases parts h1 h4 with ⟨_, h1, h4⟩ | ⟨rfl, rfl, rfl⟩
  ·exact ⟨m, o', h1, h2, h3, h4⟩
  ·rcases hnew h2 with ⟨hr, rfl⟩ | h
   ·exact ⟨m, o, ho, hr, hfo, hb⟩
   ·omega
 have other : ∀ {m : Nat} {o' : Ob} {c : Nat}, m ≠ l → C.σ[m]? = some o' → C.bs[m]? = some c → o'.real = true → (o.real = true → c ≠ b) := by
  intro m o' c hm h1 h2 h3 hr e
  subst e
  by_cases hf : o'.fz = true
  ·exact (hi.ob m o' c h1 h2).frozen h3 hf ⟨l, o, ho, hr, hfo, hb⟩
  ·exact hm (hi.dis m l o' o c h1 ho h3 hr (by simpa using hf) hfo h2 hb)
 have hx : Ext C ⟨C.F, C.σ.set l ob, C.bs.set l b', w'⟩ := by
  refine ⟨rfl, hw.1, hw.2.1, hw.2.2, hsize, fun k hlt hno => ⟨hblk k hlt fun hr e => hno (by subst e; exact ⟨l, o, ho, hr, hfo, hb⟩), fun h => hno (hown k hlt h)⟩, fun m o' c h1 h2 => ?_⟩
  by_cases e : l = m
  ·subst e
   rw [ho] at h1; rw [hb] at h2
   cases h1; cases h2
   refine ⟨ob, b', List.getElem?_set_self hl, List.getElem?_set_self hl', hszo, hlen, fun he => ?_⟩
   obtain ⟨rfl, e1, e2⟩ := hsame he
   exact ⟨rfl, e1, e2, fun hr arr e h => harrs hr arr e h⟩
  ·refine ⟨o', c, by show (C.σ.set l ob)[m]? = _; rw [List.getElem?_set_ne e]; exact h1, by show (C.bs.set l b')[m]? = _; rw [List.getElem?_set_ne e]; exact h2, rfl, Nat.le_refl _, fun _ => ⟨rfl, rfl, rfl, fun hr arr e' harr => ⟨arr, ?_, rfl⟩⟩⟩
   show w'.heap[c]? = _
   rw [hblk c (hi.lt h1 h2 hr) (other (fun h => e h.symm) h1 h2 hr)]
   exact harr
 refine ⟨hx, fun k hk => Nat.lt_of_lt_of_le (hi.F k hk) hsize, by simp [hi.len], fun m o' c h1 h2 => ?_, fun m m' o1 o2 c h1 h2 hr hr' hf hf' hb1 hb2 => ?_⟩
 ·rcases parts h1 h2 with ⟨hm, h1, h2⟩ | ⟨rfl, rfl, rfl⟩
  ·have k := hi.ob m o' c h1 h2
   refine ⟨k.rows, k.sz, k.pos, k.one, fun hr => ?_, k.pure, fun hr hf h => k.frozen hr hf (hown c (hi.lt h1 h2 hr) h)⟩
   obtain ⟨hF, arr, e, q, g1, g2, g2', g2'', g2s, g3⟩ := k.block hr
   refine ⟨hF, arr, e, q, by show w'.heap[c]? = _; rw [hblk c (hi.lt h1 h2 hr) (other hm h1 h2 hr)]; exact g1, g2, g2', g2'', g2s, fun j i r d hj hi' => ?_⟩
   obtain ⟨v, hv, hrep⟩ := g3 j i r d hj hi'
   exact ⟨v, hv, hrep.ext hx⟩
  ·refine ⟨hrows, hsz, by rw [hszo]; exact (hi.ob _ o b ho hb).pos, hone, fun hr => ?_, hpure, fun _ hf => by rw [hfz] at hf; cases hf⟩
   obtain ⟨arr, e, q, g1, g2, g2', g2'', g2s, g3⟩ := hreal hr
   refine ⟨?_, arr, e, q, g1, g2, g2', g2'', g2s, fun j i r d hj hi' => ?_⟩
   ·rcases hnew hr with ⟨hro, rfl⟩ | h
    ·exact ((hi.ob _ o _ ho hb).block hro).1
    ·intro hF; have := hi.F _ hF; omega
   ·obtain ⟨v, hv, hrep⟩ := g3 j i r d hj hi'
    exact ⟨v, hv, hrep.ext hx⟩
 ·rcases parts h1 hb1 with ⟨hm, q1, q2⟩ | ⟨rfl, rfl, rfl⟩ <;> rcases parts h2 hb2 with ⟨hm', q3, q4⟩ | ⟨e1, e2, e3⟩
  ·exact hi.dis m m' o1 o2 c q1 q3 hr hr' hf hf' q2 q4
  ·subst e1; subst e2; subst e3
   rcases hnew hr' with ⟨hro, rfl⟩ | h
   ·exact absurd rfl (other hm q1 q2 hr hro)
   ·have := hi.lt q1 q2 hr; omega
  ·rcases hnew hr with ⟨hro, rfl⟩ | h
   ·exact absurd rfl (other hm' q3 q4 hr' hro)
   ·have := hi.lt q3 q4 hr'; omega
  ·exact e1.symm
end Go.Vi
