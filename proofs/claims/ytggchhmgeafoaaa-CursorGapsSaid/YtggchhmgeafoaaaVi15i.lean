import Derived.Test.YtggchhmgeafoaaaVi15h
set_option linter.unusedVariables false
set_option linter.unusedSimpArgs false
set_option linter.unnecessarySimpa false
namespace Go.Vi
open Go Go.RowKit
def pairsOKH (f : Nat) (is : List Info) (ls : List LOp) (xss : List (List Nat)) (ms : List Nat) (n : Nat) : Bool :=
 (List.range n).all fun j => (List.range j).all fun i => match is[i]?, is[j]? with
  | some x, some y => !sameDst x y && (!clash x y || (ms.getD j 0).testBit i) && (!clashM x y || (ms.getD j 0).testBit i || excused is ls xss n i j || excused is ls xss n j i || (j == f && x.cls == 2))
  | _, _ => false
def floatOK (f : Nat) (os : Array Oper) (ls : List LOp) (ms : List Nat) : Bool := match ls[f]? with
 | some ⟨some t, none, .alloc _⟩ => (List.range os.size).all fun i => decide (i ≤ f) || (match os[i]?, ls[i]? with
  | some o, some l => (l.k.cls == 0 && !(o.looksAt os).contains t) || ((ms.getD i 0).testBit f && (List.range f).all fun j => match ls[j]? with
   | some m => m.k.cls != 2 || (ms.getD i 0).testBit j
   | none => true)
  | _, _ => false)
 | _ => false
theorem floatOK_spec {f : Nat} {os : Array Oper} {ls : List LOp} {ms : List Nat} (h : floatOK f os ls ms = true) : ∃ t zs, ls[f]? = some ⟨some t, none, .alloc zs⟩ ∧
  ∀ (i : Nat) y l, f < i → i < os.size → os[i]? = some y → ls[i]? = some l → (l.k.cls ≠ 0 ∨ t ∈ y.looksAt os) → (ms.getD i 0).testBit f = true ∧ ∀ (j : Nat) m, j < f → ls[j]? = some m → m.k.cls = 2 → (ms.getD i 0).testBit j = true := by
 unfold floatOK at h
 split at h
 ·rename_i t zs hf
  refine ⟨t, zs, hf, fun i y l hi hlt hy hl hc => ?_⟩
  simp only [List.all_eq_true, List.mem_range] at h
  have h1 := h i hlt
  rw [hy, hl] at h1
  simp only [Bool.or_eq_true, decide_eq_true_eq, Bool.and_eq_true, beq_iff_eq, Bool.not_eq_true'] at h1
  rcases h1 with h1 | ⟨h1, h2⟩ | ⟨h1, h2⟩
  ·omega
  ·rcases hc with hc | hc
   ·exact absurd h1 hc
   ·have : (y.looksAt os).contains t = true := by simpa using hc
    rw [this] at h2; cases h2
  ·refine ⟨h1, fun j m hj hm hm2 => ?_⟩
   simp only [List.all_eq_true, List.mem_range] at h2
   have := h2 j hj
   rw [hm] at this
   simpa [hm2] using this
 ·cases h
def drawOKH (f : Nat) (ops : Array Oper) (ls : List LOp) (xss : List (List Nat)) : Bool :=
 edgesOK ops.size ops.toList && pairsOKH f (infos ops ops.toList ls) ls xss (masksGo ops.toList []) ops.size && floatOK f ops ls (masksGo ops.toList [])
section
variable {P : Program} {N : Nat} {ops : Array Oper} {ls : List LOp} {xss : List (List Nat)}
structure DrawFactsH (f t : Nat) (zs : List D) (P : Program) (N : Nat) (ops : Array Oper) (ls : List LOp) (xss : List (List Nat)) : Prop where
 len : ls.length = ops.size
 low : ∀ (i : Nat) o l, ops[i]? = some o → ls[i]? = some l → lowX P N ops o l
 back : ∀ (i : Nat) o, ops[i]? = some o → ∀ e ∈ o.after.toList, Region.binds .any e = true → e.on < i
 one : ∀ (i j : Nat) x y t, ops[i]? = some x → ops[j]? = some y → x.dst = some t → y.dst = some t → i = j
 ahead : ∀ (L : Nat → Prop) (i j : Nat) x y l m, i < j → ops[i]? = some x → ops[j]? = some y → ls[i]? = some l → ls[j]? = some m → clash (infoOf ops x l) (infoOf ops y m) = true → Closed ops.toList L →
  (∀ e ∈ y.after.toList, Region.binds .any e = true → L e.on) → L i
 aheadM : ∀ (L : Nat → Prop) (i j : Nat) x y l m, i < j → ops[i]? = some x → ops[j]? = some y → ls[i]? = some l → ls[j]? = some m → clashM (infoOf ops x l) (infoOf ops y m) = true → Closed ops.toList L →
  (∀ e ∈ y.after.toList, Region.binds .any e = true → L e.on) → L i ∨ excused (infos ops ops.toList ls) ls xss ops.size i j = true ∨ excused (infos ops ops.toList ls) ls xss ops.size j i = true ∨ (j = f ∧ l.k.cls = 2)
 isAt : ls[f]? = some ⟨some t, none, .alloc zs⟩
 late : ∀ (L : Nat → Prop) (i : Nat) y l, f < i → ops[i]? = some y → ls[i]? = some l → (l.k.cls ≠ 0 ∨ t ∈ y.looksAt ops) → Closed ops.toList L → (∀ e ∈ y.after.toList, Region.binds .any e = true → L e.on) → L f ∧ ∀ (j : Nat) m, j < f → ls[j]? = some m → m.k.cls = 2 → L j
theorem drawFactsH {ls0 : List LOp} {f : Nat} (hl : lowList P N ops ops.toList = some ls0) (hls : ls = ls0 ∨ ls = ls0.map toX) (hd : drawOKH f ops ls xss = true) : ∃ t zs, DrawFactsH f t zs P N ops ls xss := by
 obtain ⟨hlen0, hlow0⟩ := lowList_spec hl
 have hlen : ls.length = ops.toList.length := by rcases hls with rfl | rfl <;> simpa using hlen0
 have hlow : ∀ (i : Nat) o l, ops.toList[i]? = some o → ls[i]? = some l → lowX P N ops o l := fun i o l ho hl' => by
  rcases hls with rfl | rfl
  ·exact ⟨l, hlow0 i o l ho hl', .inl rfl⟩
  ·simp only [List.getElem?_map, Option.map_eq_some_iff] at hl'
   obtain ⟨l0, h0, rfl⟩ := hl'
   exact ⟨l0, hlow0 i o l0 ho h0, .inr rfl⟩
 simp only [drawOKH, Bool.and_eq_true] at hd
 obtain ⟨⟨he, hp⟩, hfl⟩ := hd
 obtain ⟨t, zs, hat, hlate⟩ := floatOK_spec hfl
 have back : ∀ (i : Nat) o, ops[i]? = some o → ∀ e ∈ o.after.toList, Region.binds .any e = true → e.on < i := by
  intro i o ho e hm hb
  have hlt : i < ops.size := (Array.getElem?_eq_some_iff.1 ho).1
  simp only [edgesOK, List.all_eq_true, List.mem_range] at he
  have := he i hlt
  rw [Array.getElem?_toList, ho] at this
  simp only [List.all_eq_true] at this
  have := this e hm
  simpa [hb] using this
 have pair : ∀ (i j : Nat) x y l m, i < j → ops[i]? = some x → ops[j]? = some y → ls[i]? = some l → ls[j]? = some m → sameDst (infoOf ops x l) (infoOf ops y m) = false ∧ (clash (infoOf ops x l) (infoOf ops y m) = true → ((masksGo ops.toList []).getD j 0).testBit i = true) ∧
   (clashM (infoOf ops x l) (infoOf ops y m) = true → ((masksGo ops.toList []).getD j 0).testBit i = true ∨ excused (infos ops ops.toList ls) ls xss ops.size i j = true ∨ excused (infos ops ops.toList ls) ls xss ops.size j i = true ∨ (j = f ∧ l.k.cls = 2)) := by
  intro i j x y l m hij hx hy hl hm
  have hlt : j < ops.size := (Array.getElem?_eq_some_iff.1 hy).1
  simp only [pairsOKH, List.all_eq_true, List.mem_range] at hp
  have := hp j hlt i hij
  rw [infos_get ops _ _ i x l (by rw [Array.getElem?_toList]; exact hx) hl, infos_get ops _ _ j y m (by rw [Array.getElem?_toList]; exact hy) hm] at this
  simp only [Bool.and_eq_true, Bool.not_eq_true', Bool.or_eq_true] at this
  refine ⟨this.1.1, fun h => this.1.2.resolve_left (by simp [h]), fun h => ?_⟩
  rcases this.2 with (((h1 | h1) | h1) | h1) | h1
  ·rw [h] at h1; cases h1
  ·exact .inl h1
  ·exact .inr (.inl h1)
  ·exact .inr (.inr (.inl h1))
  ·exact .inr (.inr (.inr (by simpa [infoOf] using h1)))
 have bits : ∀ (L : Nat → Prop) (i j : Nat) y, ((masksGo ops.toList []).getD j 0).testBit i = true → ops[j]? = some y → Closed ops.toList L → (∀ e ∈ y.after.toList, Region.binds .any e = true → L e.on) → L i := by
  intro L i j y hbit hy hcl hL
  have hml : ∃ mm, (masksGo ops.toList [])[j]? = some mm ∧ (masksGo ops.toList []).getD j 0 = mm := by
   cases h : (masksGo ops.toList [])[j]? with
   | none => simp [h] at hbit
   | some mm => exact ⟨mm, rfl, by simp [h]⟩
  obtain ⟨mm, h1, h2⟩ := hml
  rw [h2] at hbit
  exact masks_spec ops.toList [] ops.toList (fun i o h => by simpa using h) hcl (fun i o ho => back i o (by rw [Array.getElem?_toList] at ho; exact ho)) (by simp) j mm h1 i hbit
   (fun o ho e he hb => by rw [Array.getElem?_toList, hy] at ho; cases ho; exact hL e he hb)
 refine ⟨t, zs, by simpa using hlen, fun i o l ho hl => hlow i o l (by rw [Array.getElem?_toList]; exact ho) hl, back, fun i j x y t hx hy h1 h2 => ?_, fun L i j x y l m hij hx hy hl hm hc hcl hL => ?_, fun L i j x y l m hij hx hy hl hm hc hcl hL => ?_, hat, fun L i y l hi hy hl hc hcl hL => ?_⟩
 ·have get : ∀ (i : Nat) x, ops[i]? = some x → ∃ l, ls[i]? = some l := fun i x hx => by
   have hlt : i < ls.length := by rw [hlen]; simpa using (Array.getElem?_eq_some_iff.1 hx).1
   exact ⟨_, List.getElem?_eq_getElem hlt⟩
  obtain ⟨l, hl⟩ := get i x hx
  obtain ⟨m, hm⟩ := get j y hy
  rcases Nat.lt_trichotomy i j with h | h | h
  ·have := (pair i j x y l m h hx hy hl hm).1
   simp [sameDst, infoOf, h1, h2] at this
  ·exact h
  ·have := (pair j i y x m l h hy hx hm hl).1
   simp [sameDst, infoOf, h1, h2] at this
 ·exact bits L i j y ((pair i j x y l m hij hx hy hl hm).2.1 hc) hy hcl hL
 ·rcases (pair i j x y l m hij hx hy hl hm).2.2 hc with h | h
  ·exact .inl (bits L i j y h hy hcl hL)
  ·exact .inr h
 ·obtain ⟨h1, h2⟩ := hlate i y l hi (Array.getElem?_eq_some_iff.1 hy).1 hy hl hc
  exact ⟨bits L f i y h1 hy hcl hL, fun j m hj hm hm2 => bits L j i y (h2 j m hj hm hm2) hy hcl hL⟩
theorem wp_alloc {o : Oper} {a : Act} {w : World} {Q : Exit → Act → World → Prop} {next : Act → World → Prop} {zs : List D} (h : lowOp P o = some (.alloc zs))
  (hn : ∀ (vs : List Value) (e : TypeId), zs.length = vs.length → (∀ (i : Nat) d v, zs[i]? = some d → vs[i]? = some v → ∀ G w, PRep G w d v) → next (a.put o.dst (.pointer (some ⟨w.heap.size, 0, none⟩))) (w.alloc (.cells vs.toArray e))) : o.wp P a w next Q := by
 obtain ⟨t, inf, z, ho, hinf, hz, hzs⟩ := lowOp_alloc h
 have hzv : (zeroValue t).run P w = .ok z w := by simp [zeroValue, typeInfo, hinf, hz, go_sem]
 have e1 : z.cells.toList.toArray = z.cells := by simp
 have hr : (execOp a.eval o).run P w = .ok (.value (.pointer (some ⟨w.heap.size, 0, none⟩))) (w.alloc (.cells z.cells.toList.toArray t)) := by
  simp only [execOp, ho, Instr.alloc, Sem.run_bind, hzv, Result.andThen_ok, newVar, newRow, newObj]
  rw [e1]
  rfl
 unfold Oper.wp
 rw [hr]
 obtain ⟨hl, hs⟩ := ofVals_rep hzs
 exact hn z.cells.toList t hl fun i d v hd hv G w => ofVal1_rep (hs i d v hd hv) G w
def Hidden (ls : List LOp) (f : Nat) (L : Array Bool) : Prop := L.getD f false = true ∧ ∃ (j : Nat) (m : LOp), j < f ∧ ls[j]? = some m ∧ m.k.cls = 2 ∧ L.getD j false = false
def Vis (ls : List LOp) (f : Nat) (L : Array Bool) (j : Nat) : Prop := L.getD j false = true ∧ ¬ (j = f ∧ Hidden ls f L)
theorem Vis.L {ls : List LOp} {f : Nat} {L : Array Bool} {j : Nat} (h : Vis ls f L j) : L.getD j false = true := h.1
theorem vis_ne {ls : List LOp} {f : Nat} {L : Array Bool} {j : Nat} (h : L.getD j false = true) (hj : j ≠ f) : Vis ls f L j := ⟨h, fun h => hj h.1⟩
theorem vis_nh {ls : List LOp} {f : Nat} {L : Array Bool} {j : Nat} (h : L.getD j false = true) (hj : ¬ Hidden ls f L) : Vis ls f L j := ⟨h, fun h => hj h.2⟩
structure SomeH (f t0 : Nat) (zs : List D) (ops : Array Oper) (ls : List LOp) (N : Nat) (C0 : Ctx) (env : Env) (d : Nat → D) (s : Nat → List Ob) (L : Array Bool) (C : Ctx) (a : Act) : Prop where
 size : L.size = ops.size
 closed : Closed ops.toList fun j => L.getD j false = true
 ext : Ext C0 { C with F := C0.F }
 shown : ¬ Hidden ls f L → C.F = C0.F
 hid : Hidden ls f L → Hid C0 C zs (a.tmps.getD t0 undef)
 inv : Inv C
 tmps : a.tmps.size = N
 defers : a.defers = []
 obs : ∃ p, p ≤ ops.size ∧ C.σ = s p ∧ (∀ (j : Nat) l, j < p → ls[j]? = some l → l.k.cls = 2 → Vis ls f L j) ∧ (∀ (j : Nat) l, ls[j]? = some l → l.k.cls = 2 → Vis ls f L j → j < p)
 done : ∀ (j : Nat) o t, ops[j]? = some o → o.dst = some t → Vis ls f L j → Rep C (d j) (a.tmps.getD t undef)
 rest : ∀ t, (∀ (j : Nat) o, ops[j]? = some o → o.dst = some t → L.getD j false = false) → Rep C (lk env t) (a.tmps.getD t undef)
theorem lk_envH {f t0 : Nat} {zs : List D} (F : DrawFactsH f t0 zs P N ops ls xss) {env : Env} {d : Nat → D} {e : Nat → Env} (h0 : e 0 = env) (hst : ∀ (i : Nat) l, ls[i]? = some l → e (i + 1) = put (e i) l.dst (d i)) :
  ∀ i, i ≤ ops.size → ∀ t, (∀ (j : Nat) o, j < i → ops[j]? = some o → o.dst = some t → lk (e i) t = d j) ∧ ((∀ (j : Nat) o, j < i → ops[j]? = some o → o.dst ≠ some t) → lk (e i) t = lk env t) := by
 intro i
 induction i with
 | zero => intro _ t; exact ⟨fun j o h => absurd h (Nat.not_lt_zero _), fun _ => by rw [h0]⟩
 | succ i ih =>
  intro hi t
  obtain ⟨h1, h2⟩ := ih (by omega) t
  have hl : ls[i]? = some (ls[i]'(by rw [F.len]; omega)) := List.getElem?_eq_getElem (by rw [F.len]; omega)
  have ho : ops[i]? = some (ops[i]'(by omega)) := Array.getElem?_eq_getElem (by omega)
  have hd := (lowX_spec (F.low i _ _ ho hl)).2.2.1
  rw [hst i _ hl, hd]
  generalize ops[i]'(by omega) = o at ho
  refine ⟨fun j o' hj ho' hd' => ?_, fun hno => ?_⟩
  ·by_cases hji : j = i
   ·subst hji
    rw [ho] at ho'; cases ho'
    rw [hd']; simp [put, lk]
   ·have hne : o.dst ≠ some t := fun h => hji (F.one j i o' o t ho' ho hd' h)
    rw [← h1 j o' (by omega) ho' hd']
    cases hdo : o.dst with
    | none => rfl
    | some k => have : k ≠ t := fun h => hne (by rw [hdo, h]); simp [put, lk, this]
  ·have hne : o.dst ≠ some t := hno i o (by omega) ho
   rw [← h2 fun j o' hj => hno j o' (by omega)]
   cases hdo : o.dst with
   | none => rfl
   | some k => have : k ≠ t := fun h => hne (by rw [hdo, h]); simp [put, lk, this]
set_option maxHeartbeats 1000000 in
theorem draw_anyH {Q : Exit → Act → World → Prop} {K : Env → List Ob → Prop} {f t0 : Nat} {zs : List D} (F : DrawFactsH f t0 zs P N ops ls xss) {C0 : Ctx} (hi0 : Inv C0) {env : Env} {d : Nat → D} {s : Nat → List Ob} {e : Nat → Env} (h0 : e 0 = env) (hK : K (e ops.size) (s ops.size))
  (hst : ∀ (i : Nat) l, ls[i]? = some l → e (i + 1) = put (e i) l.dst (d i) ∧ GOK P l (e i) (s i) (d i) (s (i + 1)))
  (hkeep : ∀ (i : Nat) ts, xss[i]? = some ts → ∀ t ∈ ts, keepD (s i) (s (i + 1)) (lk (e ops.size) t))
  (hq : ∀ C' env' a', Ext C0 C' → St C' env' a' N → K env' C'.σ → Q .normal a' C'.w) :
  ∀ (fuel : Nat) (L : Array Bool) (C : Ctx) (a : Act), SomeH f t0 zs ops ls N C0 env d s L C a → (∀ j, j < ops.size → L.getD j false = false → 0 < fuel) → ((List.range ops.size).filter fun j => !(L.getD j false)).length ≤ fuel → wpAny P .any ops Q fuel L a C.w := by
 have lkE := lk_envH F h0 (fun i l h => (hst i l h).1)
 have sconst : ∀ p q, p ≤ q → q ≤ ops.size → (∀ (j : Nat) l, p ≤ j → j < q → ls[j]? = some l → l.k.cls ≠ 2) → s q = s p := by
  intro p q hpq
  induction q with
  | zero => intro _ _; rw [show p = 0 by omega]
  | succ q ih =>
   intro hq hno
   by_cases hp : p = q + 1
   ·rw [hp]
   ·have hl : ls[q]? = some (ls[q]'(by rw [F.len]; omega)) := List.getElem?_eq_getElem (by rw [F.len]; omega)
    rw [← ih (by omega) (by omega) fun j l h1 h2 => hno j l h1 (by omega)]
    have hc := hno q _ (by omega) (by omega) hl
    have hg := (hst q _ hl).2
    have hcls : (ls[q]'(by rw [F.len]; omega)).k.cls ≤ 1 := by
     have : ∀ k : LK, k.cls ≤ 2 := fun k => by cases k <;> simp only [LK.cls] <;> first | decide | (split <;> decide)
     have := this (ls[q]'(by rw [F.len]; omega)).k
     omega
    unfold GOK at hg
    split at hg
    ·exact hg.1 hcls
    ·rename_i t want hgs
     obtain ⟨b, _, g1, g2⟩ := hg
     by_cases hb : b = want
     ·exact (g1 hb).1 hcls
     ·exact (g2 hb).2
 have fin : ∀ (L : Array Bool) (C : Ctx) (a : Act), SomeH f t0 zs ops ls N C0 env d s L C a → Region.ready .any ops L = [] → Q .normal a C.w := by
  intro L C a J hr
  have hall : ∀ i, i < ops.size → L.getD i false = true := by
   intro i
   induction i using Nat.strongRecOn with
   | _ i ih =>
    intro hi
    apply Classical.byContradiction
    intro hn
    have ho : ops[i]? = some ops[i] := Array.getElem?_eq_getElem hi
    have hLi : L.getD i true = false := by
     have : i < L.size := by rw [J.size]; exact hi
     simpa [this] using hn
    have : i ∈ Region.ready .any ops L := mem_ready.2 ⟨hLi, _, ho, fun e he hb => ih e.on (F.back i _ ho e (Array.mem_toList_iff.2 he) hb) (by have := F.back i _ ho e (Array.mem_toList_iff.2 he) hb; omega)⟩
    rw [hr] at this; cases this
  have hnh : ¬ Hidden ls f L := fun ⟨_, j, m, hj, hm, _, hLj⟩ => by
   have hjl : j < ops.size := by rw [← F.len]; exact (List.getElem?_eq_some_iff.1 hm).1
   rw [hall j hjl] at hLj; cases hLj
  have hext : Ext C0 C := by
   have h1 := J.ext
   have h2 : ({ C with F := C0.F } : Ctx) = C := by rw [← J.shown hnh]
   rw [h2] at h1
   exact h1
  refine hq C (e ops.size) a hext ⟨J.inv, J.tmps, J.defers, fun t => ?_⟩ ?_
  ·by_cases hw : ∃ (j : Nat) (o : Oper), ops[j]? = some o ∧ o.dst = some t
   ·obtain ⟨j, o, ho, hd⟩ := hw
    have hlt : j < ops.size := (Array.getElem?_eq_some_iff.1 ho).1
    rw [(lkE _ (Nat.le_refl _) t).1 j o hlt ho hd]
    exact J.done j o t ho hd (vis_nh (hall j hlt) hnh)
   ·rw [(lkE _ (Nat.le_refl _) t).2 fun j o _ ho hd => hw ⟨j, o, ho, hd⟩]
    exact J.rest t fun j o ho hd => absurd ⟨j, o, ho, hd⟩ hw
  ·obtain ⟨p, hp, hσ, h1, h2⟩ := J.obs
   rw [hσ, ← sconst p ops.size hp (Nat.le_refl _) fun j l h3 h4 hl hc => by
    have := h2 j l hl hc (vis_nh (hall j h4) hnh); omega]
   exact hK
 intro fuel
 induction fuel with
 | zero =>
  intro L C a J hf hc
  have hall : ∀ j, j < ops.size → L.getD j false = true := fun j hj => by
   apply Classical.byContradiction
   intro h
   have := hf j hj (by simpa using h)
   omega
  have hr : Region.ready .any ops L = [] := by
   apply List.eq_nil_iff_forall_not_mem.2
   intro i hi
   obtain ⟨h1, o, ho, _⟩ := mem_ready.1 hi
   have hlt : i < ops.size := (Array.getElem?_eq_some_iff.1 ho).1
   have := hall i hlt
   have hs : i < L.size := by rw [J.size]; exact hlt
   simp [hs] at h1 this
   rw [h1] at this; cases this
  exact ⟨hr, fin L C a J hr⟩
 | succ fuel ih =>
  intro L C a J hf hc
  refine ⟨fin L C a J, fun i hi => ?_⟩
  obtain ⟨hLi', o, ho, hedges⟩ := mem_ready.1 hi
  have hlt : i < ops.size := (Array.getElem?_eq_some_iff.1 ho).1
  have hLs : i < L.size := by rw [J.size]; exact hlt
  have hLi : L.getD i false = false := by simp [hLs] at hLi' ⊢; exact hLi'
  have hl : ls[i]? = some (ls[i]'(by rw [F.len]; omega)) := List.getElem?_eq_getElem (by rw [F.len]; omega)
  generalize hlg : ls[i]'(by rw [F.len]; omega) = l at hl
  obtain ⟨hk, hg, hd, hN⟩ := lowX_spec (F.low i o l ho hl)
  obtain ⟨hst1, hst2⟩ := hst i l hl
  have hL : ∀ e ∈ o.after.toList, Region.binds .any e = true → L.getD e.on false = true := fun e he hb => hedges e (Array.mem_toList_iff.1 he) hb
  have before : ∀ (j : Nat) y m, j < i → ops[j]? = some y → ls[j]? = some m → clash (infoOf ops y m) (infoOf ops o l) = true → L.getD j false = true := fun j y m hj hy hm hcl =>
   F.ahead _ j i y o m l hj hy ho hm hl hcl J.closed hL
  have behind : ∀ (j : Nat) y m, i < j → ops[j]? = some y → ls[j]? = some m → clash (infoOf ops o l) (infoOf ops y m) = true → L.getD j false = false := fun j y m hj hy hm hcl => by
   apply Classical.byContradiction
   intro h
   have hLj : L.getD j false = true := by simpa using h
   have := F.ahead _ i j o y l m hj ho hy hl hm hcl J.closed (fun e he hb => J.closed j y (by rw [Array.getElem?_toList]; exact hy) hLj e he hb)
   rw [this] at hLi; cases hLi
  have beforeM : (i = f → ∀ (j : Nat) m, j < f → ls[j]? = some m → m.k.cls = 2 → L.getD j false = true) → ∀ (j : Nat) y m, j < i → ops[j]? = some y → ls[j]? = some m → clashM (infoOf ops y m) (infoOf ops o l) = true → L.getD j false = true ∨ excused (infos ops ops.toList ls) ls xss ops.size j i = true ∨ excused (infos ops ops.toList ls) ls xss ops.size i j = true := fun hif j y m hj hy hm hcl => by
   rcases F.aheadM _ j i y o m l hj hy ho hm hl hcl J.closed hL with h | h | h | ⟨h1, h2⟩
   ·exact .inl h
   ·exact .inr (.inl h)
   ·exact .inr (.inr h)
   ·exact .inl (hif h1 j m (by omega) hm h2)
  have behindM : ∀ (j : Nat) y m, i < j → ops[j]? = some y → ls[j]? = some m → clashM (infoOf ops o l) (infoOf ops y m) = true → (¬ Vis ls f L j) ∨ excused (infos ops ops.toList ls) ls xss ops.size i j = true ∨ excused (infos ops ops.toList ls) ls xss ops.size j i = true := fun j y m hj hy hm hcl => by
   by_cases hLj : L.getD j false = true
   ·rcases F.aheadM _ i j o y l m hj ho hy hl hm hcl J.closed (fun e he hb => J.closed j y (by rw [Array.getElem?_toList]; exact hy) hLj e he hb) with h | h | h | ⟨h1, h2⟩
    ·rw [h] at hLi; cases hLi
    ·exact .inr (.inl h)
    ·exact .inr (.inr h)
    ·subst h1
     exact .inl fun hv => hv.2 ⟨rfl, hLj, i, l, hj, hl, h2, hLi⟩
   ·exact .inl fun hv => hLj hv.1
  have getL : ∀ (j : Nat) y, ops[j]? = some y → ∃ m, ls[j]? = some m := fun j y hy => by
   have : j < ls.length := by rw [F.len]; exact (Array.getElem?_eq_some_iff.1 hy).1
   exact ⟨_, List.getElem?_eq_getElem this⟩
  obtain ⟨hfl, hfd, hfg⟩ : ls[f]? = some ⟨some t0, none, .alloc zs⟩ ∧ (∀ y, ops[f]? = some y → y.dst = some t0) ∧ True := ⟨F.isAt, fun y hy => (lowX_spec (F.low f y _ hy F.isAt)).2.2.1.symm, trivial⟩
  have hfs : f < ops.size := by rw [← F.len]; exact (List.getElem?_eq_some_iff.1 hfl).1
  have shownAt : f < i → (l.k.cls ≠ 0 ∨ t0 ∈ o.looksAt ops) → ¬ Hidden ls f L ∧ L.getD f false = true := fun h1 h2 => by
   obtain ⟨k1, k2⟩ := F.late _ i o l h1 ho hl h2 J.closed hL
   refine ⟨fun ⟨_, j, m, hj, hm, hm2, hLj⟩ => ?_, k1⟩
   have : L.getD j false = true := k2 j m hj hm hm2
   rw [this] at hLj; cases hLj
  have aheadF : ¬ Hidden ls f L → L.getD f false = true → ∀ (j : Nat) m, j < f → ls[j]? = some m → m.k.cls = 2 → L.getD j false = true := fun h1 h2 j m hj hm hm2 => by
   apply Classical.byContradiction
   intro h
   exact h1 ⟨h2, j, m, hj, hm, hm2, by simpa using h⟩
  have look : ∀ t, t ∈ o.looksAt ops → Rep C (lk (e i) t) (a.tmps.getD t undef) := by
   intro t ht
   have hcl1 : ∀ (y : Oper) (m : LOp), y.dst = some t → clash (infoOf ops y m) (infoOf ops o l) = true := fun y m hyt => by
    simp [clash, infoOf, hyt, has, ht]
   have hcl2 : ∀ (y : Oper) (m : LOp), y.dst = some t → clash (infoOf ops o l) (infoOf ops y m) = true := fun y m hyt => by
    simp [clash, infoOf, hyt, has, ht]
   by_cases hw : ∃ (j : Nat) (y : Oper), j < i ∧ ops[j]? = some y ∧ y.dst = some t
   ·obtain ⟨j, y, hj, hy, hyt⟩ := hw
    obtain ⟨m, hm⟩ := getL j y hy
    rw [(lkE i (by omega) t).1 j y hj hy hyt]
    refine J.done j y t hy hyt ⟨before j y m hj hy hm (hcl1 y m hyt), fun ⟨hjf, hh⟩ => ?_⟩
    subst hjf
    have : t = t0 := by have := hfd y hy; rw [hyt] at this; exact (Option.some.inj this)
    exact (shownAt hj (.inr (by rw [← this]; exact ht))).1 hh
   ·rw [(lkE i (by omega) t).2 fun j y hj hy hyt => hw ⟨j, y, hj, hy, hyt⟩]
    refine J.rest t fun j y hy hyt => ?_
    rcases Nat.lt_trichotomy j i with h | h | h
    ·exact absurd ⟨j, y, h, hy, hyt⟩ hw
    ·subst h; exact hLi
    ·obtain ⟨m, hm⟩ := getL j y hy
     exact behind j y m h hy hm (hcl2 y m hyt)
  have hreads : Reads C (LO.ev (e i)) a o := fun t ht => look t (List.mem_append_left _ (List.mem_filterMap.2 ⟨.tmp t, Array.mem_toList_iff.2 ht, rfl⟩))
  obtain ⟨p, hp, hσ, hp1, hp2⟩ := J.obs
  have no2 : ∀ (j : Nat) m, ls[j]? = some m → m.k.cls = 2 → l.k.cls = 2 → ¬ (excused (infos ops ops.toList ls) ls xss ops.size j i = true ∨ excused (infos ops ops.toList ls) ls xss ops.size i j = true) := by
   intro j m hm h1 h2 h
   simp only [excused, hm, hl, h1, h2] at h
   simp at h
  have hcl2 : l.k.cls ≠ 0 → ∀ (y : Oper) (m : LOp), m.k.cls = 2 → clashM (infoOf ops y m) (infoOf ops o l) = true ∧ clashM (infoOf ops o l) (infoOf ops y m) = true := fun hc0 y m hm => by
    constructor <;> simp [clashM, infoOf, hm, hc0]
  have visN : ¬ Hidden ls f L → ∀ j, L.getD j false = true → Vis ls f L j := fun h j hj => vis_nh hj h
  have hobs2 : l.k.cls = 2 → (i = f → ∀ (j : Nat) m, j < f → ls[j]? = some m → m.k.cls = 2 → L.getD j false = true) → C.σ = s i := by
   intro hc2' hif
   have hcl := hcl2 (by omega)
   have toVis : ∀ j, j < i → L.getD j false = true → Vis ls f L j := fun j hj h => ⟨h, fun ⟨h1, h2⟩ => by
    subst h1; exact (shownAt hj (.inl (by omega))).1 h2⟩
   rw [hσ]
   rcases Nat.le_total p i with h | h
   ·refine (sconst p i h (by omega) fun j m h1 h2 hm hc2 => ?_).symm
    have hy : ops[j]? = some (ops[j]'(by omega)) := Array.getElem?_eq_getElem (by omega)
    rcases beforeM hif j _ m h2 hy hm (hcl _ m hc2).1 with h3 | h3
    ·have := hp2 j m hm hc2 (toVis j h2 h3); omega
    ·exact no2 j m hm hc2 hc2' h3
   ·refine sconst i p h hp fun j m h1 h2 hm hc2 => ?_
    have hLj := hp1 j m h2 hm hc2
    rcases Nat.eq_or_lt_of_le h1 with h3 | h3
    ·subst h3; have := hLj.1; rw [hLi] at this; cases this
    ·have hy : ops[j]? = some (ops[j]'(by omega)) := Array.getElem?_eq_getElem (by omega)
     rcases behindM j _ m h3 hy hm (hcl _ m hc2).2 with h4 | h4
     ·exact h4 hLj
     ·exact no2 j m hm hc2 hc2' h4.symm
  have hobs1 : l.k.cls = 1 → C.σ = s i ∨ ∃ ts, l.k.asks = some ts ∧ ∀ t ∈ ts, keepD (s i) C.σ (lk (e i) t) := by
   intro hc1
   have hcl := hcl2 (by omega)
   have pr : ∀ (j : Nat) m, ls[j]? = some m → m.k.cls = 2 → (excused (infos ops ops.toList ls) ls xss ops.size j i = true ∨ excused (infos ops ops.toList ls) ls xss ops.size i j = true) → ∃ ts, l.k.asks = some ts ∧ ∀ t ∈ ts, keepD (s j) (s (j + 1)) (lk (e i) t) := by
    intro j m hm h1 h
    have hx : excused (infos ops ops.toList ls) ls xss ops.size i j = true := by
     rcases h with h | h
     ·simp only [excused, hm, hl, h1, hc1] at h; simp at h
     ·exact h
    simp only [excused, hl, hm, Bool.and_eq_true] at hx
    obtain ⟨_, hx⟩ := hx
    split at hx
    ·rename_i ts hts
     refine ⟨ts, hts, fun t ht => ?_⟩
     have := List.all_eq_true.1 hx t ht
     simp only [Bool.and_eq_true] at this
     obtain ⟨g1, g2⟩ := this
     have hxs : ∃ xs, xss[j]? = some xs ∧ t ∈ xs := by
      cases hxj : xss[j]? with
      | none => simp [hxj] at g1
      | some xs => exact ⟨xs, rfl, by simpa [hxj] using g1⟩
     obtain ⟨xs, hxs, htx⟩ := hxs
     have hk' := hkeep j xs hxs t htx
     have hsame : lk (e ops.size) t = lk (e i) t := by
      by_cases hw : ∃ (j : Nat) (y : Oper), j < i ∧ ops[j]? = some y ∧ y.dst = some t
      ·obtain ⟨j', y, hj', hy, hyt⟩ := hw
       rw [(lkE i (by omega) t).1 j' y hj' hy hyt, (lkE _ (Nat.le_refl _) t).1 j' y (by omega) hy hyt]
      ·rw [(lkE i (by omega) t).2 fun j y hj hy hyt => hw ⟨j, y, hj, hy, hyt⟩, (lkE _ (Nat.le_refl _) t).2 fun j' y hj' hy hyt => ?_]
       have hj'i : ¬ j' < i := fun h => hw ⟨j', y, h, hy, hyt⟩
       simp only [settled, List.all_eq_true, List.mem_range] at g2
       have g3 := g2 j' hj'
       obtain ⟨m', hm'⟩ := getL j' y hy
       rw [infos_get ops _ _ j' y m' (by rw [Array.getElem?_toList]; exact hy) hm'] at g3
       simp [infoOf, hyt, hj'i] at g3
     rw [← hsame]; exact hk'
    ·cases hx
   have walk : ∀ a b, a ≤ b → b ≤ ops.size → (∀ (j : Nat) m, a ≤ j → j < b → ls[j]? = some m → m.k.cls = 2 → excused (infos ops ops.toList ls) ls xss ops.size j i = true ∨ excused (infos ops ops.toList ls) ls xss ops.size i j = true) →
     s b = s a ∨ ∃ ts, l.k.asks = some ts ∧ ∀ t ∈ ts, keepD (s a) (s b) (lk (e i) t) := by
    intro a b hab
    induction b with
    | zero => intro _ _; exact .inl (by rw [show a = 0 by omega])
    | succ b ihb =>
     intro hb hex
     by_cases hp' : a = b + 1
     ·exact .inl (by rw [hp'])
     ·have h1 := ihb (by omega) (by omega) fun j m h1 h2 => hex j m h1 (by omega)
      have hlb : ls[b]? = some (ls[b]'(by rw [F.len]; omega)) := List.getElem?_eq_getElem (by rw [F.len]; omega)
      by_cases hc2 : (ls[b]'(by rw [F.len]; omega)).k.cls = 2
      ·obtain ⟨ts, hts, hk2⟩ := pr b _ hlb hc2 (hex b _ (by omega) (by omega) hlb hc2)
       rcases h1 with h1 | ⟨ts', hts', hk1⟩
       ·exact .inr ⟨ts, hts, fun t ht => by rw [← h1]; exact hk2 t ht⟩
       ·rw [hts] at hts'; cases hts'
        exact .inr ⟨ts, hts, fun t ht => keepD_trans (hk1 t ht) (hk2 t ht)⟩
      ·have hsb : s (b + 1) = s b := sconst b (b + 1) (by omega) hb fun j m h3 h4 hm => by
        have : j = b := by omega
        subst this
        rw [hlb] at hm; cases hm; exact hc2
       rw [hsb]; exact h1
   rw [hσ]
   rcases Nat.le_total p i with h | h
   ·have hex : ∀ (j : Nat) m, p ≤ j → j < i → ls[j]? = some m → m.k.cls = 2 → excused (infos ops ops.toList ls) ls xss ops.size j i = true ∨ excused (infos ops ops.toList ls) ls xss ops.size i j = true := fun j m h1 h2 hm hc2 => by
     have hy : ops[j]? = some (ops[j]'(by omega)) := Array.getElem?_eq_getElem (by omega)
     rcases beforeM (fun hif => by subst hif; rw [hfl] at hl; cases hl; simp [LK.cls] at hc1) j _ m h2 hy hm (hcl _ m hc2).1 with h3 | h3
     ·have := hp2 j m hm hc2 ⟨h3, fun ⟨h4, h5⟩ => by subst h4; exact (shownAt h2 (.inl (by omega))).1 h5⟩; omega
     ·exact h3
    rcases walk p i h (by omega) hex with hw | ⟨ts, hts, hk'⟩
    ·exact .inl hw.symm
    ·exact .inr ⟨ts, hts, fun t ht => keepD_symm (hk' t ht)⟩
   ·have hex : ∀ (j : Nat) m, i ≤ j → j < p → ls[j]? = some m → m.k.cls = 2 → excused (infos ops ops.toList ls) ls xss ops.size j i = true ∨ excused (infos ops ops.toList ls) ls xss ops.size i j = true := fun j m h1 h2 hm hc2 => by
     have hLj := hp1 j m h2 hm hc2
     rcases Nat.eq_or_lt_of_le h1 with h3 | h3
     ·subst h3; rw [hl] at hm; cases hm; omega
     ·have hy : ops[j]? = some (ops[j]'(by omega)) := Array.getElem?_eq_getElem (by omega)
      rcases behindM j _ m h3 hy hm (hcl _ m hc2).2 with h4 | h4
      ·exact absurd hLj h4
      ·exact h4.symm
    rcases walk i p h hp hex with hw | hw
    ·exact .inl hw
    ·exact .inr hw
  have hcls2 : ∀ k : LK, k.cls ≤ 2 := fun k => by cases k <;> simp only [LK.cls] <;> first | decide | (split <;> decide)
  have gd : ∀ j, (L.setIfInBounds i true).getD j false = if i = j then true else L.getD j false := fun j => getD_set L i j hLs
  have gdi : (L.setIfInBounds i true).getD i false = true := by rw [gd, if_pos rfl]
  have gdn : ∀ j, i ≠ j → (L.setIfInBounds i true).getD j false = L.getD j false := fun j h => by rw [gd, if_neg h]
  have gdm : ∀ j, L.getD j false = true → (L.setIfInBounds i true).getD j false = true := fun j h => by
   by_cases e : i = j
   ·rw [← e]; exact gdi
   ·rw [gdn j e]; exact h
  have gdo : ∀ j, (L.setIfInBounds i true).getD j false = false → L.getD j false = false := fun j h => by
   apply Classical.byContradiction
   intro h'
   rw [gdm j (by simpa using h')] at h; cases h
  have closed1 : Closed ops.toList fun j => (L.setIfInBounds i true).getD j false = true := by
   intro j y hy hLj e he hb
   show (L.setIfInBounds i true).getD e.on false = true
   by_cases hij : i = j
   ·subst hij
    rw [Array.getElem?_toList, ho] at hy; cases hy
    exact gdm _ (hL e he hb)
   ·exact gdm _ (J.closed j y hy (by have h : (L.setIfInBounds i true).getD j false = true := hLj; rw [gdn j hij] at h; exact h) e he hb)
  have putO : ∀ t v, o.dst ≠ some t → (a.put o.dst v).tmps.getD t undef = a.tmps.getD t undef := fun t v hne => by
   cases hdo : o.dst with
   | none => rfl
   | some k => have : k ≠ t := fun h => hne (by rw [hdo, h]); simp [Act.put, Array.getElem?_setIfInBounds_ne this]
  have putS : ∀ t v, o.dst = some t → (a.put o.dst v).tmps.getD t undef = v := fun t v hdo => by
   have htN := hN t hdo
   rw [← J.tmps] at htN
   rw [hdo]; simp [Act.put, htN]
  have core : ∀ (C' : Ctx) v, Ext C0 { C' with F := C0.F } → Inv C' → (¬ Hidden ls f (L.setIfInBounds i true) → C'.F = C0.F) → (Hidden ls f (L.setIfInBounds i true) → Hid C0 C' zs ((a.put o.dst v).tmps.getD t0 undef)) →
    (∃ p, p ≤ ops.size ∧ C'.σ = s p ∧ (∀ (j : Nat) l, j < p → ls[j]? = some l → l.k.cls = 2 → Vis ls f (L.setIfInBounds i true) j) ∧ (∀ (j : Nat) l, ls[j]? = some l → l.k.cls = 2 → Vis ls f (L.setIfInBounds i true) j → j < p)) →
    (∀ d v, Rep C d v → Rep C' d v) → (Vis ls f (L.setIfInBounds i true) i → Rep C' (d i) v) → (∀ j, i ≠ j → Vis ls f (L.setIfInBounds i true) j → Vis ls f L j ∨ (j = f ∧ Rep C' (d f) (a.tmps.getD t0 undef))) →
    wpAny P .any ops Q fuel (L.setIfInBounds i true) (a.put o.dst v) C'.w := by
   intro C' v hx hi' hsh hhd hobs hmono hself hvis
   refine ih (L.setIfInBounds i true) C' (a.put o.dst v) ⟨by simpa using J.size, closed1, hx, hsh, hhd, hi', ?_, ?_, hobs, ?_, ?_⟩ (fun j hj hLj => ?_) ?_
   ·cases hdo : o.dst <;> simp [Act.put, J.tmps]
   ·cases hdo : o.dst <;> simp [Act.put, J.defers]
   ·intro j y t hy hyt hLj
    by_cases hij : i = j
    ·subst hij
     rw [ho] at hy; cases hy
     rw [putS t v hyt]
     exact hself hLj
    ·have hne : o.dst ≠ some t := fun h => hij (F.one i j o y t ho hy h hyt)
     rw [putO t v hne]
     rcases hvis j hij hLj with h | ⟨h1, h2⟩
     ·exact hmono _ _ (J.done j y t hy hyt h)
     ·subst h1
      have : t = t0 := by have := hfd y hy; rw [hyt] at this; exact (Option.some.inj this)
      rw [this]; exact h2
   ·intro t hno
    have hne : o.dst ≠ some t := fun h => by
     have := hno i o ho h
     rw [gdi] at this; cases this
    rw [putO t v hne]
    exact hmono _ _ (J.rest t fun j y hy hyt => gdo j (hno j y hy hyt))
   ·-- there is still fuel
    apply Nat.pos_of_ne_zero
    intro hz
    subst hz
    rw [gd] at hLj
    split at hLj
    ·cases hLj
    ·rename_i hij
     have h1 : i ∈ (List.range ops.size).filter fun j => !(L.getD j false) := List.mem_filter.2 ⟨List.mem_range.2 hlt, by simp only [hLi]; rfl⟩
     have h2 : j ∈ (List.range ops.size).filter fun j => !(L.getD j false) := List.mem_filter.2 ⟨List.mem_range.2 hj, by simp only [hLj]; rfl⟩
     match hm : (List.range ops.size).filter fun j => !(L.getD j false) with
     | [] => rw [hm] at h1; cases h1
     | [x] => rw [hm] at h1 h2; simp at h1 h2; omega
     | x :: y :: r => rw [hm] at hc; simp at hc
   ·-- one less is left
    have hsub : ((List.range ops.size).filter fun j => !((L.setIfInBounds i true).getD j false)).length < ((List.range ops.size).filter fun j => !(L.getD j false)).length := by
     have e1 : ((List.range ops.size).filter fun j => !((L.setIfInBounds i true).getD j false)) = ((List.range ops.size).filter fun j => !(L.getD j false)).filter fun j => j != i := by
      rw [List.filter_filter]
      apply List.filter_congr
      intro j _
      rw [gd]
      by_cases hij : i = j
      ·subst hij; simp
      ·have : j ≠ i := fun h => hij h.symm
       simp [hij, this]
     rw [e1]
     have h1 : i ∈ (List.range ops.size).filter fun j => !(L.getD j false) := List.mem_filter.2 ⟨List.mem_range.2 hlt, by simp only [hLi]; rfl⟩
     exact List.length_filter_lt_length_iff_exists.2 ⟨i, h1, by simp⟩
    omega
  obtain ⟨hzne, hdf, hsf⟩ : zs ≠ [] ∧ d f = .ptr (s f).length 0 0 1 ∧ s (f + 1) = s f ++ [⟨true, false, zs.all D.pt1, false, zs.length, [zs], some 0⟩] := by
   have h1 := (hst f _ hfl).2
   simp only [GOK] at h1
   have h2 := h1.2.2
   simp only [LK.step, LK.run] at h2
   exact ⟨h2.1, h2.2.1.symm, h2.2.2.symm⟩
  have next : (i = f → ∀ (j : Nat) m, j < f → ls[j]? = some m → m.k.cls = 2 → L.getD j false = true) → ∀ C' v, Ext C C' → Inv C' → Rep C' (d i) v → (C'.σ = s (i + 1) ∧ l.k.cls = 2 ∨ C'.σ = C.σ ∧ l.k.cls ≠ 2) → wpAny P .any ops Q fuel (L.setIfInBounds i true) (a.put o.dst v) C'.w := by
   intro hif C' v hx hi' hrep hσ'
   have hx0 : Ext C0 { C' with F := C0.F } := J.ext.trans (hx.setF C0.F)
   have obs1 : (Hidden ls f (L.setIfInBounds i true) ↔ Hidden ls f L) → ∃ p, p ≤ ops.size ∧ C'.σ = s p ∧ (∀ (j : Nat) l, j < p → ls[j]? = some l → l.k.cls = 2 → Vis ls f (L.setIfInBounds i true) j) ∧ (∀ (j : Nat) l, ls[j]? = some l → l.k.cls = 2 → Vis ls f (L.setIfInBounds i true) j → j < p) := by
    intro hh
    have up : ∀ j, Vis ls f L j → Vis ls f (L.setIfInBounds i true) j := fun j h => ⟨gdm j h.1, fun ⟨h1, h2⟩ => h.2 ⟨h1, hh.1 h2⟩⟩
    have down : ∀ j, i ≠ j → Vis ls f (L.setIfInBounds i true) j → Vis ls f L j := fun j hij h => ⟨by rw [← gdn j hij]; exact h.1, fun ⟨h1, h2⟩ => h.2 ⟨h1, hh.2 h2⟩⟩
    have self : l.k.cls = 2 → Vis ls f (L.setIfInBounds i true) i := fun _ => ⟨gdi, fun ⟨h1, h2⟩ => by
     have := (hh.1 h2).1
     rw [← h1, hLi] at this; cases this⟩
    rcases hσ' with ⟨h1, hc0⟩ | ⟨h1, hc2⟩
    ·have hcl := hcl2 (by omega)
     refine ⟨i + 1, by omega, h1, fun j m hj hm hc2 => ?_, fun j m hm hc2 hLj => ?_⟩
     ·by_cases hij : i = j
      ·subst hij; exact self hc0
      ·have hy : ops[j]? = some (ops[j]'(by omega)) := Array.getElem?_eq_getElem (by omega)
       rcases beforeM hif j _ m (by omega) hy hm (hcl _ m hc2).1 with h3 | h3
       ·refine up j ⟨h3, fun ⟨h4, h5⟩ => ?_⟩
        subst h4; exact (shownAt (by omega) (.inl (by omega))).1 h5
       ·exact absurd h3 (no2 j m hm hc2 hc0)
     ·by_cases hij : i = j
      ·omega
      ·apply Classical.byContradiction
       intro h
       have hjl : j < ops.size := by rw [← F.len]; exact (List.getElem?_eq_some_iff.1 hm).1
       have hy : ops[j]? = some (ops[j]'hjl) := Array.getElem?_eq_getElem hjl
       exact ((behindM j _ m (by omega) hy hm (hcl _ m hc2).2).resolve_right fun h => no2 j m hm hc2 hc0 h.symm) (down j hij hLj)
    ·refine ⟨p, hp, h1.trans hσ, fun j m hj hm hc => up j (hp1 j m hj hm hc), fun j m hm hc hLj => ?_⟩
     by_cases hij : i = j
     ·subst hij
      rw [hl] at hm; cases hm
      exact absurd hc hc2
     ·exact hp2 j m hm hc (down j hij hLj)
   by_cases h1 : Hidden ls f (L.setIfInBounds i true)
   ·-- still hidden
    have hne : i ≠ f := fun h => by
     obtain ⟨_, j, m, hj, hm, hm2, hLj⟩ := h1
     have := hif h j m hj hm hm2
     rw [gdo j hLj] at this; cases this
    have hh : Hidden ls f L := by
     obtain ⟨hf1, j, m, hj, hm, hm2, hLj⟩ := h1
     rw [gdn f hne] at hf1
     exact ⟨hf1, j, m, hj, hm, hm2, gdo j hLj⟩
    have hdne : o.dst ≠ some t0 := fun h => by
     have hyf : ops[f]? = some (ops[f]'hfs) := Array.getElem?_eq_getElem hfs
     exact hne (F.one i f o _ t0 ho hyf h (hfd _ hyf))
    refine core C' v hx0 hi' (fun h => absurd h1 h) (fun _ => ?_) (obs1 ⟨fun _ => hh, fun _ => h1⟩) (fun _ _ h => h.ext hx) (fun _ => hrep) fun j hij h => .inl ⟨by rw [← gdn j hij]; exact h.1, fun ⟨h2, _⟩ => h.2 ⟨h2, h1⟩⟩
    rw [putO t0 v hdne]
    exact (J.hid hh).ext J.inv hx
   ·by_cases h2 : Hidden ls f L
    ·-- shown by this
     have hne : i ≠ f := fun h => by
      have := h2.1
      rw [← h, hLi] at this; cases this
     obtain ⟨hLf, j0, m0, hj0, hm0, hm02, hLj0⟩ := h2
     have hLf1 : (L.setIfInBounds i true).getD f false = true := gdm f hLf
     have hall : ∀ (j : Nat) m, j < f → ls[j]? = some m → m.k.cls = 2 → (L.setIfInBounds i true).getD j false = true := fun j m hj hm hm2 => by
      apply Classical.byContradiction
      intro h
      exact h1 ⟨hLf1, j, m, hj, hm, hm2, by simpa using h⟩
     have hij0 : i = j0 := by
      apply Classical.byContradiction
      intro h
      have := hall j0 m0 hj0 hm0 hm02
      rw [gdn j0 h, hLj0] at this; cases this
     subst hij0
     rw [hl] at hm0; cases hm0
     have hcl := hcl2 (by omega)
     have hσ1 : C'.σ = s (i + 1) := by
      rcases hσ' with h | h
      ·exact h.1
      ·exact absurd hm02 h.2
     have hsf1 : s f = s (i + 1) := sconst (i + 1) f (by omega) (by omega) fun j m h3 h4 hm hc2 => by
      have hy : ops[j]? = some (ops[j]'(by omega)) := Array.getElem?_eq_getElem (by omega)
      have hLj : L.getD j false = true := by rw [← gdn j (by omega)]; exact hall j m h4 hm hc2
      exact ((behindM j _ m (by omega) hy hm (hcl _ m hc2).2).resolve_right fun h => no2 j m hm hc2 hm02 h.symm) (vis_ne hLj (by omega))
     have hdne : o.dst ≠ some t0 := fun h => by
      have hyf : ops[f]? = some (ops[f]'hfs) := Array.getElem?_eq_getElem hfs
      exact hne (F.one i f o _ t0 ho hyf h (hfd _ hyf))
     have hz1 : ∀ dd ∈ zs, dd.one = true := by
      have hyf : ops[f]? = some (ops[f]'hfs) := Array.getElem?_eq_getElem hfs
      rcases (lowX_spec (F.low f _ _ hyf hfl)).1 with h | ⟨_, _, _, h⟩
      ·obtain ⟨_, _, _, _, _, _, hz⟩ := lowOp_alloc h
       exact ofVals_one hz
      ·cases h
     obtain ⟨C'', e1, e2, e3, e4, e5, e6, e7⟩ := unhideV hi0 hi' hx0 ((J.hid ⟨hLf, i, l, hj0, hl, hm02, hLi⟩).ext J.inv hx) hzne hz1
     have e4' : Ext C0 { C'' with F := C0.F } := by
      have : ({ C'' with F := C0.F } : Ctx) = C'' := by rw [← e3]
      rw [this]; exact e4
     have vis1 : ∀ j, (L.setIfInBounds i true).getD j false = true → Vis ls f (L.setIfInBounds i true) j := fun j h => vis_nh h h1
     rw [← e1]
     refine core C'' v e4' e5 (fun _ => e3) (fun h => absurd h h1) ⟨f + 1, by omega, by rw [e2, hσ1, hsf, hsf1], fun j m hj hm hc2 => ?_, fun j m hm hc2 hLj => ?_⟩ (fun _ _ h => e7 _ _ (h.ext hx)) (fun _ => e7 _ _ hrep) fun j hij h => ?_
     ·by_cases hjf : j = f
      ·subst hjf; exact vis1 _ hLf1
      ·exact vis1 _ (hall j m (by omega) hm hc2)
     ·apply Classical.byContradiction
      intro h
      have hjl : j < ops.size := by rw [← F.len]; exact (List.getElem?_eq_some_iff.1 hm).1
      have hy : ops[j]? = some (ops[j]'hjl) := Array.getElem?_eq_getElem hjl
      have hLj' : L.getD j false = true := by rw [← gdn j (by omega)]; exact hLj.1
      have := (F.late _ j _ m (by omega) hy hm (.inl (by omega)) J.closed (fun e he hb => J.closed j _ (by rw [Array.getElem?_toList]; exact hy) hLj' e he hb)).2 i l hj0 hl hm02
      rw [hLi] at this; cases this
     ·by_cases hjf : j = f
      ·refine .inr ⟨hjf, ?_⟩
       rw [hdf, hsf1, ← hσ1]
       exact e6
      ·exact .inl (vis_ne (by rw [← gdn j hij]; exact h.1) hjf)
    ·-- shown as before
     refine core C' v hx0 hi' (fun _ => hx.F.trans (J.shown h2)) (fun h => absurd h h1) (obs1 ⟨fun h => absurd h h1, fun h => absurd h h2⟩) (fun _ _ h => h.ext hx) (fun _ => hrep) fun j hij h => .inl (vis_nh (by rw [← gdn j hij]; exact h.1) h2)
  unfold wpOp
  simp only [ho]
  by_cases hfree : i = f ∧ ∃ (j : Nat) (m : LOp), j < f ∧ ls[j]? = some m ∧ m.k.cls = 2 ∧ L.getD j false = false
  ·obtain ⟨rfl, j0, m0, hj0, hm0, hm02, hLj0⟩ := hfree
   rw [hfl] at hl; cases hl
   have hnh : ¬ Hidden ls i L := fun h => by have := h.1; rw [hLi] at this; cases this
   have hh1 : Hidden ls i (L.setIfInBounds i true) := ⟨gdi, j0, m0, hj0, hm0, hm02, by rw [gdn j0 (by omega)]; exact hLj0⟩
   have hext : Ext C0 C := by
    have h1 := J.ext
    have h2 : ({ C with F := C0.F } : Ctx) = C := by rw [← J.shown hnh]
    rw [h2] at h1
    exact h1
   have hgn : o.guard = none := by
    unfold lowGuard at hg
    split at hg
    ·assumption
    ·exfalso
     split at hg
     ·split at hg <;> cases hg
     ·cases hg
   have hlow : lowOp P o = some (.alloc zs) := by
    rcases hk with h | ⟨_, _, _, h⟩
    ·exact h
    ·cases h
   rw [(wanted_of (a := a) hg J.tmps).1 rfl]
   refine .inl (wp_alloc hlow fun vs e hlen hs => ?_)
   obtain ⟨C', e1, e2, e3, e4, e5, e6⟩ := hideV J.inv hext hlen hs e
   rw [← e1]
   refine core C' _ e3 e4 (fun h => absurd hh1 h) (fun _ => ?_) ⟨p, hp, e2.trans hσ, fun j m hj hm hc => ?_, fun j m hm hc hLj => ?_⟩ e6 (fun h => absurd ⟨rfl, hh1⟩ h.2) fun j hij h => .inl (vis_nh (by rw [← gdn j hij]; exact h.1) hnh)
   ·rw [putS t0 _ (hfd o ho)]; exact e5
   ·have h1 := hp1 j m hj hm hc
    have hij : i ≠ j := fun h => by have h2 := h1.1; rw [← h, hLi] at h2; cases h2
    exact vis_ne (gdm j h1.1) (fun h => hij h.symm)
   ·have hij : i ≠ j := fun h => hLj.2 ⟨h.symm, hh1⟩
    exact hp2 j m hm hc (vis_nh (by rw [← gdn j hij]; exact hLj.1) hnh)
  have hif : i = f → ∀ (j : Nat) m, j < f → ls[j]? = some m → m.k.cls = 2 → L.getD j false = true := fun h j m hj hm hm2 => by
   apply Classical.byContradiction
   intro h'
   exact hfree ⟨h, j, m, hj, hm, hm2, by simpa using h'⟩
  replace next := next hif
  replace hobs2 := fun h => hobs2 h hif
  obtain ⟨w1, w2⟩ := wanted_of (a := a) hg J.tmps
  have go : SOK P l.k (LO.ev (e i)) (s i) (d i) (s (i + 1)) → o.wp P a C.w (wpAny P .any ops Q fuel (L.setIfInBounds i true)) Q := by
   rintro ⟨q1, q2, q3⟩
   by_cases hc0 : l.k.cls = 0
   ·refine step_sound hk J.inv (ev_plain _) hreads (q2 hc0 C.σ) fun C' d' v hx hi' hrep hK' => ?_
    obtain ⟨rfl, h⟩ := hK'
    exact next C' v hx hi' hrep (.inr ⟨h, by omega⟩)
   ·by_cases hc2 : l.k.cls = 2
    ·rw [← hobs2 hc2] at q3
     refine step_sound hk J.inv (ev_plain _) hreads q3 fun C' d' v hx hi' hrep hK' => ?_
     obtain ⟨rfl, h⟩ := hK'
     exact next C' v hx hi' hrep (.inl ⟨h, hc2⟩)
    ·have hc1 : l.k.cls = 1 := by have := hcls2 l.k; omega
     have q4 : l.k.step P true (LO.ev (e i)) C.σ fun d' s' => d' = d i ∧ s' = C.σ := by
      rw [q1 (by omega)] at q3
      rcases hobs1 hc1 with h | ⟨ts, hts, hk'⟩
      ·rw [h]; exact q3
      ·exact step_keep (ev_plain _) hc1 hts hk' q3
     refine step_sound hk J.inv (ev_plain _) hreads q4 fun C' d' v hx hi' hrep hK' => ?_
     obtain ⟨rfl, h⟩ := hK'
     exact next C' v hx hi' hrep (.inr ⟨h, hc2⟩)
  unfold GOK at hst2
  split at hst2
  ·rename_i hgn
   rw [w1 hgn]
   exact .inl (go hst2)
  ·rename_i t want hgs
   obtain ⟨b, hb, g1, g2⟩ := hst2
   have ht : t ∈ o.looksAt ops := by
    have hgg := hg
    unfold lowGuard at hgg
    split at hgg
    ·rw [hgs] at hgg; cases hgg
    ·rename_i j w hog
     split at hgg
     ·rename_i t' ht'
      split at hgg
      ·rw [hgs] at hgg; cases hgg
       unfold Oper.looksAt
       rw [hog]
       simp [ht']
      ·cases hgg
     ·cases hgg
   have hbv := look t ht
   rw [w2 t want hgs b (gv_val hbv hb)]
   by_cases hbw : b = some want
   ·rw [if_pos (by simpa using hbw)]
    exact .inl (go (g1 hbw))
   ·rw [if_neg (by simpa using hbw)]
    obtain ⟨hdi, hsi⟩ := g2 hbw
    rcases Nat.lt_or_ge l.k.cls 2 with h2 | h2
    ·exact next C undef (.refl C) J.inv (by rw [hdi]; exact rep_none) (.inr ⟨rfl, by omega⟩)
    ·exact next C undef (.refl C) J.inv (by rw [hdi]; exact rep_none) (.inl ⟨by rw [hsi]; exact hobs2 (by have := hcls2 l.k; omega), by have := hcls2 l.k; omega⟩)
end
end Go.Vi
