/-
  Vi15: rows of operations whose order is open: in whatever order they are carried out, what the text's order says of data holds. Own work, over any program.
-/
import Derived.Test.YtefpjijokdplfaaVi14
set_option linter.unusedVariables false
set_option linter.unusedSimpArgs false
namespace Go.Vi
open Go Go.RowKit

/-- The bits of those operations that stand ahead of one. -/
def maskFold (acc : List Nat) : List Edge → Nat → Nat
  | [], s => s
  | e :: es, s => maskFold acc es (if Region.binds .any e = true then s ||| (2 ^ e.on ||| acc.getD e.on 0) else s)
def masksGo : List Oper → List Nat → List Nat
  | [], acc => acc
  | o :: os, acc => masksGo os (acc ++ [maskFold acc o.after.toList 0])

structure Info where
  dst : Option Nat
  looks : List Nat
  cls : Nat
  deriving Inhabited

def has (d : Option Nat) (l : List Nat) : Bool := match d with
  | some t => l.contains t
  | none => false
def sameDst (x y : Info) : Bool := match x.dst, y.dst with
  | some a, some b => a == b
  | _, _ => false
def clash (x y : Info) : Bool := has x.dst y.looks || has y.dst x.looks || (x.cls == 2 && y.cls != 0) || (y.cls == 2 && x.cls != 0)

def infoOf (ops : Array Oper) (o : Oper) (l : LOp) : Info := ⟨o.dst, o.looksAt ops, l.k.cls⟩
def infos (ops : Array Oper) : List Oper → List LOp → List Info
  | o :: os, l :: ls => infoOf ops o l :: infos ops os ls
  | _, _ => []

def pairsOK (is : List Info) (ms : List Nat) (n : Nat) : Bool :=
  (List.range n).all fun j => (List.range j).all fun i => match is[i]?, is[j]? with
    | some x, some y => !sameDst x y && (!clash x y || (ms.getD j 0).testBit i)
    | _, _ => false
def edgesOK (n : Nat) (os : List Oper) : Bool :=
  (List.range n).all fun j => match os[j]? with
    | some o => o.after.toList.all fun e => !Region.binds .any e || decide (e.on < j)
    | none => false

def drawOK (ops : Array Oper) (ls : List LOp) : Bool :=
  edgesOK ops.size ops.toList && pairsOK (infos ops ops.toList ls) (masksGo ops.toList []) ops.size

theorem infos_get (ops : Array Oper) : ∀ (os : List Oper) (ls : List LOp) (i : Nat) (o : Oper) (l : LOp), os[i]? = some o → ls[i]? = some l → (infos ops os ls)[i]? = some (infoOf ops o l)
  | [], _, i, o, l, h, _ => by simp at h
  | _ :: _, [], i, o, l, _, h => by simp at h
  | o' :: os, l' :: ls, 0, o, l, h, h' => by simp at h h'; subst h; subst h'; simp [infos]
  | o' :: os, l' :: ls, i + 1, o, l, h, h' => by simpa [infos] using infos_get ops os ls i o l (by simpa using h) (by simpa using h')

theorem maskFold_bit (acc : List Nat) (j : Nat) : ∀ (es : List Edge) (s : Nat), (maskFold acc es s).testBit j = true → s.testBit j = true ∨ ∃ e ∈ es, Region.binds .any e = true ∧ (e.on = j ∨ (acc.getD e.on 0).testBit j = true)
  | [], s, h => .inl h
  | e :: es, s, h => by
    simp only [maskFold] at h
    rcases maskFold_bit acc j es _ h with h | ⟨e', he', h⟩
    · split at h
      · rename_i hb
        simp only [Nat.testBit_or, Bool.or_eq_true, Nat.testBit_two_pow, decide_eq_true_eq] at h
        rcases h with h | h | h
        · exact .inl h
        · exact .inr ⟨e, by simp, hb, .inl h⟩
        · exact .inr ⟨e, by simp, hb, .inr h⟩
      · exact .inl h
    · exact .inr ⟨e', by simp [he'], h⟩

/-- What has been carried out holds, with each operation, those ahead of it. -/
def Closed (os : List Oper) (L : Nat → Prop) : Prop := ∀ (i : Nat) o, os[i]? = some o → L i → ∀ e ∈ o.after.toList, Region.binds .any e = true → L e.on

theorem masks_spec {L : Nat → Prop} : ∀ (os : List Oper) (acc : List Nat) (all : List Oper), (∀ (i : Nat) o, os[i]? = some o → all[acc.length + i]? = some o) → Closed all L →
    (∀ (i : Nat) o, all[i]? = some o → ∀ e ∈ o.after.toList, Region.binds .any e = true → e.on < i) →
    (∀ (i : Nat) m, acc[i]? = some m → ∀ j, m.testBit j = true → (∀ o, all[i]? = some o → ∀ e ∈ o.after.toList, Region.binds .any e = true → L e.on) → L j) →
    ∀ (i : Nat) m, (masksGo os acc)[i]? = some m → ∀ j, m.testBit j = true → (∀ o, all[i]? = some o → ∀ e ∈ o.after.toList, Region.binds .any e = true → L e.on) → L j
  | [], acc, all, _, _, _, hacc, i, m, hm, j, hj, hL => hacc i m hm j hj hL
  | o :: os, acc, all, hall, hcl, hback, hacc, i, m, hm, j, hj, hL => by
    refine masks_spec os (acc ++ [maskFold acc o.after.toList 0]) all (fun i' o' h => ?_) hcl hback (fun i' m' hm' j' hj' hL' => ?_) i m hm j hj hL
    · have := hall (i' + 1) o' (by simpa using h)
      simpa [Nat.add_assoc, Nat.add_comm 1] using this
    · rcases getElem?_snoc hm' with hm' | ⟨rfl, rfl⟩
      · exact hacc i' m' hm' j' hj' hL'
      · have ho : all[acc.length]? = some o := by simpa using hall 0 o rfl
        rcases maskFold_bit acc j' _ _ hj' with h | ⟨e, he, hb, h⟩
        · simp at h
        · have hLe := hL' o ho e he hb
          rcases h with rfl | h
          · exact hLe
          · have hlt := hback _ o ho e he hb
            have hm : acc[e.on]? = some (acc.getD e.on 0) := by simp [hlt]
            exact hacc e.on _ hm j' h fun o' ho' e' he' hb' => hcl e.on o' ho' hLe e' he' hb'

/-- What one operation comes to, behind its guard. -/
def GOK (P : Program) (l : LOp) (env : Env) (σ : List Ob) (d : D) (σ' : List Ob) : Prop :=
  match l.guard with
  | none => SOK P l.k (LO.ev env) σ d σ'
  | some (t, want) => ∃ g, gv (lk env t) g ∧ (g = some want → SOK P l.k (LO.ev env) σ d σ') ∧ (g ≠ some want → d = .tup [] ∧ σ' = σ)

theorem trace {P : Program} {K : Env → List Ob → Prop} : ∀ (ls : List LOp) (env : Env) (σ : List Ob), runOps P true ls K env σ → ∃ (d : Nat → D) (s : Nat → List Ob) (e : Nat → Env), e 0 = env ∧ s 0 = σ ∧ K (e ls.length) (s ls.length) ∧
    ∀ (i : Nat) l, ls[i]? = some l → e (i + 1) = put (e i) l.dst (d i) ∧ GOK P l (e i) (s i) (d i) (s (i + 1))
  | [], env, σ, h => ⟨fun _ => .undef, fun _ => σ, fun _ => env, rfl, rfl, h, by simp⟩
  | l :: ls, env, σ, h => by
    have fin : ∀ d0 σ', GOK P l env σ d0 σ' → runOps P true ls K (put env l.dst d0) σ' → ∃ (d : Nat → D) (s : Nat → List Ob) (e : Nat → Env), e 0 = env ∧ s 0 = σ ∧ K (e (l :: ls).length) (s (l :: ls).length) ∧
        ∀ (i : Nat) l', (l :: ls)[i]? = some l' → e (i + 1) = put (e i) l'.dst (d i) ∧ GOK P l' (e i) (s i) (d i) (s (i + 1)) := by
      intro d0 σ' hg hr
      obtain ⟨d, s, e, he, hs, hK, hall⟩ := trace ls _ _ hr
      refine ⟨fun i => match i with | 0 => d0 | i + 1 => d i, fun i => match i with | 0 => σ | i + 1 => s i, fun i => match i with | 0 => env | i + 1 => e i, rfl, rfl, by simpa using hK, fun i l' hl' => ?_⟩
      cases i with
      | zero => simp at hl'; subst hl'; exact ⟨he, by simpa [hs] using hg⟩
      | succ i => exact hall i l' (by simpa using hl')
    simp only [runOps] at h
    split at h
    · rename_i hg
      obtain ⟨d0, σ', hr, hs⟩ := step_det h
      exact fin d0 σ' (by simpa [GOK, hg] using hs) hr
    · rename_i t want hg
      obtain ⟨b, hb, h1, h2⟩ := h
      by_cases hbw : b = some want
      · obtain ⟨d0, σ', hr, hs⟩ := step_det (h1 hbw)
        exact fin d0 σ' (by simp only [GOK, hg]; exact ⟨b, hb, fun _ => hs, fun h => absurd hbw h⟩) hr
      · exact fin (.tup []) σ (by simp only [GOK, hg]; exact ⟨b, hb, fun h => absurd h hbw, fun _ => by simp⟩) (h2 hbw)

section
variable {P : Program} {N : Nat} {ops : Array Oper} {ls : List LOp}

/-- What the check of a row tells. -/
structure DrawFacts (P : Program) (N : Nat) (ops : Array Oper) (ls : List LOp) : Prop where
  len : ls.length = ops.size
  low : ∀ (i : Nat) o l, ops[i]? = some o → ls[i]? = some l → lowOne P N ops o = some l
  back : ∀ (i : Nat) o, ops[i]? = some o → ∀ e ∈ o.after.toList, Region.binds .any e = true → e.on < i
  one : ∀ (i j : Nat) x y t, ops[i]? = some x → ops[j]? = some y → x.dst = some t → y.dst = some t → i = j
  ahead : ∀ (L : Nat → Prop) (i j : Nat) x y l m, i < j → ops[i]? = some x → ops[j]? = some y → ls[i]? = some l → ls[j]? = some m → clash (infoOf ops x l) (infoOf ops y m) = true → Closed ops.toList L →
    (∀ e ∈ y.after.toList, Region.binds .any e = true → L e.on) → L i

theorem drawFacts (hl : lowList P N ops ops.toList = some ls) (hd : drawOK ops ls = true) : DrawFacts P N ops ls := by
  obtain ⟨hlen, hlow⟩ := lowList_spec hl
  simp only [drawOK, Bool.and_eq_true] at hd
  obtain ⟨he, hp⟩ := hd
  have back : ∀ (i : Nat) o, ops[i]? = some o → ∀ e ∈ o.after.toList, Region.binds .any e = true → e.on < i := by
    intro i o ho e hm hb
    have hlt : i < ops.size := (Array.getElem?_eq_some_iff.1 ho).1
    simp only [edgesOK, List.all_eq_true, List.mem_range] at he
    have := he i hlt
    rw [Array.getElem?_toList, ho] at this
    simp only [List.all_eq_true] at this
    have := this e hm
    simpa [hb] using this
  have pair : ∀ (i j : Nat) x y l m, i < j → ops[i]? = some x → ops[j]? = some y → ls[i]? = some l → ls[j]? = some m → sameDst (infoOf ops x l) (infoOf ops y m) = false ∧ (clash (infoOf ops x l) (infoOf ops y m) = true → ((masksGo ops.toList []).getD j 0).testBit i = true) := by
    intro i j x y l m hij hx hy hl hm
    have hlt : j < ops.size := (Array.getElem?_eq_some_iff.1 hy).1
    simp only [pairsOK, List.all_eq_true, List.mem_range] at hp
    have := hp j hlt i hij
    rw [infos_get ops _ _ i x l (by rw [Array.getElem?_toList]; exact hx) hl, infos_get ops _ _ j y m (by rw [Array.getElem?_toList]; exact hy) hm] at this
    simp only [Bool.and_eq_true, Bool.not_eq_true', Bool.or_eq_true] at this
    exact ⟨this.1, fun h => this.2.resolve_left (by simp [h])⟩
  refine ⟨by simpa using hlen, fun i o l ho hl => hlow i o l (by rw [Array.getElem?_toList]; exact ho) hl, back, fun i j x y t hx hy h1 h2 => ?_, fun L i j x y l m hij hx hy hl hm hc hcl hL => ?_⟩
  · have get : ∀ (i : Nat) x, ops[i]? = some x → ∃ l, ls[i]? = some l := fun i x hx => by
      have hlt : i < ls.length := by rw [hlen]; simpa using (Array.getElem?_eq_some_iff.1 hx).1
      exact ⟨_, List.getElem?_eq_getElem hlt⟩
    obtain ⟨l, hl⟩ := get i x hx
    obtain ⟨m, hm⟩ := get j y hy
    rcases Nat.lt_trichotomy i j with h | h | h
    · have := (pair i j x y l m h hx hy hl hm).1
      simp [sameDst, infoOf, h1, h2] at this
    · exact h
    · have := (pair j i y x m l h hy hx hm hl).1
      simp [sameDst, infoOf, h1, h2] at this
  · have hbit := (pair i j x y l m hij hx hy hl hm).2 hc
    have hml : ∃ mm, (masksGo ops.toList [])[j]? = some mm ∧ (masksGo ops.toList []).getD j 0 = mm := by
      cases h : (masksGo ops.toList [])[j]? with
      | none => simp [h] at hbit
      | some mm => exact ⟨mm, rfl, by simp [h]⟩
    obtain ⟨mm, h1, h2⟩ := hml
    rw [h2] at hbit
    exact masks_spec ops.toList [] ops.toList (fun i o h => by simpa using h) hcl (fun i o ho => back i o (by rw [Array.getElem?_toList] at ho; exact ho)) (by simp) j mm h1 i hbit
      (fun o ho e he hb => by rw [Array.getElem?_toList, hy] at ho; cases ho; exact hL e he hb)

/-- The state with some operations carried out. -/
structure Some_ (ops : Array Oper) (ls : List LOp) (N : Nat) (C0 : Ctx) (env : Env) (d : Nat → D) (s : Nat → List Ob) (L : Array Bool) (C : Ctx) (a : Act) : Prop where
  size : L.size = ops.size
  closed : Closed ops.toList fun j => L.getD j false = true
  ext : Ext C0 C
  inv : Inv C
  tmps : a.tmps.size = N
  defers : a.defers = []
  obs : ∃ p, p ≤ ops.size ∧ C.σ = s p ∧ (∀ (j : Nat) l, j < p → ls[j]? = some l → l.k.cls = 2 → L.getD j false = true) ∧ (∀ (j : Nat) l, ls[j]? = some l → l.k.cls = 2 → L.getD j false = true → j < p)
  done : ∀ (j : Nat) o t, ops[j]? = some o → o.dst = some t → L.getD j false = true → Rep C (d j) (a.tmps.getD t undef)
  rest : ∀ t, (∀ (j : Nat) o, ops[j]? = some o → o.dst = some t → L.getD j false = false) → Rep C (lk env t) (a.tmps.getD t undef)

theorem getD_set (L : Array Bool) (i j : Nat) (hi : i < L.size) : (L.setIfInBounds i true).getD j false = if i = j then true else L.getD j false := by
  by_cases e : i = j
  · subst e; simp [hi]
  · rw [if_neg e]; simp [Array.getElem?_setIfInBounds_ne e]

theorem lk_env (F : DrawFacts P N ops ls) {env : Env} {d : Nat → D} {e : Nat → Env} (h0 : e 0 = env) (hst : ∀ (i : Nat) l, ls[i]? = some l → e (i + 1) = put (e i) l.dst (d i)) :
    ∀ i, i ≤ ops.size → ∀ t, (∀ (j : Nat) o, j < i → ops[j]? = some o → o.dst = some t → lk (e i) t = d j) ∧ ((∀ (j : Nat) o, j < i → ops[j]? = some o → o.dst ≠ some t) → lk (e i) t = lk env t) := by
  intro i
  induction i with
  | zero => intro _ t; exact ⟨fun j o h => absurd h (Nat.not_lt_zero _), fun _ => by rw [h0]⟩
  | succ i ih =>
    intro hi t
    obtain ⟨h1, h2⟩ := ih (by omega) t
    have hl : ls[i]? = some (ls[i]'(by rw [F.len]; omega)) := List.getElem?_eq_getElem (by rw [F.len]; omega)
    have ho : ops[i]? = some (ops[i]'(by omega)) := Array.getElem?_eq_getElem (by omega)
    have hd := (lowOne_spec (F.low i _ _ ho hl)).2.2.1
    rw [hst i _ hl, hd]
    generalize ops[i]'(by omega) = o at ho
    refine ⟨fun j o' hj ho' hd' => ?_, fun hno => ?_⟩
    · by_cases hji : j = i
      · subst hji
        rw [ho] at ho'; cases ho'
        rw [hd']; simp [put, lk]
      · have hne : o.dst ≠ some t := fun h => hji (F.one j i o' o t ho' ho hd' h)
        rw [← h1 j o' (by omega) ho' hd']
        cases hdo : o.dst with
        | none => rfl
        | some k => have : k ≠ t := fun h => hne (by rw [hdo, h]); simp [put, lk, this]
    · have hne : o.dst ≠ some t := hno i o (by omega) ho
      rw [← h2 fun j o' hj => hno j o' (by omega)]
      cases hdo : o.dst with
      | none => rfl
      | some k => have : k ≠ t := fun h => hne (by rw [hdo, h]); simp [put, lk, this]

theorem draw_any {Q : Exit → Act → World → Prop} {K : Env → List Ob → Prop} (F : DrawFacts P N ops ls) {C0 : Ctx} {env : Env} {d : Nat → D} {s : Nat → List Ob} {e : Nat → Env} (h0 : e 0 = env) (hK : K (e ops.size) (s ops.size))
    (hst : ∀ (i : Nat) l, ls[i]? = some l → e (i + 1) = put (e i) l.dst (d i) ∧ GOK P l (e i) (s i) (d i) (s (i + 1)))
    (hq : ∀ C' env' a', Ext C0 C' → St C' env' a' N → K env' C'.σ → Q .normal a' C'.w) :
    ∀ (fuel : Nat) (L : Array Bool) (C : Ctx) (a : Act), Some_ ops ls N C0 env d s L C a → (∀ j, j < ops.size → L.getD j false = false → 0 < fuel) → ((List.range ops.size).filter fun j => !(L.getD j false)).length ≤ fuel → wpAny P .any ops Q fuel L a C.w := by
  have lkE := lk_env F h0 (fun i l h => (hst i l h).1)
  -- the objects stay where no operation turns any
  have sconst : ∀ p q, p ≤ q → q ≤ ops.size → (∀ (j : Nat) l, p ≤ j → j < q → ls[j]? = some l → l.k.cls ≠ 2) → s q = s p := by
    intro p q hpq
    induction q with
    | zero => intro _ _; rw [show p = 0 by omega]
    | succ q ih =>
      intro hq hno
      by_cases hp : p = q + 1
      · rw [hp]
      · have hl : ls[q]? = some (ls[q]'(by rw [F.len]; omega)) := List.getElem?_eq_getElem (by rw [F.len]; omega)
        rw [← ih (by omega) (by omega) fun j l h1 h2 => hno j l h1 (by omega)]
        have hc := hno q _ (by omega) (by omega) hl
        have hg := (hst q _ hl).2
        have hcls : (ls[q]'(by rw [F.len]; omega)).k.cls ≤ 1 := by
          have : ∀ k : LK, k.cls ≤ 2 := fun k => by cases k <;> simp [LK.cls]
          have := this (ls[q]'(by rw [F.len]; omega)).k
          omega
        unfold GOK at hg
        split at hg
        · exact hg.1 hcls
        · rename_i t want hgs
          obtain ⟨b, _, g1, g2⟩ := hg
          by_cases hb : b = want
          · exact (g1 hb).1 hcls
          · exact (g2 hb).2
  -- when nothing is left
  have fin : ∀ (L : Array Bool) (C : Ctx) (a : Act), Some_ ops ls N C0 env d s L C a → Region.ready .any ops L = [] → Q .normal a C.w := by
    intro L C a J hr
    have hall : ∀ i, i < ops.size → L.getD i false = true := by
      intro i
      induction i using Nat.strongRecOn with
      | _ i ih =>
        intro hi
        apply Classical.byContradiction
        intro hn
        have ho : ops[i]? = some ops[i] := Array.getElem?_eq_getElem hi
        have hLi : L.getD i true = false := by
          have : i < L.size := by rw [J.size]; exact hi
          simpa [this] using hn
        have : i ∈ Region.ready .any ops L := mem_ready.2 ⟨hLi, _, ho, fun e he hb => ih e.on (F.back i _ ho e (Array.mem_toList_iff.2 he) hb) (by have := F.back i _ ho e (Array.mem_toList_iff.2 he) hb; omega)⟩
        rw [hr] at this; cases this
    refine hq C (e ops.size) a J.ext ⟨J.inv, J.tmps, J.defers, fun t => ?_⟩ ?_
    · by_cases hw : ∃ (j : Nat) (o : Oper), ops[j]? = some o ∧ o.dst = some t
      · obtain ⟨j, o, ho, hd⟩ := hw
        have hlt : j < ops.size := (Array.getElem?_eq_some_iff.1 ho).1
        rw [(lkE _ (Nat.le_refl _) t).1 j o hlt ho hd]
        exact J.done j o t ho hd (hall j hlt)
      · rw [(lkE _ (Nat.le_refl _) t).2 fun j o _ ho hd => hw ⟨j, o, ho, hd⟩]
        exact J.rest t fun j o ho hd => absurd ⟨j, o, ho, hd⟩ hw
    · obtain ⟨p, hp, hσ, h1, h2⟩ := J.obs
      rw [hσ, ← sconst p ops.size hp (Nat.le_refl _) fun j l h3 h4 hl hc => by
        have := h2 j l hl hc (hall j h4); omega]
      exact hK
  intro fuel
  induction fuel with
  | zero =>
    intro L C a J hf hc
    have hall : ∀ j, j < ops.size → L.getD j false = true := fun j hj => by
      apply Classical.byContradiction
      intro h
      have := hf j hj (by simpa using h)
      omega
    have hr : Region.ready .any ops L = [] := by
      apply List.eq_nil_iff_forall_not_mem.2
      intro i hi
      obtain ⟨h1, o, ho, _⟩ := mem_ready.1 hi
      have hlt : i < ops.size := (Array.getElem?_eq_some_iff.1 ho).1
      have := hall i hlt
      have hs : i < L.size := by rw [J.size]; exact hlt
      simp [hs] at h1 this
      rw [h1] at this; cases this
    exact ⟨hr, fin L C a J hr⟩
  | succ fuel ih =>
    intro L C a J hf hc
    refine ⟨fin L C a J, fun i hi => ?_⟩
    obtain ⟨hLi', o, ho, hedges⟩ := mem_ready.1 hi
    have hlt : i < ops.size := (Array.getElem?_eq_some_iff.1 ho).1
    have hLs : i < L.size := by rw [J.size]; exact hlt
    have hLi : L.getD i false = false := by simp [hLs] at hLi' ⊢; exact hLi'
    have hl : ls[i]? = some (ls[i]'(by rw [F.len]; omega)) := List.getElem?_eq_getElem (by rw [F.len]; omega)
    generalize hlg : ls[i]'(by rw [F.len]; omega) = l at hl
    obtain ⟨hk, hg, hd, hN⟩ := lowOne_spec (F.low i o l ho hl)
    obtain ⟨hst1, hst2⟩ := hst i l hl
    have hL : ∀ e ∈ o.after.toList, Region.binds .any e = true → L.getD e.on false = true := fun e he hb => hedges e (Array.mem_toList_iff.1 he) hb
    -- what is ahead has been carried out, what is behind has not
    have before : ∀ (j : Nat) y m, j < i → ops[j]? = some y → ls[j]? = some m → clash (infoOf ops y m) (infoOf ops o l) = true → L.getD j false = true := fun j y m hj hy hm hcl =>
      F.ahead _ j i y o m l hj hy ho hm hl hcl J.closed hL
    have behind : ∀ (j : Nat) y m, i < j → ops[j]? = some y → ls[j]? = some m → clash (infoOf ops o l) (infoOf ops y m) = true → L.getD j false = false := fun j y m hj hy hm hcl => by
      apply Classical.byContradiction
      intro h
      have hLj : L.getD j false = true := by simpa using h
      have := F.ahead _ i j o y l m hj ho hy hl hm hcl J.closed (fun e he hb => J.closed j y (by rw [Array.getElem?_toList]; exact hy) hLj e he hb)
      rw [this] at hLi; cases hLi
    have getL : ∀ (j : Nat) y, ops[j]? = some y → ∃ m, ls[j]? = some m := fun j y hy => by
      have : j < ls.length := by rw [F.len]; exact (Array.getElem?_eq_some_iff.1 hy).1
      exact ⟨_, List.getElem?_eq_getElem this⟩
    -- the slots that are looked at
    have look : ∀ t, t ∈ o.looksAt ops → Rep C (lk (e i) t) (a.tmps.getD t undef) := by
      intro t ht
      have hcl1 : ∀ (y : Oper) (m : LOp), y.dst = some t → clash (infoOf ops y m) (infoOf ops o l) = true := fun y m hyt => by
        simp [clash, infoOf, hyt, has, ht]
      have hcl2 : ∀ (y : Oper) (m : LOp), y.dst = some t → clash (infoOf ops o l) (infoOf ops y m) = true := fun y m hyt => by
        simp [clash, infoOf, hyt, has, ht]
      by_cases hw : ∃ (j : Nat) (y : Oper), j < i ∧ ops[j]? = some y ∧ y.dst = some t
      · obtain ⟨j, y, hj, hy, hyt⟩ := hw
        obtain ⟨m, hm⟩ := getL j y hy
        rw [(lkE i (by omega) t).1 j y hj hy hyt]
        exact J.done j y t hy hyt (before j y m hj hy hm (hcl1 y m hyt))
      · rw [(lkE i (by omega) t).2 fun j y hj hy hyt => hw ⟨j, y, hj, hy, hyt⟩]
        refine J.rest t fun j y hy hyt => ?_
        rcases Nat.lt_trichotomy j i with h | h | h
        · exact absurd ⟨j, y, h, hy, hyt⟩ hw
        · subst h; exact hLi
        · obtain ⟨m, hm⟩ := getL j y hy
          exact behind j y m h hy hm (hcl2 y m hyt)
    have hreads : Reads C (LO.ev (e i)) a o := fun t ht => look t (List.mem_append_left _ (List.mem_filterMap.2 ⟨.tmp t, Array.mem_toList_iff.2 ht, rfl⟩))
    -- the objects that are asked
    obtain ⟨p, hp, hσ, hp1, hp2⟩ := J.obs
    have hobs : l.k.cls ≠ 0 → C.σ = s i := by
      intro hc0
      have hcl : ∀ (y : Oper) (m : LOp), m.k.cls = 2 → clash (infoOf ops y m) (infoOf ops o l) = true ∧ clash (infoOf ops o l) (infoOf ops y m) = true := fun y m hm => by
        constructor <;> simp [clash, infoOf, hm, hc0]
      rw [hσ]
      rcases Nat.le_total p i with h | h
      · refine (sconst p i h (by omega) fun j m h1 h2 hm hc2 => ?_).symm
        have hy : ops[j]? = some (ops[j]'(by omega)) := Array.getElem?_eq_getElem (by omega)
        have := hp2 j m hm hc2 (before j _ m h2 hy hm (hcl _ m hc2).1)
        omega
      · refine sconst i p h hp fun j m h1 h2 hm hc2 => ?_
        have hLj := hp1 j m h2 hm hc2
        rcases Nat.eq_or_lt_of_le h1 with h3 | h3
        · subst h3; rw [hLi] at hLj; cases hLj
        · have hy : ops[j]? = some (ops[j]'(by omega)) := Array.getElem?_eq_getElem (by omega)
          have := behind j _ m h3 hy hm (hcl _ m hc2).2
          rw [this] at hLj; cases hLj
    have hcls2 : ∀ k : LK, k.cls ≤ 2 := fun k => by cases k <;> simp [LK.cls]
    -- behind the operation
    have next : ∀ C' v, Ext C C' → Inv C' → Rep C' (d i) v → (C'.σ = s (i + 1) ∧ l.k.cls ≠ 0 ∨ C'.σ = C.σ ∧ l.k.cls ≠ 2) → wpAny P .any ops Q fuel (L.setIfInBounds i true) (a.put o.dst v) C'.w := by
      intro C' v hx hi' hrep hσ'
      have gd : ∀ j, (L.setIfInBounds i true).getD j false = if i = j then true else L.getD j false := fun j => getD_set L i j hLs
      refine ih (L.setIfInBounds i true) C' (a.put o.dst v) ⟨by simpa using J.size, ?_, J.ext.trans hx, hi', ?_, ?_, ?_, ?_, ?_⟩ (fun j hj hLj => ?_) ?_
      · intro j y hy hLj e he hb
        show (L.setIfInBounds i true).getD e.on false = true
        simp only [gd] at hLj ⊢
        split
        · rfl
        · split at hLj
          · rename_i hij
            subst hij
            rw [Array.getElem?_toList, ho] at hy; cases hy
            exact hL e he hb
          · exact J.closed j y hy hLj e he hb
      · cases hdo : o.dst <;> simp [Act.put, J.tmps]
      · cases hdo : o.dst <;> simp [Act.put, J.defers]
      · rcases hσ' with ⟨h1, hc0⟩ | ⟨h1, hc2⟩
        · have hcl : ∀ (y : Oper) (m : LOp), m.k.cls = 2 → clash (infoOf ops y m) (infoOf ops o l) = true ∧ clash (infoOf ops o l) (infoOf ops y m) = true := fun y m hm => by
            constructor <;> simp [clash, infoOf, hm, hc0]
          refine ⟨i + 1, by omega, h1, fun j m hj hm hc2 => ?_, fun j m hm hc2 hLj => ?_⟩
          · rw [gd]
            split
            · rfl
            · have hy : ops[j]? = some (ops[j]'(by omega)) := Array.getElem?_eq_getElem (by omega)
              exact before j _ m (by omega) hy hm (hcl _ m hc2).1
          · rw [gd] at hLj
            split at hLj
            · omega
            · apply Classical.byContradiction
              intro h
              have hjl : j < ops.size := by rw [← F.len]; exact (List.getElem?_eq_some_iff.1 hm).1
              have hy : ops[j]? = some (ops[j]'hjl) := Array.getElem?_eq_getElem hjl
              have := behind j _ m (by omega) hy hm (hcl _ m hc2).2
              rw [this] at hLj; cases hLj
        · refine ⟨p, hp, h1.trans hσ, fun j m hj hm hc => ?_, fun j m hm hc hLj => ?_⟩
          · rw [gd]; split
            · rfl
            · exact hp1 j m hj hm hc
          · rw [gd] at hLj
            split at hLj
            · rename_i hij; subst hij
              rw [hl] at hm; cases hm
              exact absurd hc hc2
            · exact hp2 j m hm hc hLj
      · intro j y t hy hyt hLj
        rw [gd] at hLj
        by_cases hij : i = j
        · subst hij
          rw [ho] at hy; cases hy
          rw [hyt]
          have htN := hN t hyt
          rw [← J.tmps] at htN
          simp [Act.put, htN]; exact hrep
        · rw [if_neg hij] at hLj
          have hne : o.dst ≠ some t := fun h => hij (F.one i j o y t ho hy h hyt)
          have e1 : (a.put o.dst v).tmps.getD t undef = a.tmps.getD t undef := by
            cases hdo : o.dst with
            | none => rfl
            | some k => have : k ≠ t := fun h => hne (by rw [hdo, h]); simp [Act.put, Array.getElem?_setIfInBounds_ne this]
          rw [e1]; exact (J.done j y t hy hyt hLj).ext hx
      · intro t hno
        have hne : o.dst ≠ some t := fun h => by
          have := hno i o ho h
          rw [gd, if_pos rfl] at this; cases this
        have e1 : (a.put o.dst v).tmps.getD t undef = a.tmps.getD t undef := by
          cases hdo : o.dst with
          | none => rfl
          | some k => have : k ≠ t := fun h => hne (by rw [hdo, h]); simp [Act.put, Array.getElem?_setIfInBounds_ne this]
        rw [e1]
        refine (J.rest t fun j y hy hyt => ?_).ext hx
        have := hno j y hy hyt
        rw [gd] at this
        split at this
        · cases this
        · exact this
      · -- there is still fuel
        apply Nat.pos_of_ne_zero
        intro hz
        subst hz
        rw [gd] at hLj
        split at hLj
        · cases hLj
        · rename_i hij
          have h1 : i ∈ (List.range ops.size).filter fun j => !(L.getD j false) := List.mem_filter.2 ⟨List.mem_range.2 hlt, by simp only [hLi]; rfl⟩
          have h2 : j ∈ (List.range ops.size).filter fun j => !(L.getD j false) := List.mem_filter.2 ⟨List.mem_range.2 hj, by simp only [hLj]; rfl⟩
          match hm : (List.range ops.size).filter fun j => !(L.getD j false) with
          | [] => rw [hm] at h1; cases h1
          | [x] => rw [hm] at h1 h2; simp at h1 h2; omega
          | x :: y :: r => rw [hm] at hc; simp at hc
      · -- one less is left
        have hsub : ((List.range ops.size).filter fun j => !((L.setIfInBounds i true).getD j false)).length < ((List.range ops.size).filter fun j => !(L.getD j false)).length := by
          have e1 : ((List.range ops.size).filter fun j => !((L.setIfInBounds i true).getD j false)) = ((List.range ops.size).filter fun j => !(L.getD j false)).filter fun j => j != i := by
            rw [List.filter_filter]
            apply List.filter_congr
            intro j _
            rw [gd]
            by_cases hij : i = j
            · subst hij; simp
            · have : j ≠ i := fun h => hij h.symm
              simp [hij, this]
          rw [e1]
          have h1 : i ∈ (List.range ops.size).filter fun j => !(L.getD j false) := List.mem_filter.2 ⟨List.mem_range.2 hlt, by simp only [hLi]; rfl⟩
          exact List.length_filter_lt_length_iff_exists.2 ⟨i, h1, by simp⟩
        omega
    -- the operation itself
    unfold wpOp
    simp only [ho]
    obtain ⟨w1, w2⟩ := wanted_of (a := a) hg J.tmps
    have go : SOK P l.k (LO.ev (e i)) (s i) (d i) (s (i + 1)) → o.wp P a C.w (wpAny P .any ops Q fuel (L.setIfInBounds i true)) Q := by
      rintro ⟨q1, q2, q3⟩
      by_cases hc0 : l.k.cls = 0
      · refine step_sound hk J.inv (ev_plain _) hreads (q2 hc0 C.σ) fun C' d' v hx hi' hrep hK' => ?_
        obtain ⟨rfl, h⟩ := hK'
        exact next C' v hx hi' hrep (.inr ⟨h, by omega⟩)
      · rw [← hobs hc0] at q3
        refine step_sound hk J.inv (ev_plain _) hreads q3 fun C' d' v hx hi' hrep hK' => ?_
        obtain ⟨rfl, h⟩ := hK'
        exact next C' v hx hi' hrep (.inl ⟨h, hc0⟩)
    unfold GOK at hst2
    split at hst2
    · rename_i hgn
      rw [w1 hgn]
      exact .inl (go hst2)
    · rename_i t want hgs
      obtain ⟨b, hb, g1, g2⟩ := hst2
      have ht : t ∈ o.looksAt ops := by
        have hgg := hg
        unfold lowGuard at hgg
        split at hgg
        · rw [hgs] at hgg; cases hgg
        · rename_i j w hog
          split at hgg
          · rename_i t' ht'
            split at hgg
            · rw [hgs] at hgg; cases hgg
              unfold Oper.looksAt
              rw [hog]
              simp [ht']
            · cases hgg
          · cases hgg
      have hbv := look t ht
      rw [w2 t want hgs b (gv_val hbv hb)]
      by_cases hbw : b = some want
      · rw [if_pos (by simpa using hbw)]
        exact .inl (go (g1 hbw))
      · rw [if_neg (by simpa using hbw)]
        obtain ⟨hdi, hsi⟩ := g2 hbw
        rcases Nat.lt_or_ge l.k.cls 2 with h2 | h2
        · exact next C undef (.refl C) J.inv (by rw [hdi]; exact rep_none) (.inr ⟨rfl, by omega⟩)
        · exact next C undef (.refl C) J.inv (by rw [hdi]; exact rep_none) (.inl ⟨by rw [hsi]; exact hobs (by omega), by omega⟩)

end
end Go.Vi
