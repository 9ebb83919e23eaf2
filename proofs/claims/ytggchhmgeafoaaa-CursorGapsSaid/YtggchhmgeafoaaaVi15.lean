import Derived.Test.YtggchhmgeafoaaaVi14
set_option linter.unusedVariables false
set_option linter.unusedSimpArgs false
set_option linter.unnecessarySimpa false
namespace Go.Vi
open Go Go.RowKit
def maskFold (acc : List Nat) : List Edge → Nat → Nat
 | [], s => s
 | e :: es, s => maskFold acc es (if Region.binds .any e = true then s ||| (2 ^ e.on ||| acc.getD e.on 0) else s)
def masksGo : List Oper → List Nat → List Nat
 | [], acc => acc
 | o :: os, acc => masksGo os (acc ++ [maskFold acc o.after.toList 0])
structure Info where
 dst : Option Nat
 looks : List Nat
 cls : Nat
 deriving Inhabited
def has (d : Option Nat) (l : List Nat) : Bool := match d with
 | some t => l.contains t
 | none => false
def sameDst (x y : Info) : Bool := match x.dst, y.dst with
 | some a, some b => a == b
 | _, _ => false
def clash (x y : Info) : Bool := has x.dst y.looks || has y.dst x.looks
def clashM (x y : Info) : Bool := (x.cls == 2 && y.cls != 0) || (y.cls == 2 && x.cls != 0)
def infoOf (ops : Array Oper) (o : Oper) (l : LOp) : Info := ⟨o.dst, o.looksAt ops, l.k.cls⟩
def infos (ops : Array Oper) : List Oper → List LOp → List Info
 | o :: os, l :: ls => infoOf ops o l :: infos ops os ls
 | _, _ => []
def loSlots : List LO → Option (List Nat)
 | [] => some []
 | .t n :: r => match loSlots r with
  | some l => some (n :: l)
  | none => none
 | .c d :: r => if d.pt = true then loSlots r else none
def LK.asks : LK → Option (List Nat)
 | .load _ a => loSlots [a]
 | .call f args => loSlots (f :: args)
 | .eq _ _ x y => loSlots [x, y]
 | .b2s x => loSlots [x]
 | _ => none
def settled (is : List Info) (n i t : Nat) : Bool := (List.range n).all fun m => decide (m < i) || match is[m]? with
 | some x => !(x.dst == some t)
 | none => true
def excused (is : List Info) (ls : List LOp) (xss : List (List Nat)) (n i j : Nat) : Bool := match ls[i]?, ls[j]? with
 | some l, some m => l.k.cls == 1 && m.k.cls == 2 && (match l.k.asks with
  | some ts => ts.all fun t => (xss.getD j []).contains t && settled is n i t
  | none => false)
 | _, _ => false
def pairsOK (is : List Info) (ls : List LOp) (xss : List (List Nat)) (ms : List Nat) (n : Nat) : Bool :=
 (List.range n).all fun j => (List.range j).all fun i => match is[i]?, is[j]? with
  | some x, some y => !sameDst x y && (!clash x y || (ms.getD j 0).testBit i) && (!clashM x y || (ms.getD j 0).testBit i || excused is ls xss n i j || excused is ls xss n j i)
  | _, _ => false
def edgesOK (n : Nat) (os : List Oper) : Bool :=
 (List.range n).all fun j => match os[j]? with
  | some o => o.after.toList.all fun e => !Region.binds .any e || decide (e.on < j)
  | none => false
def drawOKX (ops : Array Oper) (ls : List LOp) (xss : List (List Nat)) : Bool :=
 edgesOK ops.size ops.toList && pairsOK (infos ops ops.toList ls) ls xss (masksGo ops.toList []) ops.size
def needX (ms : List Nat) (ls : List LOp) : List (List Nat) := (List.range ls.length).map fun j => match ls[j]? with
 | some m => if m.k.cls == 2 then ((List.range ls.length).flatMap fun i => match ls[i]? with
  | some l => if l.k.cls == 1 && !((ms.getD (max i j) 0).testBit (min i j)) then l.k.asks.getD [] else []
  | none => []).eraseDups else []
 | none => []
mutual
def D.names : D → List Nat
 | .ptr l _ _ _ => [l]
 | .own l _ _ _ _ _ => [l]
 | .agg cs => D.namesL cs
 | .tup cs => D.namesL cs
 | .fn _ cs => D.namesL cs
 | _ => []
def D.namesL : List D → List Nat
 | [] => []
 | d :: ds => D.names d ++ D.namesL ds
end
def keepD (σ σ' : List Ob) (d : D) : Prop := ∀ l ∈ d.names, σ[l]? = σ'[l]?
theorem namesL_mem {l : Nat} : ∀ {ds : List D}, l ∈ D.namesL ds ↔ ∃ d ∈ ds, l ∈ d.names
 | [] => by simp [D.namesL]
 | d :: ds => by simp [D.namesL, namesL_mem]
theorem keepD_trans {σ1 σ2 σ3 : List Ob} {d : D} (h : keepD σ1 σ2 d) (h' : keepD σ2 σ3 d) : keepD σ1 σ3 d := fun l hl => (h l hl).trans (h' l hl)
theorem keepD_symm {σ1 σ2 : List Ob} {d : D} (h : keepD σ1 σ2 d) : keepD σ2 σ1 d := fun l hl => (h l hl).symm
theorem names_pt0 {d : D} (h : d.pt0 = true) : d.names = [] := by
 cases d with
 | fn f cs =>
  simp only [D.pt0, List.isEmpty_iff] at h
  subst h; rfl
 | bool | int | str | nilp | nilfn | list | elt => rfl
 | _ => simp [D.pt0] at h
theorem names_pt1 {d : D} (h : d.pt1 = true) : d.names = [] := by
 cases d with
 | fn f cs =>
  simp only [D.pt1, List.all_eq_true] at h
  simp only [D.names]
  exact List.eq_nil_iff_forall_not_mem.2 fun l hl => by
   obtain ⟨d, hd, hl⟩ := namesL_mem.1 hl
   rw [names_pt0 (h d hd)] at hl; cases hl
 | bool | int | str | nilp | nilfn | list | elt => rfl
 | _ => simp [D.pt1] at h
theorem names_pt {d : D} (h : d.pt = true) : d.names = [] := by
 cases d with
 | agg cs =>
  simp only [D.pt, List.all_eq_true] at h
  simp only [D.names]
  exact List.eq_nil_iff_forall_not_mem.2 fun l hl => by
   obtain ⟨d, hd, hl⟩ := namesL_mem.1 hl
   rw [names_pt1 (h d hd)] at hl; cases hl
 | tup => simp [D.pt, D.pt1] at h
 | _ => exact names_pt1 h
theorem keepD_pt {σ σ' : List Ob} {d : D} (h : d.pt = true) : keepD σ σ' d := fun l hl => by rw [names_pt h] at hl; cases hl
theorem viewS_keep {σ σ' : List Ob} {d : D} (h : keepD σ σ' d) : viewS σ d = viewS σ' d := by
 cases d with
 | own l i k n z cl => simp only [viewS, h l (by simp [D.names])]
 | _ => rfl
theorem view0_keep {σ σ' : List Ob} {d : D} (h : keepD σ σ' d) : view0 σ d = view0 σ' d := by
 cases d with
 | own l i k n z cl => simp only [view0, viewS_keep h]
 | ptr l j i n => simp only [view0, h l (by simp [D.names])]
 | _ => rfl
theorem mapO_keep {f g : D → Option D} : ∀ {ds : List D}, (∀ d ∈ ds, f d = g d) → mapO f ds = mapO g ds
 | [], _ => rfl
 | d :: ds, h => by simp only [mapO, h d (by simp), mapO_keep (ds := ds) fun d hd => h d (by simp [hd])]
theorem view1_keep {σ σ' : List Ob} {d : D} (h : keepD σ σ' d) : view1 σ d = view1 σ' d := by
 cases d with
 | fn f cs => simp only [view1, mapO_keep fun d hd => view0_keep fun l hl => h l (namesL_mem.2 ⟨d, hd, hl⟩)]
 | _ => exact view0_keep h
theorem view2_keep {σ σ' : List Ob} {d : D} (h : keepD σ σ' d) : view2 σ d = view2 σ' d := by
 cases d with
 | agg cs => simp only [view2, mapO_keep fun d hd => view1_keep fun l hl => h l (namesL_mem.2 ⟨d, hd, hl⟩)]
 | _ => exact view1_keep h
theorem view_keep {σ σ' : List Ob} {d : D} (h : keepD σ σ' d) : view σ d = view σ' d := by
 cases d with
 | tup ds => simp only [view, mapO_keep fun d hd => view2_keep fun l hl => h l (namesL_mem.2 ⟨d, hd, hl⟩)]
 | _ => exact view2_keep h
theorem eqO_keep {σ σ' : List Ob} {t : ET} {x y : D} (h : keepD σ σ' x) : eqO σ t x y = eqO σ' t x y := by
 cases x with
 | own l i k n z cl =>
  have := h l (by simp [D.names])
  cases t with
  | slice =>
   cases y with
   | list nl tg rows => rcases nl with _ | b <;> (try cases b) <;> cases tg <;> cases rows <;> first | rfl | (simp only [eqO, this])
   | _ => rfl
  | _ => rfl
 | _ => cases t <;> rfl
theorem step_keep {P : Program} {k : LK} {ρ : LO → D} {σ σ' : List Ob} {d : D} {ts : List Nat} (hp : Plain ρ) (hc : k.cls = 1) (ha : k.asks = some ts) (hk : ∀ t ∈ ts, keepD σ σ' (ρ (.t t))) (h : k.step P true ρ σ fun d' s' => d' = d ∧ s' = σ) : k.step P true ρ σ' fun d' s' => d' = d ∧ s' = σ' := by
 have slots : ∀ (xs : List LO) (ts : List Nat), loSlots xs = some ts → (∀ t ∈ ts, keepD σ σ' (ρ (.t t))) → ∀ x ∈ xs, keepD σ σ' (ρ x) := by
  intro xs
  induction xs with
  | nil => simp
  | cons y ys ih =>
   intro ts h hk x hx
   cases y with
   | t n =>
    simp only [loSlots] at h
    split at h
    ·rename_i l hl
     cases h
     rcases List.mem_cons.1 hx with rfl | hx
     ·exact hk n (by simp)
     ·exact ih l hl (fun t ht => hk t (by simp [ht])) x hx
    ·cases h
   | c dd =>
    simp only [loSlots] at h
    split at h
    ·rename_i hpt
     rcases List.mem_cons.1 hx with rfl | hx
     ·rw [hp]; exact keepD_pt hpt
     ·exact ih ts h hk x hx
    ·cases h
 cases k <;> simp only [LK.cls] at hc <;> (try (cases hc; done))
 case slit sz xs => split at hc <;> cases hc
 case load ag a =>
  have hka := slots [a] ts ha hk a (by simp)
  simp only [LK.step, LK.run] at h ⊢
  split at h
  ·rename_i r i hρ
   try simp only [hρ]
   unfold loadRow at h ⊢
   split at h <;> simp_all
  ·rename_i l j i n hρ
   rw [hρ] at hka
   have hka' : σ[l]? = σ'[l]? := hka l (by simp [D.names])
   try simp only [hρ]
   rw [← hka']
   split at h
   ·rename_i o ho
    try simp only [ho]
    obtain ⟨h1, h2, h3, h4⟩ := h
    refine ⟨h1, h2, h3, fun r hr => ?_⟩
    have := h4 r hr
    unfold loadRow at this ⊢
    split at this <;> simp_all
   ·exact h.elim
  ·exact h.elim
 case call f args =>
  have hks := slots (f :: args) ts ha hk
  simp only [LK.step, CallK] at h ⊢
  split at h
  ·rename_i fid caps hf
   obtain ⟨r, ds', h1, h2, h3, h4⟩ := h
   refine ⟨r, ds', ?_, h2, h3, h4.1, by first | rfl | trivial⟩
   rw [← h1]
   refine (mapO_keep fun d hd => view_keep ?_).symm
   rcases fnA_mem hd with hd | hd
   ·obtain ⟨x, hx, rfl⟩ := List.mem_map.1 hd
    exact hks x (by simp [hx])
   ·have hkf := hks f (by simp)
    rw [hf] at hkf
    exact fun l hl => hkf l (namesL_mem.2 ⟨d, hd, hl⟩)
  ·exact h.elim
 case eq et neg x y =>
  have hkx := slots [x, y] ts ha hk x (by simp)
  simp only [LK.step, LK.run] at h ⊢
  rw [← eqO_keep hkx]
  split at h
  ·rename_i b hb
   try simp only [hb]
   exact ⟨h.1, by first | rfl | trivial⟩
  ·exact h.elim
 case b2s x =>
  have hkx := slots [x] ts ha hk x (by simp)
  simp only [LK.step, LK.run] at h ⊢
  rw [← viewS_keep hkx]
  split at h
  ·rename_i rows hr
   try simp only [hr]
   split at h
   ·rename_i l hl; try simp only [hl]
    exact ⟨h.1, by first | rfl | trivial⟩
   ·exact h.elim
  ·exact h.elim
theorem infos_get (ops : Array Oper) : ∀ (os : List Oper) (ls : List LOp) (i : Nat) (o : Oper) (l : LOp), os[i]? = some o → ls[i]? = some l → (infos ops os ls)[i]? = some (infoOf ops o l)
 | [], _, i, o, l, h, _ => by simp at h
 | _ :: _, [], i, o, l, _, h => by simp at h
 | o' :: os, l' :: ls, 0, o, l, h, h' => by simp at h h'; subst h; subst h'; simp [infos]
 | o' :: os, l' :: ls, i + 1, o, l, h, h' => by simpa [infos] using infos_get ops os ls i o l (by simpa using h) (by simpa using h')
theorem maskFold_bit (acc : List Nat) (j : Nat) : ∀ (es : List Edge) (s : Nat), (maskFold acc es s).testBit j = true → s.testBit j = true ∨ ∃ e ∈ es, Region.binds .any e = true ∧ (e.on = j ∨ (acc.getD e.on 0).testBit j = true)
 | [], s, h => .inl h
 | e :: es, s, h => by
  simp only [maskFold] at h
  rcases maskFold_bit acc j es _ h with h | ⟨e', he', h⟩
  ·split at h
   ·rename_i hb
    simp only [Nat.testBit_or, Bool.or_eq_true, Nat.testBit_two_pow, decide_eq_true_eq] at h
    rcases h with h | h | h
    ·exact .inl h
    ·exact .inr ⟨e, by simp, hb, .inl h⟩
    ·exact .inr ⟨e, by simp, hb, .inr h⟩
   ·exact .inl h
  ·exact .inr ⟨e', by simp [he'], h⟩
def Closed (os : List Oper) (L : Nat → Prop) : Prop := ∀ (i : Nat) o, os[i]? = some o → L i → ∀ e ∈ o.after.toList, Region.binds .any e = true → L e.on
theorem masks_spec {L : Nat → Prop} : ∀ (os : List Oper) (acc : List Nat) (all : List Oper), (∀ (i : Nat) o, os[i]? = some o → all[acc.length + i]? = some o) → Closed all L →
  (∀ (i : Nat) o, all[i]? = some o → ∀ e ∈ o.after.toList, Region.binds .any e = true → e.on < i) →
  (∀ (i : Nat) m, acc[i]? = some m → ∀ j, m.testBit j = true → (∀ o, all[i]? = some o → ∀ e ∈ o.after.toList, Region.binds .any e = true → L e.on) → L j) →
  ∀ (i : Nat) m, (masksGo os acc)[i]? = some m → ∀ j, m.testBit j = true → (∀ o, all[i]? = some o → ∀ e ∈ o.after.toList, Region.binds .any e = true → L e.on) → L j
 | [], acc, all, _, _, _, hacc, i, m, hm, j, hj, hL => hacc i m hm j hj hL
 | o :: os, acc, all, hall, hcl, hback, hacc, i, m, hm, j, hj, hL => by
  refine masks_spec os (acc ++ [maskFold acc o.after.toList 0]) all (fun i' o' h => ?_) hcl hback (fun i' m' hm' j' hj' hL' => ?_) i m hm j hj hL
  ·have := hall (i' + 1) o' (by simpa using h)
   simpa [Nat.add_assoc, Nat.add_comm 1] using this
  ·rcases getElem?_snoc hm' with hm' | ⟨rfl, rfl⟩
   ·exact hacc i' m' hm' j' hj' hL'
   ·have ho : all[acc.length]? = some o := by simpa using hall 0 o rfl
    rcases maskFold_bit acc j' _ _ hj' with h | ⟨e, he, hb, h⟩
    ·simp at h
    ·have hLe := hL' o ho e he hb
     rcases h with rfl | h
     ·exact hLe
     ·have hlt := hback _ o ho e he hb
      have hm : acc[e.on]? = some (acc.getD e.on 0) := by simp [hlt]
      exact hacc e.on _ hm j' h fun o' ho' e' he' hb' => hcl e.on o' ho' hLe e' he' hb'
def GOK (P : Program) (l : LOp) (env : Env) (σ : List Ob) (d : D) (σ' : List Ob) : Prop :=
 match l.guard with
 | none => SOK P l.k (LO.ev env) σ d σ'
 | some (t, want) => ∃ g, gv (lk env t) g ∧ (g = some want → SOK P l.k (LO.ev env) σ d σ') ∧ (g ≠ some want → d = .tup [] ∧ σ' = σ)
def keepK (ts : List Nat) (σ σ1 : List Ob) (K : Env → List Ob → Prop) : Env → List Ob → Prop := match ts with
 | [] => K
 | t :: ts => fun env σ' => (∀ x ∈ t :: ts, keepD σ σ1 (lk env x)) ∧ K env σ'
theorem keepK_spec {ts : List Nat} {σ σ1 : List Ob} {K : Env → List Ob → Prop} {env : Env} {σ' : List Ob} (h : keepK ts σ σ1 K env σ') : (∀ t ∈ ts, keepD σ σ1 (lk env t)) ∧ K env σ' := by
 cases ts with
 | nil => exact ⟨by simp, h⟩
 | cons t ts => exact h
def runOpsX (P : Program) : List (LOp × List Nat) → (Env → List Ob → Prop) → Env → List Ob → Prop
 | [], K, env, σ => K env σ
 | (o, ts) :: os, K, env, σ => runOps P true [o] (fun env1 σ1 => runOpsX P os (keepK ts σ σ1 K) env1 σ1) env σ
theorem trace {P : Program} : ∀ (ls : List LOp) (xss : List (List Nat)) (K : Env → List Ob → Prop) (env : Env) (σ : List Ob), ls.length = xss.length → runOpsX P (ls.zip xss) K env σ → ∃ (d : Nat → D) (s : Nat → List Ob) (e : Nat → Env), e 0 = env ∧ s 0 = σ ∧ K (e ls.length) (s ls.length) ∧
  (∀ (i : Nat) l, ls[i]? = some l → e (i + 1) = put (e i) l.dst (d i) ∧ GOK P l (e i) (s i) (d i) (s (i + 1))) ∧ ∀ (i : Nat) ts, xss[i]? = some ts → ∀ t ∈ ts, keepD (s i) (s (i + 1)) (lk (e ls.length) t)
 | [], [], K, env, σ, _, h => ⟨fun _ => .undef, fun _ => σ, fun _ => env, rfl, rfl, h, by simp, by simp⟩
 | [], _ :: _, K, env, σ, hl, _ => by simp at hl
 | _ :: _, [], K, env, σ, hl, _ => by simp at hl
 | l :: ls, ts :: xss, K, env, σ, hl, h => by
  have fin : ∀ d0 σ', GOK P l env σ d0 σ' → runOpsX P (ls.zip xss) (keepK ts σ σ' K) (put env l.dst d0) σ' → ∃ (d : Nat → D) (s : Nat → List Ob) (e : Nat → Env), e 0 = env ∧ s 0 = σ ∧ K (e (l :: ls).length) (s (l :: ls).length) ∧
    (∀ (i : Nat) l', (l :: ls)[i]? = some l' → e (i + 1) = put (e i) l'.dst (d i) ∧ GOK P l' (e i) (s i) (d i) (s (i + 1))) ∧ ∀ (i : Nat) ts', (ts :: xss)[i]? = some ts' → ∀ t ∈ ts', keepD (s i) (s (i + 1)) (lk (e (l :: ls).length) t) := by
   intro d0 σ' hg hr
   obtain ⟨d, s, e, he, hs, hK, hall, hkeep⟩ := trace ls xss _ _ _ (by simpa using hl) hr
   replace hK := keepK_spec hK
   refine ⟨fun i => match i with | 0 => d0 | i + 1 => d i, fun i => match i with | 0 => σ | i + 1 => s i, fun i => match i with | 0 => env | i + 1 => e i, rfl, rfl, by simpa using hK.2, fun i l' hl' => ?_, fun i ts' hts => ?_⟩
   ·cases i with
    | zero => simp at hl'; subst hl'; exact ⟨he, by simpa [hs] using hg⟩
    | succ i => exact hall i l' (by simpa using hl')
   ·cases i with
    | zero =>
     simp at hts; subst hts
     intro t ht
     have := hK.1 t ht
     simpa [hs] using this
    | succ i => simpa using hkeep i ts' (by simpa using hts)
  simp only [List.zip_cons_cons, runOpsX, runOps] at h
  split at h
  ·rename_i hg
   obtain ⟨d0, σ', hr, hs⟩ := step_det h
   exact fin d0 σ' (by simpa [GOK, hg] using hs) hr
  ·rename_i t want hg
   obtain ⟨b, hb, h1, h2⟩ := h
   by_cases hbw : b = some want
   ·obtain ⟨d0, σ', hr, hs⟩ := step_det (h1 hbw)
    exact fin d0 σ' (by simp only [GOK, hg]; exact ⟨b, hb, fun _ => hs, fun h => absurd hbw h⟩) hr
   ·exact fin (.tup []) σ (by simp only [GOK, hg]; exact ⟨b, hb, fun h => absurd h hbw, fun _ => by simp⟩) (h2 hbw)
section
variable {P : Program} {N : Nat} {ops : Array Oper} {ls : List LOp} {xss : List (List Nat)}
def toX (l : LOp) : LOp := match l.k with
 | .call f args => { l with k := .callX f args }
 | _ => l
def lowX (P : Program) (N : Nat) (ops : Array Oper) (o : Oper) (l : LOp) : Prop := ∃ l0, lowOne P N ops o = some l0 ∧ (l = l0 ∨ l = toX l0)
theorem lowX_spec {o : Oper} {l : LOp} (h : lowX P N ops o l) : (lowOp P o = some l.k ∨ ∃ f args, lowOp P o = some (.call f args) ∧ l.k = .callX f args) ∧ lowGuard N ops o.guard = some l.guard ∧ l.dst = o.dst ∧ ∀ k, o.dst = some k → k < N := by
 obtain ⟨l0, h, hl⟩ := h
 obtain ⟨h1, h2, h3, h4⟩ := lowOne_spec h
 rcases hl with rfl | rfl
 ·exact ⟨.inl h1, h2, h3, h4⟩
 ·unfold toX
  split
  ·rename_i f args hk
   exact ⟨.inr ⟨f, args, by rw [h1, hk], rfl⟩, h2, h3, h4⟩
  ·exact ⟨.inl h1, h2, h3, h4⟩
structure DrawFacts (P : Program) (N : Nat) (ops : Array Oper) (ls : List LOp) (xss : List (List Nat)) : Prop where
 len : ls.length = ops.size
 low : ∀ (i : Nat) o l, ops[i]? = some o → ls[i]? = some l → lowX P N ops o l
 back : ∀ (i : Nat) o, ops[i]? = some o → ∀ e ∈ o.after.toList, Region.binds .any e = true → e.on < i
 one : ∀ (i j : Nat) x y t, ops[i]? = some x → ops[j]? = some y → x.dst = some t → y.dst = some t → i = j
 ahead : ∀ (L : Nat → Prop) (i j : Nat) x y l m, i < j → ops[i]? = some x → ops[j]? = some y → ls[i]? = some l → ls[j]? = some m → clash (infoOf ops x l) (infoOf ops y m) = true → Closed ops.toList L →
  (∀ e ∈ y.after.toList, Region.binds .any e = true → L e.on) → L i
 aheadM : ∀ (L : Nat → Prop) (i j : Nat) x y l m, i < j → ops[i]? = some x → ops[j]? = some y → ls[i]? = some l → ls[j]? = some m → clashM (infoOf ops x l) (infoOf ops y m) = true → Closed ops.toList L →
  (∀ e ∈ y.after.toList, Region.binds .any e = true → L e.on) → L i ∨ excused (infos ops ops.toList ls) ls xss ops.size i j = true ∨ excused (infos ops ops.toList ls) ls xss ops.size j i = true
theorem drawFacts {ls0 : List LOp} (hl : lowList P N ops ops.toList = some ls0) (hls : ls = ls0 ∨ ls = ls0.map toX) (hd : drawOKX ops ls xss = true) : DrawFacts P N ops ls xss := by
 obtain ⟨hlen0, hlow0⟩ := lowList_spec hl
 have hlen : ls.length = ops.toList.length := by rcases hls with rfl | rfl <;> simpa using hlen0
 have hlow : ∀ (i : Nat) o l, ops.toList[i]? = some o → ls[i]? = some l → lowX P N ops o l := fun i o l ho hl' => by
  rcases hls with rfl | rfl
  ·exact ⟨l, hlow0 i o l ho hl', .inl rfl⟩
  ·simp only [List.getElem?_map, Option.map_eq_some_iff] at hl'
   obtain ⟨l0, h0, rfl⟩ := hl'
   exact ⟨l0, hlow0 i o l0 ho h0, .inr rfl⟩
 simp only [drawOKX, Bool.and_eq_true] at hd
 obtain ⟨he, hp⟩ := hd
 have back : ∀ (i : Nat) o, ops[i]? = some o → ∀ e ∈ o.after.toList, Region.binds .any e = true → e.on < i := by
  intro i o ho e hm hb
  have hlt : i < ops.size := (Array.getElem?_eq_some_iff.1 ho).1
  simp only [edgesOK, List.all_eq_true, List.mem_range] at he
  have := he i hlt
  rw [Array.getElem?_toList, ho] at this
  simp only [List.all_eq_true] at this
  have := this e hm
  simpa [hb] using this
 have pair : ∀ (i j : Nat) x y l m, i < j → ops[i]? = some x → ops[j]? = some y → ls[i]? = some l → ls[j]? = some m → sameDst (infoOf ops x l) (infoOf ops y m) = false ∧ (clash (infoOf ops x l) (infoOf ops y m) = true → ((masksGo ops.toList []).getD j 0).testBit i = true) ∧
   (clashM (infoOf ops x l) (infoOf ops y m) = true → ((masksGo ops.toList []).getD j 0).testBit i = true ∨ excused (infos ops ops.toList ls) ls xss ops.size i j = true ∨ excused (infos ops ops.toList ls) ls xss ops.size j i = true) := by
  intro i j x y l m hij hx hy hl hm
  have hlt : j < ops.size := (Array.getElem?_eq_some_iff.1 hy).1
  simp only [pairsOK, List.all_eq_true, List.mem_range] at hp
  have := hp j hlt i hij
  rw [infos_get ops _ _ i x l (by rw [Array.getElem?_toList]; exact hx) hl, infos_get ops _ _ j y m (by rw [Array.getElem?_toList]; exact hy) hm] at this
  simp only [Bool.and_eq_true, Bool.not_eq_true', Bool.or_eq_true] at this
  refine ⟨this.1.1, fun h => this.1.2.resolve_left (by simp [h]), fun h => ?_⟩
  rcases this.2 with ((h1 | h1) | h1) | h1
  ·rw [h] at h1; cases h1
  ·exact .inl h1
  ·exact .inr (.inl h1)
  ·exact .inr (.inr h1)
 have bits : ∀ (L : Nat → Prop) (i j : Nat) y, ((masksGo ops.toList []).getD j 0).testBit i = true → ops[j]? = some y → Closed ops.toList L → (∀ e ∈ y.after.toList, Region.binds .any e = true → L e.on) → L i := by
  intro L i j y hbit hy hcl hL
  have hml : ∃ mm, (masksGo ops.toList [])[j]? = some mm ∧ (masksGo ops.toList []).getD j 0 = mm := by
   cases h : (masksGo ops.toList [])[j]? with
   | none => simp [h] at hbit
   | some mm => exact ⟨mm, rfl, by simp [h]⟩
  obtain ⟨mm, h1, h2⟩ := hml
  rw [h2] at hbit
  exact masks_spec ops.toList [] ops.toList (fun i o h => by simpa using h) hcl (fun i o ho => back i o (by rw [Array.getElem?_toList] at ho; exact ho)) (by simp) j mm h1 i hbit
   (fun o ho e he hb => by rw [Array.getElem?_toList, hy] at ho; cases ho; exact hL e he hb)
 refine ⟨by simpa using hlen, fun i o l ho hl => hlow i o l (by rw [Array.getElem?_toList]; exact ho) hl, back, fun i j x y t hx hy h1 h2 => ?_, fun L i j x y l m hij hx hy hl hm hc hcl hL => ?_, fun L i j x y l m hij hx hy hl hm hc hcl hL => ?_⟩
 ·have get : ∀ (i : Nat) x, ops[i]? = some x → ∃ l, ls[i]? = some l := fun i x hx => by
   have hlt : i < ls.length := by rw [hlen]; simpa using (Array.getElem?_eq_some_iff.1 hx).1
   exact ⟨_, List.getElem?_eq_getElem hlt⟩
  obtain ⟨l, hl⟩ := get i x hx
  obtain ⟨m, hm⟩ := get j y hy
  rcases Nat.lt_trichotomy i j with h | h | h
  ·have := (pair i j x y l m h hx hy hl hm).1
   simp [sameDst, infoOf, h1, h2] at this
  ·exact h
  ·have := (pair j i y x m l h hy hx hm hl).1
   simp [sameDst, infoOf, h1, h2] at this
 ·exact bits L i j y ((pair i j x y l m hij hx hy hl hm).2.1 hc) hy hcl hL
 ·rcases (pair i j x y l m hij hx hy hl hm).2.2 hc with h | h
  ·exact .inl (bits L i j y h hy hcl hL)
  ·exact .inr h
structure Some_ (ops : Array Oper) (ls : List LOp) (N : Nat) (C0 : Ctx) (env : Env) (d : Nat → D) (s : Nat → List Ob) (L : Array Bool) (C : Ctx) (a : Act) : Prop where
 size : L.size = ops.size
 closed : Closed ops.toList fun j => L.getD j false = true
 ext : Ext C0 C
 inv : Inv C
 tmps : a.tmps.size = N
 defers : a.defers = []
 obs : ∃ p, p ≤ ops.size ∧ C.σ = s p ∧ (∀ (j : Nat) l, j < p → ls[j]? = some l → l.k.cls = 2 → L.getD j false = true) ∧ (∀ (j : Nat) l, ls[j]? = some l → l.k.cls = 2 → L.getD j false = true → j < p)
 done : ∀ (j : Nat) o t, ops[j]? = some o → o.dst = some t → L.getD j false = true → Rep C (d j) (a.tmps.getD t undef)
 rest : ∀ t, (∀ (j : Nat) o, ops[j]? = some o → o.dst = some t → L.getD j false = false) → Rep C (lk env t) (a.tmps.getD t undef)
theorem getD_set (L : Array Bool) (i j : Nat) (hi : i < L.size) : (L.setIfInBounds i true).getD j false = if i = j then true else L.getD j false := by
 by_cases e : i = j
 ·subst e; simp [hi]
 ·rw [if_neg e]; simp [Array.getElem?_setIfInBounds_ne e]
theorem lk_env (F : DrawFacts P N ops ls xss) {env : Env} {d : Nat → D} {e : Nat → Env} (h0 : e 0 = env) (hst : ∀ (i : Nat) l, ls[i]? = some l → e (i + 1) = put (e i) l.dst (d i)) :
  ∀ i, i ≤ ops.size → ∀ t, (∀ (j : Nat) o, j < i → ops[j]? = some o → o.dst = some t → lk (e i) t = d j) ∧ ((∀ (j : Nat) o, j < i → ops[j]? = some o → o.dst ≠ some t) → lk (e i) t = lk env t) := by
 intro i
 induction i with
 | zero => intro _ t; exact ⟨fun j o h => absurd h (Nat.not_lt_zero _), fun _ => by rw [h0]⟩
 | succ i ih =>
  intro hi t
  obtain ⟨h1, h2⟩ := ih (by omega) t
  have hl : ls[i]? = some (ls[i]'(by rw [F.len]; omega)) := List.getElem?_eq_getElem (by rw [F.len]; omega)
  have ho : ops[i]? = some (ops[i]'(by omega)) := Array.getElem?_eq_getElem (by omega)
  have hd := (lowX_spec (F.low i _ _ ho hl)).2.2.1
  rw [hst i _ hl, hd]
  generalize ops[i]'(by omega) = o at ho
  refine ⟨fun j o' hj ho' hd' => ?_, fun hno => ?_⟩
  ·by_cases hji : j = i
   ·subst hji
    rw [ho] at ho'; cases ho'
    rw [hd']; simp [put, lk]
   ·have hne : o.dst ≠ some t := fun h => hji (F.one j i o' o t ho' ho hd' h)
    rw [← h1 j o' (by omega) ho' hd']
    cases hdo : o.dst with
    | none => rfl
    | some k => have : k ≠ t := fun h => hne (by rw [hdo, h]); simp [put, lk, this]
  ·have hne : o.dst ≠ some t := hno i o (by omega) ho
   rw [← h2 fun j o' hj => hno j o' (by omega)]
   cases hdo : o.dst with
   | none => rfl
   | some k => have : k ≠ t := fun h => hne (by rw [hdo, h]); simp [put, lk, this]
theorem draw_any {Q : Exit → Act → World → Prop} {K : Env → List Ob → Prop} (F : DrawFacts P N ops ls xss) {C0 : Ctx} {env : Env} {d : Nat → D} {s : Nat → List Ob} {e : Nat → Env} (h0 : e 0 = env) (hK : K (e ops.size) (s ops.size))
  (hst : ∀ (i : Nat) l, ls[i]? = some l → e (i + 1) = put (e i) l.dst (d i) ∧ GOK P l (e i) (s i) (d i) (s (i + 1)))
  (hkeep : ∀ (i : Nat) ts, xss[i]? = some ts → ∀ t ∈ ts, keepD (s i) (s (i + 1)) (lk (e ops.size) t))
  (hq : ∀ C' env' a', Ext C0 C' → St C' env' a' N → K env' C'.σ → Q .normal a' C'.w) :
  ∀ (fuel : Nat) (L : Array Bool) (C : Ctx) (a : Act), Some_ ops ls N C0 env d s L C a → (∀ j, j < ops.size → L.getD j false = false → 0 < fuel) → ((List.range ops.size).filter fun j => !(L.getD j false)).length ≤ fuel → wpAny P .any ops Q fuel L a C.w := by
 have lkE := lk_env F h0 (fun i l h => (hst i l h).1)
 have sconst : ∀ p q, p ≤ q → q ≤ ops.size → (∀ (j : Nat) l, p ≤ j → j < q → ls[j]? = some l → l.k.cls ≠ 2) → s q = s p := by
  intro p q hpq
  induction q with
  | zero => intro _ _; rw [show p = 0 by omega]
  | succ q ih =>
   intro hq hno
   by_cases hp : p = q + 1
   ·rw [hp]
   ·have hl : ls[q]? = some (ls[q]'(by rw [F.len]; omega)) := List.getElem?_eq_getElem (by rw [F.len]; omega)
    rw [← ih (by omega) (by omega) fun j l h1 h2 => hno j l h1 (by omega)]
    have hc := hno q _ (by omega) (by omega) hl
    have hg := (hst q _ hl).2
    have hcls : (ls[q]'(by rw [F.len]; omega)).k.cls ≤ 1 := by
     have : ∀ k : LK, k.cls ≤ 2 := fun k => by cases k <;> simp only [LK.cls] <;> first | decide | (split <;> decide)
     have := this (ls[q]'(by rw [F.len]; omega)).k
     omega
    unfold GOK at hg
    split at hg
    ·exact hg.1 hcls
    ·rename_i t want hgs
     obtain ⟨b, _, g1, g2⟩ := hg
     by_cases hb : b = want
     ·exact (g1 hb).1 hcls
     ·exact (g2 hb).2
 have fin : ∀ (L : Array Bool) (C : Ctx) (a : Act), Some_ ops ls N C0 env d s L C a → Region.ready .any ops L = [] → Q .normal a C.w := by
  intro L C a J hr
  have hall : ∀ i, i < ops.size → L.getD i false = true := by
   intro i
   induction i using Nat.strongRecOn with
   | _ i ih =>
    intro hi
    apply Classical.byContradiction
    intro hn
    have ho : ops[i]? = some ops[i] := Array.getElem?_eq_getElem hi
    have hLi : L.getD i true = false := by
     have : i < L.size := by rw [J.size]; exact hi
     simpa [this] using hn
    have : i ∈ Region.ready .any ops L := mem_ready.2 ⟨hLi, _, ho, fun e he hb => ih e.on (F.back i _ ho e (Array.mem_toList_iff.2 he) hb) (by have := F.back i _ ho e (Array.mem_toList_iff.2 he) hb; omega)⟩
    rw [hr] at this; cases this
  refine hq C (e ops.size) a J.ext ⟨J.inv, J.tmps, J.defers, fun t => ?_⟩ ?_
  ·by_cases hw : ∃ (j : Nat) (o : Oper), ops[j]? = some o ∧ o.dst = some t
   ·obtain ⟨j, o, ho, hd⟩ := hw
    have hlt : j < ops.size := (Array.getElem?_eq_some_iff.1 ho).1
    rw [(lkE _ (Nat.le_refl _) t).1 j o hlt ho hd]
    exact J.done j o t ho hd (hall j hlt)
   ·rw [(lkE _ (Nat.le_refl _) t).2 fun j o _ ho hd => hw ⟨j, o, ho, hd⟩]
    exact J.rest t fun j o ho hd => absurd ⟨j, o, ho, hd⟩ hw
  ·obtain ⟨p, hp, hσ, h1, h2⟩ := J.obs
   rw [hσ, ← sconst p ops.size hp (Nat.le_refl _) fun j l h3 h4 hl hc => by
    have := h2 j l hl hc (hall j h4); omega]
   exact hK
 intro fuel
 induction fuel with
 | zero =>
  intro L C a J hf hc
  have hall : ∀ j, j < ops.size → L.getD j false = true := fun j hj => by
   apply Classical.byContradiction
   intro h
   have := hf j hj (by simpa using h)
   omega
  have hr : Region.ready .any ops L = [] := by
   apply List.eq_nil_iff_forall_not_mem.2
   intro i hi
   obtain ⟨h1, o, ho, _⟩ := mem_ready.1 hi
   have hlt : i < ops.size := (Array.getElem?_eq_some_iff.1 ho).1
   have := hall i hlt
   have hs : i < L.size := by rw [J.size]; exact hlt
   simp [hs] at h1 this
   rw [h1] at this; cases this
  exact ⟨hr, fin L C a J hr⟩
 | succ fuel ih =>
  intro L C a J hf hc
  refine ⟨fin L C a J, fun i hi => ?_⟩
  obtain ⟨hLi', o, ho, hedges⟩ := mem_ready.1 hi
  have hlt : i < ops.size := (Array.getElem?_eq_some_iff.1 ho).1
  have hLs : i < L.size := by rw [J.size]; exact hlt
  have hLi : L.getD i false = false := by simp [hLs] at hLi' ⊢; exact hLi'
  have hl : ls[i]? = some (ls[i]'(by rw [F.len]; omega)) := List.getElem?_eq_getElem (by rw [F.len]; omega)
  generalize hlg : ls[i]'(by rw [F.len]; omega) = l at hl
  obtain ⟨hk, hg, hd, hN⟩ := lowX_spec (F.low i o l ho hl)
  obtain ⟨hst1, hst2⟩ := hst i l hl
  have hL : ∀ e ∈ o.after.toList, Region.binds .any e = true → L.getD e.on false = true := fun e he hb => hedges e (Array.mem_toList_iff.1 he) hb
  have before : ∀ (j : Nat) y m, j < i → ops[j]? = some y → ls[j]? = some m → clash (infoOf ops y m) (infoOf ops o l) = true → L.getD j false = true := fun j y m hj hy hm hcl =>
   F.ahead _ j i y o m l hj hy ho hm hl hcl J.closed hL
  have behind : ∀ (j : Nat) y m, i < j → ops[j]? = some y → ls[j]? = some m → clash (infoOf ops o l) (infoOf ops y m) = true → L.getD j false = false := fun j y m hj hy hm hcl => by
   apply Classical.byContradiction
   intro h
   have hLj : L.getD j false = true := by simpa using h
   have := F.ahead _ i j o y l m hj ho hy hl hm hcl J.closed (fun e he hb => J.closed j y (by rw [Array.getElem?_toList]; exact hy) hLj e he hb)
   rw [this] at hLi; cases hLi
  have beforeM : ∀ (j : Nat) y m, j < i → ops[j]? = some y → ls[j]? = some m → clashM (infoOf ops y m) (infoOf ops o l) = true → L.getD j false = true ∨ excused (infos ops ops.toList ls) ls xss ops.size j i = true ∨ excused (infos ops ops.toList ls) ls xss ops.size i j = true := fun j y m hj hy hm hcl =>
   F.aheadM _ j i y o m l hj hy ho hm hl hcl J.closed hL
  have behindM : ∀ (j : Nat) y m, i < j → ops[j]? = some y → ls[j]? = some m → clashM (infoOf ops o l) (infoOf ops y m) = true → L.getD j false = false ∨ excused (infos ops ops.toList ls) ls xss ops.size i j = true ∨ excused (infos ops ops.toList ls) ls xss ops.size j i = true := fun j y m hj hy hm hcl => by
   by_cases hLj : L.getD j false = true
   ·rcases F.aheadM _ i j o y l m hj ho hy hl hm hcl J.closed (fun e he hb => J.closed j y (by rw [Array.getElem?_toList]; exact hy) hLj e he hb) with h | h
    ·rw [h] at hLi; cases hLi
    ·exact .inr h
   ·exact .inl (by simpa using hLj)
  have getL : ∀ (j : Nat) y, ops[j]? = some y → ∃ m, ls[j]? = some m := fun j y hy => by
   have : j < ls.length := by rw [F.len]; exact (Array.getElem?_eq_some_iff.1 hy).1
   exact ⟨_, List.getElem?_eq_getElem this⟩
  have look : ∀ t, t ∈ o.looksAt ops → Rep C (lk (e i) t) (a.tmps.getD t undef) := by
   intro t ht
   have hcl1 : ∀ (y : Oper) (m : LOp), y.dst = some t → clash (infoOf ops y m) (infoOf ops o l) = true := fun y m hyt => by
    simp [clash, infoOf, hyt, has, ht]
   have hcl2 : ∀ (y : Oper) (m : LOp), y.dst = some t → clash (infoOf ops o l) (infoOf ops y m) = true := fun y m hyt => by
    simp [clash, infoOf, hyt, has, ht]
   by_cases hw : ∃ (j : Nat) (y : Oper), j < i ∧ ops[j]? = some y ∧ y.dst = some t
   ·obtain ⟨j, y, hj, hy, hyt⟩ := hw
    obtain ⟨m, hm⟩ := getL j y hy
    rw [(lkE i (by omega) t).1 j y hj hy hyt]
    exact J.done j y t hy hyt (before j y m hj hy hm (hcl1 y m hyt))
   ·rw [(lkE i (by omega) t).2 fun j y hj hy hyt => hw ⟨j, y, hj, hy, hyt⟩]
    refine J.rest t fun j y hy hyt => ?_
    rcases Nat.lt_trichotomy j i with h | h | h
    ·exact absurd ⟨j, y, h, hy, hyt⟩ hw
    ·subst h; exact hLi
    ·obtain ⟨m, hm⟩ := getL j y hy
     exact behind j y m h hy hm (hcl2 y m hyt)
  have hreads : Reads C (LO.ev (e i)) a o := fun t ht => look t (List.mem_append_left _ (List.mem_filterMap.2 ⟨.tmp t, Array.mem_toList_iff.2 ht, rfl⟩))
  obtain ⟨p, hp, hσ, hp1, hp2⟩ := J.obs
  have no2 : ∀ (j : Nat) m, ls[j]? = some m → m.k.cls = 2 → l.k.cls = 2 → ¬ (excused (infos ops ops.toList ls) ls xss ops.size j i = true ∨ excused (infos ops ops.toList ls) ls xss ops.size i j = true) := by
   intro j m hm h1 h2 h
   simp only [excused, hm, hl, h1, h2] at h
   simp at h
  have hcl2 : l.k.cls ≠ 0 → ∀ (y : Oper) (m : LOp), m.k.cls = 2 → clashM (infoOf ops y m) (infoOf ops o l) = true ∧ clashM (infoOf ops o l) (infoOf ops y m) = true := fun hc0 y m hm => by
    constructor <;> simp [clashM, infoOf, hm, hc0]
  have hobs2 : l.k.cls = 2 → C.σ = s i := by
   intro hc2'
   have hcl := hcl2 (by omega)
   rw [hσ]
   rcases Nat.le_total p i with h | h
   ·refine (sconst p i h (by omega) fun j m h1 h2 hm hc2 => ?_).symm
    have hy : ops[j]? = some (ops[j]'(by omega)) := Array.getElem?_eq_getElem (by omega)
    rcases beforeM j _ m h2 hy hm (hcl _ m hc2).1 with h3 | h3
    ·have := hp2 j m hm hc2 h3; omega
    ·exact no2 j m hm hc2 hc2' h3
   ·refine sconst i p h hp fun j m h1 h2 hm hc2 => ?_
    have hLj := hp1 j m h2 hm hc2
    rcases Nat.eq_or_lt_of_le h1 with h3 | h3
    ·subst h3; rw [hLi] at hLj; cases hLj
    ·have hy : ops[j]? = some (ops[j]'(by omega)) := Array.getElem?_eq_getElem (by omega)
     rcases behindM j _ m h3 hy hm (hcl _ m hc2).2 with h4 | h4
     ·rw [h4] at hLj; cases hLj
     ·exact no2 j m hm hc2 hc2' h4.symm
  have hobs1 : l.k.cls = 1 → C.σ = s i ∨ ∃ ts, l.k.asks = some ts ∧ ∀ t ∈ ts, keepD (s i) C.σ (lk (e i) t) := by
   intro hc1
   have hcl := hcl2 (by omega)
   have pr : ∀ (j : Nat) m, ls[j]? = some m → m.k.cls = 2 → (excused (infos ops ops.toList ls) ls xss ops.size j i = true ∨ excused (infos ops ops.toList ls) ls xss ops.size i j = true) → ∃ ts, l.k.asks = some ts ∧ ∀ t ∈ ts, keepD (s j) (s (j + 1)) (lk (e i) t) := by
    intro j m hm h1 h
    have hx : excused (infos ops ops.toList ls) ls xss ops.size i j = true := by
     rcases h with h | h
     ·simp only [excused, hm, hl, h1, hc1] at h; simp at h
     ·exact h
    simp only [excused, hl, hm, Bool.and_eq_true] at hx
    obtain ⟨_, hx⟩ := hx
    split at hx
    ·rename_i ts hts
     refine ⟨ts, hts, fun t ht => ?_⟩
     have := List.all_eq_true.1 hx t ht
     simp only [Bool.and_eq_true] at this
     obtain ⟨g1, g2⟩ := this
     have hxs : ∃ xs, xss[j]? = some xs ∧ t ∈ xs := by
      cases hxj : xss[j]? with
      | none => simp [hxj] at g1
      | some xs => exact ⟨xs, rfl, by simpa [hxj] using g1⟩
     obtain ⟨xs, hxs, htx⟩ := hxs
     have hk' := hkeep j xs hxs t htx
     have hsame : lk (e ops.size) t = lk (e i) t := by
      by_cases hw : ∃ (j : Nat) (y : Oper), j < i ∧ ops[j]? = some y ∧ y.dst = some t
      ·obtain ⟨j', y, hj', hy, hyt⟩ := hw
       rw [(lkE i (by omega) t).1 j' y hj' hy hyt, (lkE _ (Nat.le_refl _) t).1 j' y (by omega) hy hyt]
      ·rw [(lkE i (by omega) t).2 fun j y hj hy hyt => hw ⟨j, y, hj, hy, hyt⟩, (lkE _ (Nat.le_refl _) t).2 fun j' y hj' hy hyt => ?_]
       have hj'i : ¬ j' < i := fun h => hw ⟨j', y, h, hy, hyt⟩
       simp only [settled, List.all_eq_true, List.mem_range] at g2
       have g3 := g2 j' hj'
       obtain ⟨m', hm'⟩ := getL j' y hy
       rw [infos_get ops _ _ j' y m' (by rw [Array.getElem?_toList]; exact hy) hm'] at g3
       simp [infoOf, hyt, hj'i] at g3
     rw [← hsame]; exact hk'
    ·cases hx
   have walk : ∀ a b, a ≤ b → b ≤ ops.size → (∀ (j : Nat) m, a ≤ j → j < b → ls[j]? = some m → m.k.cls = 2 → excused (infos ops ops.toList ls) ls xss ops.size j i = true ∨ excused (infos ops ops.toList ls) ls xss ops.size i j = true) →
     s b = s a ∨ ∃ ts, l.k.asks = some ts ∧ ∀ t ∈ ts, keepD (s a) (s b) (lk (e i) t) := by
    intro a b hab
    induction b with
    | zero => intro _ _; exact .inl (by rw [show a = 0 by omega])
    | succ b ihb =>
     intro hb hex
     by_cases hp' : a = b + 1
     ·exact .inl (by rw [hp'])
     ·have h1 := ihb (by omega) (by omega) fun j m h1 h2 => hex j m h1 (by omega)
      have hlb : ls[b]? = some (ls[b]'(by rw [F.len]; omega)) := List.getElem?_eq_getElem (by rw [F.len]; omega)
      by_cases hc2 : (ls[b]'(by rw [F.len]; omega)).k.cls = 2
      ·obtain ⟨ts, hts, hk2⟩ := pr b _ hlb hc2 (hex b _ (by omega) (by omega) hlb hc2)
       rcases h1 with h1 | ⟨ts', hts', hk1⟩
       ·exact .inr ⟨ts, hts, fun t ht => by rw [← h1]; exact hk2 t ht⟩
       ·rw [hts] at hts'; cases hts'
        exact .inr ⟨ts, hts, fun t ht => keepD_trans (hk1 t ht) (hk2 t ht)⟩
      ·have hsb : s (b + 1) = s b := sconst b (b + 1) (by omega) hb fun j m h3 h4 hm => by
        have : j = b := by omega
        subst this
        rw [hlb] at hm; cases hm; exact hc2
       rw [hsb]; exact h1
   rw [hσ]
   rcases Nat.le_total p i with h | h
   ·have hex : ∀ (j : Nat) m, p ≤ j → j < i → ls[j]? = some m → m.k.cls = 2 → excused (infos ops ops.toList ls) ls xss ops.size j i = true ∨ excused (infos ops ops.toList ls) ls xss ops.size i j = true := fun j m h1 h2 hm hc2 => by
     have hy : ops[j]? = some (ops[j]'(by omega)) := Array.getElem?_eq_getElem (by omega)
     rcases beforeM j _ m h2 hy hm (hcl _ m hc2).1 with h3 | h3
     ·have := hp2 j m hm hc2 h3; omega
     ·exact h3
    rcases walk p i h (by omega) hex with hw | ⟨ts, hts, hk'⟩
    ·exact .inl hw.symm
    ·exact .inr ⟨ts, hts, fun t ht => keepD_symm (hk' t ht)⟩
   ·have hex : ∀ (j : Nat) m, i ≤ j → j < p → ls[j]? = some m → m.k.cls = 2 → excused (infos ops ops.toList ls) ls xss ops.size j i = true ∨ excused (infos ops ops.toList ls) ls xss ops.size i j = true := fun j m h1 h2 hm hc2 => by
     have hLj := hp1 j m h2 hm hc2
     rcases Nat.eq_or_lt_of_le h1 with h3 | h3
     ·subst h3; rw [hl] at hm; cases hm; omega
     ·have hy : ops[j]? = some (ops[j]'(by omega)) := Array.getElem?_eq_getElem (by omega)
      rcases behindM j _ m h3 hy hm (hcl _ m hc2).2 with h4 | h4
      ·rw [h4] at hLj; cases hLj
      ·exact h4.symm
    rcases walk i p h hp hex with hw | hw
    ·exact .inl hw
    ·exact .inr hw
  have hcls2 : ∀ k : LK, k.cls ≤ 2 := fun k => by cases k <;> simp only [LK.cls] <;> first | decide | (split <;> decide)
  have next : ∀ C' v, Ext C C' → Inv C' → Rep C' (d i) v → (C'.σ = s (i + 1) ∧ l.k.cls = 2 ∨ C'.σ = C.σ ∧ l.k.cls ≠ 2) → wpAny P .any ops Q fuel (L.setIfInBounds i true) (a.put o.dst v) C'.w := by
   intro C' v hx hi' hrep hσ'
   have gd : ∀ j, (L.setIfInBounds i true).getD j false = if i = j then true else L.getD j false := fun j => getD_set L i j hLs
   refine ih (L.setIfInBounds i true) C' (a.put o.dst v) ⟨by simpa using J.size, ?_, J.ext.trans hx, hi', ?_, ?_, ?_, ?_, ?_⟩ (fun j hj hLj => ?_) ?_
   ·intro j y hy hLj e he hb
    show (L.setIfInBounds i true).getD e.on false = true
    simp only [gd] at hLj ⊢
    split
    ·rfl
    ·split at hLj
     ·rename_i hij
      subst hij
      rw [Array.getElem?_toList, ho] at hy; cases hy
      exact hL e he hb
     ·exact J.closed j y hy hLj e he hb
   ·cases hdo : o.dst <;> simp [Act.put, J.tmps]
   ·cases hdo : o.dst <;> simp [Act.put, J.defers]
   ·rcases hσ' with ⟨h1, hc0⟩ | ⟨h1, hc2⟩
    ·have hcl := hcl2 (by omega)
     refine ⟨i + 1, by omega, h1, fun j m hj hm hc2 => ?_, fun j m hm hc2 hLj => ?_⟩
     ·rw [gd]
      split
      ·rfl
      ·have hy : ops[j]? = some (ops[j]'(by omega)) := Array.getElem?_eq_getElem (by omega)
       rcases beforeM j _ m (by omega) hy hm (hcl _ m hc2).1 with h3 | h3
       ·exact h3
       ·exact absurd h3 (no2 j m hm hc2 hc0)
     ·rw [gd] at hLj
      split at hLj
      ·omega
      ·apply Classical.byContradiction
       intro h
       have hjl : j < ops.size := by rw [← F.len]; exact (List.getElem?_eq_some_iff.1 hm).1
       have hy : ops[j]? = some (ops[j]'hjl) := Array.getElem?_eq_getElem hjl
       have := (behindM j _ m (by omega) hy hm (hcl _ m hc2).2).resolve_right fun h => no2 j m hm hc2 hc0 h.symm
       rw [this] at hLj; cases hLj
    ·refine ⟨p, hp, h1.trans hσ, fun j m hj hm hc => ?_, fun j m hm hc hLj => ?_⟩
     ·rw [gd]; split
      ·rfl
      ·exact hp1 j m hj hm hc
     ·rw [gd] at hLj
      split at hLj
      ·rename_i hij; subst hij
       rw [hl] at hm; cases hm
       exact absurd hc hc2
      ·exact hp2 j m hm hc hLj
   ·intro j y t hy hyt hLj
    rw [gd] at hLj
    by_cases hij : i = j
    ·subst hij
     rw [ho] at hy; cases hy
     rw [hyt]
     have htN := hN t hyt
     rw [← J.tmps] at htN
     simp [Act.put, htN]; exact hrep
    ·rw [if_neg hij] at hLj
     have hne : o.dst ≠ some t := fun h => hij (F.one i j o y t ho hy h hyt)
     have e1 : (a.put o.dst v).tmps.getD t undef = a.tmps.getD t undef := by
      cases hdo : o.dst with
      | none => rfl
      | some k => have : k ≠ t := fun h => hne (by rw [hdo, h]); simp [Act.put, Array.getElem?_setIfInBounds_ne this]
     rw [e1]; exact (J.done j y t hy hyt hLj).ext hx
   ·intro t hno
    have hne : o.dst ≠ some t := fun h => by
     have := hno i o ho h
     rw [gd, if_pos rfl] at this; cases this
    have e1 : (a.put o.dst v).tmps.getD t undef = a.tmps.getD t undef := by
     cases hdo : o.dst with
     | none => rfl
     | some k => have : k ≠ t := fun h => hne (by rw [hdo, h]); simp [Act.put, Array.getElem?_setIfInBounds_ne this]
    rw [e1]
    refine (J.rest t fun j y hy hyt => ?_).ext hx
    have := hno j y hy hyt
    rw [gd] at this
    split at this
    ·cases this
    ·exact this
   ·-- there is still fuel
    apply Nat.pos_of_ne_zero
    intro hz
    subst hz
    rw [gd] at hLj
    split at hLj
    ·cases hLj
    ·rename_i hij
     have h1 : i ∈ (List.range ops.size).filter fun j => !(L.getD j false) := List.mem_filter.2 ⟨List.mem_range.2 hlt, by simp only [hLi]; rfl⟩
     have h2 : j ∈ (List.range ops.size).filter fun j => !(L.getD j false) := List.mem_filter.2 ⟨List.mem_range.2 hj, by simp only [hLj]; rfl⟩
     match hm : (List.range ops.size).filter fun j => !(L.getD j false) with
     | [] => rw [hm] at h1; cases h1
     | [x] => rw [hm] at h1 h2; simp at h1 h2; omega
     | x :: y :: r => rw [hm] at hc; simp at hc
   ·-- one less is left
    have hsub : ((List.range ops.size).filter fun j => !((L.setIfInBounds i true).getD j false)).length < ((List.range ops.size).filter fun j => !(L.getD j false)).length := by
     have e1 : ((List.range ops.size).filter fun j => !((L.setIfInBounds i true).getD j false)) = ((List.range ops.size).filter fun j => !(L.getD j false)).filter fun j => j != i := by
      rw [List.filter_filter]
      apply List.filter_congr
      intro j _
      rw [gd]
      by_cases hij : i = j
      ·subst hij; simp
      ·have : j ≠ i := fun h => hij h.symm
       simp [hij, this]
     rw [e1]
     have h1 : i ∈ (List.range ops.size).filter fun j => !(L.getD j false) := List.mem_filter.2 ⟨List.mem_range.2 hlt, by simp only [hLi]; rfl⟩
     exact List.length_filter_lt_length_iff_exists.2 ⟨i, h1, by simp⟩
    omega
  unfold wpOp
  simp only [ho]
  obtain ⟨w1, w2⟩ := wanted_of (a := a) hg J.tmps
  have go : SOK P l.k (LO.ev (e i)) (s i) (d i) (s (i + 1)) → o.wp P a C.w (wpAny P .any ops Q fuel (L.setIfInBounds i true)) Q := by
   rintro ⟨q1, q2, q3⟩
   by_cases hc0 : l.k.cls = 0
   ·refine step_sound hk J.inv (ev_plain _) hreads (q2 hc0 C.σ) fun C' d' v hx hi' hrep hK' => ?_
    obtain ⟨rfl, h⟩ := hK'
    exact next C' v hx hi' hrep (.inr ⟨h, by omega⟩)
   ·by_cases hc2 : l.k.cls = 2
    ·rw [← hobs2 hc2] at q3
     refine step_sound hk J.inv (ev_plain _) hreads q3 fun C' d' v hx hi' hrep hK' => ?_
     obtain ⟨rfl, h⟩ := hK'
     exact next C' v hx hi' hrep (.inl ⟨h, hc2⟩)
    ·have hc1 : l.k.cls = 1 := by have := hcls2 l.k; omega
     have q4 : l.k.step P true (LO.ev (e i)) C.σ fun d' s' => d' = d i ∧ s' = C.σ := by
      rw [q1 (by omega)] at q3
      rcases hobs1 hc1 with h | ⟨ts, hts, hk'⟩
      ·rw [h]; exact q3
      ·exact step_keep (ev_plain _) hc1 hts hk' q3
     refine step_sound hk J.inv (ev_plain _) hreads q4 fun C' d' v hx hi' hrep hK' => ?_
     obtain ⟨rfl, h⟩ := hK'
     exact next C' v hx hi' hrep (.inr ⟨h, hc2⟩)
  unfold GOK at hst2
  split at hst2
  ·rename_i hgn
   rw [w1 hgn]
   exact .inl (go hst2)
  ·rename_i t want hgs
   obtain ⟨b, hb, g1, g2⟩ := hst2
   have ht : t ∈ o.looksAt ops := by
    have hgg := hg
    unfold lowGuard at hgg
    split at hgg
    ·rw [hgs] at hgg; cases hgg
    ·rename_i j w hog
     split at hgg
     ·rename_i t' ht'
      split at hgg
      ·rw [hgs] at hgg; cases hgg
       unfold Oper.looksAt
       rw [hog]
       simp [ht']
      ·cases hgg
     ·cases hgg
   have hbv := look t ht
   rw [w2 t want hgs b (gv_val hbv hb)]
   by_cases hbw : b = some want
   ·rw [if_pos (by simpa using hbw)]
    exact .inl (go (g1 hbw))
   ·rw [if_neg (by simpa using hbw)]
    obtain ⟨hdi, hsi⟩ := g2 hbw
    rcases Nat.lt_or_ge l.k.cls 2 with h2 | h2
    ·exact next C undef (.refl C) J.inv (by rw [hdi]; exact rep_none) (.inr ⟨rfl, by omega⟩)
    ·exact next C undef (.refl C) J.inv (by rw [hdi]; exact rep_none) (.inl ⟨by rw [hsi]; exact hobs2 (by have := hcls2 l.k; omega), by have := hcls2 l.k; omega⟩)
end
end Go.Vi
