import Derived.Test.YtggchhmgeafoaaaVi15i
set_option linter.unusedVariables false
set_option linter.unusedSimpArgs false
set_option linter.unnecessarySimpa false
namespace Go.Vi
open Go Go.RowKit
inductive LC where
 | skip
 | ret
 | exit (id : Nat)
 | ops (l : List LOp)
 | opsX (l : List (LOp × List Nat))
 | seq (a b : LC)
 | cond (c : LO) (a b : LC)
 | block (id : Nat) (c : LC)
 | loop (c : LC)
 | dead
 deriving Inhabited
def tryX (ops : Array Oper) (ls : List LOp) (xss : List (List Nat)) : Option LC := if ls.length = xss.length ∧ drawOKX ops ls xss = true then some (.opsX (ls.zip xss)) else none
theorem tryX_spec {ops : Array Oper} {ls : List LOp} {xss : List (List Nat)} {c : LC} (h : tryX ops ls xss = some c) : ls.length = xss.length ∧ drawOKX ops ls xss = true ∧ c = .opsX (ls.zip xss) := by
 unfold tryX at h
 split at h
 ·rename_i hc; cases h; exact ⟨hc.1, hc.2, rfl⟩
 ·cases h
def tryH (ops : Array Oper) (ls : List LOp) (xss : List (List Nat)) : Option LC := if ls.length = xss.length ∧ ((List.range ops.size).any fun f => drawOKH f ops ls xss) = true then some (.opsX (ls.zip xss)) else none
theorem tryH_spec {ops : Array Oper} {ls : List LOp} {xss : List (List Nat)} {c : LC} (h : tryH ops ls xss = some c) : ls.length = xss.length ∧ (∃ f, drawOKH f ops ls xss = true) ∧ c = .opsX (ls.zip xss) := by
 unfold tryH at h
 split at h
 ·rename_i hc
  cases h
  obtain ⟨f, _, hf⟩ := List.any_eq_true.1 hc.2
  exact ⟨hc.1, ⟨f, hf⟩, rfl⟩
 ·cases h
def orX {α : Type} (a b : Option α) : Option α := match a with
 | some x => some x
 | none => b
def lowDrawn (ops : Array Oper) (ls : List LOp) : Option LC :=
 orX (tryX ops (ls.map toX) (ls.map fun _ => [])) (orX (tryX ops (ls.map toX) (needX (masksGo ops.toList []) (ls.map toX))) (orX (tryX ops ls (ls.map fun _ => [])) (orX (tryX ops ls (needX (masksGo ops.toList []) ls))
  (orX (tryH ops (ls.map toX) (ls.map fun _ => [])) (orX (tryH ops (ls.map toX) (needX (masksGo ops.toList []) (ls.map toX))) (orX (tryH ops ls (ls.map fun _ => [])) (tryH ops ls (needX (masksGo ops.toList []) ls))))))))
theorem lowDrawn_spec {ops : Array Oper} {ls : List LOp} {c : LC} (h : lowDrawn ops ls = some c) : ∃ (l : List LOp) (xss : List (List Nat)), (l = ls ∨ l = ls.map toX) ∧ l.length = xss.length ∧ (drawOKX ops l xss = true ∨ ∃ f, drawOKH f ops l xss = true) ∧ c = .opsX (l.zip xss) := by
 have fin : ∀ {l : List LOp} {xss : List (List Nat)}, (l = ls ∨ l = ls.map toX) → tryX ops l xss = some c → ∃ (l : List LOp) (xss : List (List Nat)), (l = ls ∨ l = ls.map toX) ∧ l.length = xss.length ∧ (drawOKX ops l xss = true ∨ ∃ f, drawOKH f ops l xss = true) ∧ c = .opsX (l.zip xss) := fun {l xss} h1 h2 => by
  obtain ⟨a, b, c⟩ := tryX_spec h2
  exact ⟨l, xss, h1, a, .inl b, c⟩
 have finH : ∀ {l : List LOp} {xss : List (List Nat)}, (l = ls ∨ l = ls.map toX) → tryH ops l xss = some c → ∃ (l : List LOp) (xss : List (List Nat)), (l = ls ∨ l = ls.map toX) ∧ l.length = xss.length ∧ (drawOKX ops l xss = true ∨ ∃ f, drawOKH f ops l xss = true) ∧ c = .opsX (l.zip xss) := fun {l xss} h1 h2 => by
  obtain ⟨a, b, c⟩ := tryH_spec h2
  exact ⟨l, xss, h1, a, .inr b, c⟩
 unfold lowDrawn at h
 have or : ∀ {a b : Option LC}, orX a b = some c → a = some c ∨ b = some c := fun {a b} h => by
  cases a with
  | none => exact .inr h
  | some x => exact .inl h
 rcases or h with h | h
 ·exact fin (.inr rfl) h
 rcases or h with h | h
 ·exact fin (.inr rfl) h
 rcases or h with h | h
 ·exact fin (.inl rfl) h
 rcases or h with h | h
 ·exact fin (.inl rfl) h
 rcases or h with h | h
 ·exact finH (.inr rfl) h
 rcases or h with h | h
 ·exact finH (.inr rfl) h
 rcases or h with h | h
 ·exact finH (.inl rfl) h
 ·exact finH (.inl rfl) h
def lowCode (P : Program) (N : Nat) : Code → Option LC
 | .skip => some .skip
 | .ret => some .ret
 | .exit id => some (.exit id)
 | .region _ ops dr => match lowList P N ops ops.toList with
  | some ls => match dr with
   | true => lowDrawn ops ls
   | false => some (.ops ls)
  | none => some .dead
 | .seq a b => match lowCode P N a, lowCode P N b with
  | some x, some y => some (.seq x y)
  | _, _ => none
 | .cond c a b => match loOf c, lowCode P N a, lowCode P N b with
  | some l, some x, some y => some (.cond l x y)
  | _, _, _ => none
 | .block id c => (lowCode P N c).map (.block id)
 | .loop c => (lowCode P N c).map .loop
 | _ => none
inductive LI where
 | code (c : LC)
 | blk (id : Nat)
 | loop (c : LC)
def LowI (P : Program) (N : Nat) : LI → Item → Prop
 | .code c, .code rc => lowCode P N rc = some c
 | .blk id, .inBlock id' => id = id'
 | .loop c, .inLoop rc => lowCode P N rc = some c
 | _, _ => False
def LowIs (P : Program) (N : Nat) : List LI → List Item → Prop
 | [], [] => True
 | l :: ls, i :: is => LowI P N l i ∧ LowIs P N ls is
 | _, _ => False
def exitL (id : Nat) : List LI → Option (List LI)
 | [] => none
 | .blk id' :: k => if id' == id then some k else exitL id k
 | _ :: k => exitL id k
def Run (P : Program) (N : Nat) (base : List Ob) (k : List LI) (post : Env → List Ob → Prop) (env : Env) (σ : List Ob) : Prop :=
 ∀ (its : List Item), LowIs P N k its → ∀ (C0 C : Ctx) (a : Act), C0.σ = base → Ext C0 C → C.σ = σ → St C env a N → ∀ (b : Frame) (cs : List Frame),
  ∃ a' C' env' todo, Steps P (lone (b.at a its) cs C.w) (lone { b.at a' todo with mode := .returning } cs C'.w) ∧ Ext C0 C' ∧ St C' env' a' N ∧ post env' C'.σ
section
variable {P : Program} {N : Nat} {base : List Ob} {k : List LI} {post : Env → List Ob → Prop} {env : Env} {σ : List Ob}
theorem LowIs.cons {l : LI} {k : List LI} {its : List Item} (h : LowIs P N (l :: k) its) : ∃ i is, its = i :: is ∧ LowI P N l i ∧ LowIs P N k is := by
 cases its with
 | nil => exact h.elim
 | cons i is => exact ⟨i, is, rfl, h.1, h.2⟩
theorem low_code {c : LC} {i : Item} (h : LowI P N (.code c) i) : ∃ rc, i = .code rc ∧ lowCode P N rc = some c := by
 cases i <;> first | exact h.elim | exact ⟨_, rfl, h⟩
theorem Run_nil (h : post env σ) : Run P N base [] post env σ := by
 intro its hl C0 C a h0 hx hσ hst b cs
 cases its with
 | cons i is => exact hl.elim
 | nil => exact ⟨a, C, env, [], .one step_end, hx, hst, by rw [hσ]; exact h⟩
theorem Run_ret (h : post env σ) : Run P N base (.code .ret :: k) post env σ := by
 intro its hl C0 C a h0 hx hσ hst b cs
 obtain ⟨i, is, rfl, hi, hk⟩ := hl.cons
 obtain ⟨rc, rfl, hc⟩ := low_code hi
 have : rc = .ret := by
  cases rc <;> simp only [lowCode] at hc <;> first | rfl | (repeat' (split at hc)) <;> first | (cases hc; done) | (obtain ⟨_, _, _, _, _, hq⟩ := lowDrawn_spec hc; cases hq; done) | (simp only [Option.map_eq_some_iff] at hc; obtain ⟨_, _, hc⟩ := hc; cases hc; done)
 subst this
 exact ⟨a, C, env, _, .one step_ret, hx, hst, by rw [hσ]; exact h⟩
theorem Run.steps {its its' : List Item} {C : Ctx} {a : Act} {b : Frame} {cs : List Frame} (h1 : Steps P (lone (b.at a its) cs C.w) (lone (b.at a its') cs C.w)) {C0 : Ctx}
  (h : ∃ a' C' env' todo, Steps P (lone (b.at a its') cs C.w) (lone { b.at a' todo with mode := .returning } cs C'.w) ∧ Ext C0 C' ∧ St C' env' a' N ∧ post env' C'.σ) :
  ∃ a' C' env' todo, Steps P (lone (b.at a its) cs C.w) (lone { b.at a' todo with mode := .returning } cs C'.w) ∧ Ext C0 C' ∧ St C' env' a' N ∧ post env' C'.σ := by
 obtain ⟨a', C', env', todo, h2, h3⟩ := h
 exact ⟨a', C', env', todo, h1.trans h2, h3⟩
theorem Run_skip (h : Run P N base k post env σ) : Run P N base (.code .skip :: k) post env σ := by
 intro its hl C0 C a h0 hx hσ hst b cs
 obtain ⟨i, is, rfl, hi, hk⟩ := hl.cons
 obtain ⟨rc, rfl, hc⟩ := low_code hi
 have : rc = .skip := by
  cases rc <;> simp only [lowCode] at hc <;> first | rfl | (repeat' (split at hc)) <;> first | (cases hc; done) | (obtain ⟨_, _, _, _, _, hq⟩ := lowDrawn_spec hc; cases hq; done) | (simp only [Option.map_eq_some_iff] at hc; obtain ⟨_, _, hc⟩ := hc; cases hc; done)
 subst this
 exact Run.steps (.one step_skip) (h is hk C0 C a h0 hx hσ hst b cs)
theorem Run_seq {x y : LC} (h : Run P N base (.code x :: .code y :: k) post env σ) : Run P N base (.code (.seq x y) :: k) post env σ := by
 intro its hl C0 C a h0 hx hσ hst b cs
 obtain ⟨i, is, rfl, hi, hk⟩ := hl.cons
 obtain ⟨rc, rfl, hc⟩ := low_code hi
 have : ∃ rx ry, rc = .seq rx ry ∧ lowCode P N rx = some x ∧ lowCode P N ry = some y := by
  cases rc <;> simp only [lowCode] at hc <;> (repeat' (split at hc)) <;> first | (cases hc; done) | (obtain ⟨_, _, _, _, _, hq⟩ := lowDrawn_spec hc; cases hq; done) | (simp only [Option.map_eq_some_iff] at hc; obtain ⟨_, _, hc⟩ := hc; cases hc; done) | (cases hc; exact ⟨_, _, rfl, by assumption, by assumption⟩)
 obtain ⟨rx, ry, rfl, hx', hy'⟩ := this
 exact Run.steps (.one step_seq) (h (.code rx :: .code ry :: is) ⟨hx', hy', hk⟩ C0 C a h0 hx hσ hst b cs)
theorem Run_cond {c : LO} {x y : LC} {v : Bool} (hc : c.ev env = .bool v) (ht : v = true → Run P N base (.code x :: k) post env σ) (hf : v = false → Run P N base (.code y :: k) post env σ) : Run P N base (.code (.cond c x y) :: k) post env σ := by
 intro its hl C0 C a h0 hx hσ hst b cs
 obtain ⟨i, is, rfl, hi, hk⟩ := hl.cons
 obtain ⟨rc, rfl, hlc⟩ := low_code hi
 have : ∃ r rx ry, rc = .cond r rx ry ∧ loOf r = some c ∧ lowCode P N rx = some x ∧ lowCode P N ry = some y := by
  cases rc <;> simp only [lowCode] at hlc <;> (repeat' (split at hlc)) <;> first | (cases hlc; done) | (obtain ⟨_, _, _, _, _, hq⟩ := lowDrawn_spec hlc; cases hq; done) | (simp only [Option.map_eq_some_iff] at hlc; obtain ⟨_, _, hlc⟩ := hlc; cases hlc; done) | (cases hlc; exact ⟨_, _, _, rfl, by assumption, by assumption, by assumption⟩)
 obtain ⟨r, rx, ry, rfl, hr, hx', hy'⟩ := this
 have hv : a.eval r = .bool v := by
  cases r with
  | tmp t =>
   simp only [loOf, Option.some.injEq] at hr
   subst hr
   have := hst.rep t
   rw [show lk env t = .bool v from hc] at this
   exact rep_bool this
  | const u =>
   simp only [loOf, Option.map_eq_some_iff] at hr
   obtain ⟨d, hd, rfl⟩ := hr
   have := ofVal_rep hd C.good C.w
   rw [show d = .bool v from hc] at this
   exact rep_bool (.pure this)
  | func f => simp [loOf] at hr; obtain ⟨_, hr⟩ := hr; subst hr; simp [LO.ev] at hc
  | global g => simp [loOf] at hr
 refine Run.steps (.one (step_cond hv)) ?_
 cases v with
 | true => exact ht rfl (.code rx :: is) ⟨hx', hk⟩ C0 C a h0 hx hσ hst b cs
 | false => exact hf rfl (.code ry :: is) ⟨hy', hk⟩ C0 C a h0 hx hσ hst b cs
theorem Run_block {id : Nat} {x : LC} (h : Run P N base (.code x :: .blk id :: k) post env σ) : Run P N base (.code (.block id x) :: k) post env σ := by
 intro its hl C0 C a h0 hx hσ hst b cs
 obtain ⟨i, is, rfl, hi, hk⟩ := hl.cons
 obtain ⟨rc, rfl, hc⟩ := low_code hi
 have : ∃ rx, rc = .block id rx ∧ lowCode P N rx = some x := by
  cases rc <;> simp only [lowCode] at hc <;> (repeat' (split at hc)) <;> first | (cases hc; done) | (obtain ⟨_, _, _, _, _, hq⟩ := lowDrawn_spec hc; cases hq; done) | (simp only [Option.map_eq_some_iff] at hc; obtain ⟨_, h, hc⟩ := hc; cases hc; exact ⟨_, rfl, h⟩) | (simp only [Option.map_eq_some_iff] at hc; obtain ⟨_, _, hc⟩ := hc; cases hc; done)
 obtain ⟨rx, rfl, hx'⟩ := this
 exact Run.steps (.one step_block) (h (.code rx :: .inBlock id :: is) ⟨hx', rfl, hk⟩ C0 C a h0 hx hσ hst b cs)
theorem Run_blk {id : Nat} (h : Run P N base k post env σ) : Run P N base (.blk id :: k) post env σ := by
 intro its hl C0 C a h0 hx hσ hst b cs
 obtain ⟨i, is, rfl, hi, hk⟩ := hl.cons
 cases i <;> first | exact hi.elim | skip
 exact Run.steps (.one step_inBlock) (h is hk C0 C a h0 hx hσ hst b cs)
theorem exit_low {id : Nat} : ∀ {k : List LI} {k' : List LI} {its : List Item}, LowIs P N k its → exitL id k = some k' → ∃ its', exitTo id its = some its' ∧ LowIs P N k' its'
 | [], k', its, hl, h => by simp [exitL] at h
 | l :: k, k', its, hl, h => by
  obtain ⟨i, is, rfl, hi, hk⟩ := hl.cons
  cases l with
  | blk id' =>
   cases i <;> first | exact hi.elim | skip
   rename_i id''
   have : id' = id'' := hi
   subst this
   simp only [exitL] at h
   simp only [exitTo]
   split at h
   ·rename_i he; cases h; rw [if_pos he]; exact ⟨is, rfl, hk⟩
   ·rename_i he; rw [if_neg he]; exact exit_low hk h
  | code c => cases i <;> first | exact hi.elim | (simp only [exitL] at h; simp only [exitTo]; exact exit_low hk h)
  | loop c => cases i <;> first | exact hi.elim | (simp only [exitL] at h; simp only [exitTo]; exact exit_low hk h)
theorem Run_exit {id : Nat} {k' : List LI} (he : exitL id k = some k') (h : Run P N base k' post env σ) : Run P N base (.code (.exit id) :: k) post env σ := by
 intro its hl C0 C a h0 hx hσ hst b cs
 obtain ⟨i, is, rfl, hi, hk⟩ := hl.cons
 obtain ⟨rc, rfl, hc⟩ := low_code hi
 have : rc = .exit id := by
  cases rc <;> simp only [lowCode] at hc <;> (repeat' (split at hc)) <;> first | (cases hc; done) | (obtain ⟨_, _, _, _, _, hq⟩ := lowDrawn_spec hc; cases hq; done) | (simp only [Option.map_eq_some_iff] at hc; obtain ⟨_, _, hc⟩ := hc; cases hc; done) | (cases hc; rfl)
 subst this
 obtain ⟨its', h1, h2⟩ := exit_low hk he
 exact Run.steps (.one (step_exit h1)) (h its' h2 C0 C a h0 hx hσ hst b cs)
theorem Run_opsAny (hm : P.follows .mixedOrders = true) {x : LC} (hx : (∃ l, x = .ops l) ∨ ∃ l, x = .opsX l) (h : match x with
  | .ops l => runOps P false l (fun env σ => Run P N base k post env σ) env σ
  | .opsX l => runOpsX P l (fun env σ => Run P N base k post env σ) env σ
  | _ => False) : Run P N base (.code x :: k) post env σ := by
 intro its hl C0 C a h0 hx' hσ hst b cs
 obtain ⟨i, is, rfl, hi, hk⟩ := hl.cons
 obtain ⟨rc, rfl, hc⟩ := low_code hi
 have : ∃ id ops dr l0, rc = .region id ops dr ∧ lowList P N ops ops.toList = some l0 ∧ ((dr = false ∧ x = .ops l0) ∨ (dr = true ∧ ∃ (l : List LOp) (xss : List (List Nat)), (l = l0 ∨ l = l0.map toX) ∧ l.length = xss.length ∧ (drawOKX ops l xss = true ∨ ∃ f, drawOKH f ops l xss = true) ∧ x = .opsX (l.zip xss))) := by
  cases rc <;> simp only [lowCode] at hc <;> (repeat' (split at hc)) <;> first | (cases hc; done) | (simp only [Option.map_eq_some_iff] at hc; obtain ⟨_, _, hc⟩ := hc; cases hc; rcases hx with ⟨_, h⟩ | ⟨_, h⟩ <;> cases h; done) | (cases hc; rcases hx with ⟨_, h⟩ | ⟨_, h⟩ <;> cases h; done) | skip
  ·exact ⟨_, _, _, _, rfl, by assumption, .inr ⟨rfl, lowDrawn_spec hc⟩⟩
  ·cases hc; exact ⟨_, _, _, _, rfl, by assumption, .inl ⟨rfl, rfl⟩⟩
 obtain ⟨id, ops, dr, l0, rfl, hlow, hcase⟩ := this
 have hwp : (Code.region id ops dr).wp P (fun ex a' w' => ex = .normal ∧ ∃ C' env', C'.w = w' ∧ Ext C0 C' ∧ St C' env' a' N ∧ Run P N base k post env' C'.σ) a C.w := by
  subst hσ
  have hq : ∀ (C1 : Ctx), Ext C0 C1 → ∀ C' env' a', Ext C1 C' → St C' env' a' N → Run P N base k post env' C'.σ → (fun (ex : Exit) a' w' => ex = Exit.normal ∧ ∃ C' env', C'.w = w' ∧ Ext C0 C' ∧ St C' env' a' N ∧ Run P N base k post env' C'.σ) .normal a' C'.w :=
   fun C1 hx1 C' env' a' hx' hst' hr => ⟨rfl, C', env', rfl, hx1.trans hx', hst', hr⟩
  rcases hcase with ⟨rfl, rfl⟩ | ⟨rfl, l, xss, hl0, hlx, hd, rfl⟩
  ·obtain ⟨hlen, hlow'⟩ := lowList_spec hlow
   refine wp_region (seq_sound (List.range ops.size) l0 C env a (by simp [hlen]) (fun m i l' h1 h2 => ?_) hst h (hq C hx'))
   have hml := (List.getElem?_eq_some_iff.1 h1).1
   simp at hml
   simp [hml] at h1
   subst h1
   have ho : ops[m]? = some (ops[m]) := Array.getElem?_eq_getElem hml
   exact ⟨_, ho, hlow' m _ l' (by rw [Array.getElem?_toList]; exact ho) h2⟩
  ·rcases hd with hd | ⟨f, hd⟩
   ·have F := drawFacts hlow hl0 hd
    obtain ⟨d, s, e, he, hs, hK, htr, hkeep⟩ := trace l xss _ env C.σ hlx h
    obtain ⟨hx1, hi1⟩ := Ext.later (C := C) (w' := C.w.drew) ((Below.refl _ C.w).drew) hst.inv
    refine wp_region_any hm ?_
    refine draw_any F (C0 := { C with w := C.w.drew }) (env := env) (d := d) (s := s) (e := e) he (by rw [← F.len]; exact hK) htr (by rw [← F.len]; exact hkeep) (hq _ (hx'.trans hx1)) ops.size _ { C with w := C.w.drew } a ?_ (fun j hj _ => by omega) ?_
    ·have hno : ∀ j, (Array.replicate ops.size false).getD j false = false := fun j => by
      by_cases hj : j < ops.size <;> simp [hj]
     refine ⟨by simp, fun i o ho hL => ?_, .refl _, hi1, hst.size, hst.defers, ⟨0, Nat.zero_le _, hs.symm, fun j l h => absurd h (Nat.not_lt_zero _), fun j l _ _ hL => ?_⟩, fun j o t _ _ hL => ?_, fun t _ => (hst.rep t).ext hx1⟩
     ·simp only [hno] at hL; cases hL
     ·rw [hno] at hL; cases hL
     ·rw [hno] at hL; cases hL
    ·exact Nat.le_trans (List.length_filter_le _ _) (by simp)
   ·obtain ⟨t0, zs, F⟩ := drawFactsH hlow hl0 hd
    obtain ⟨d, s, e, he, hs, hK, htr, hkeep⟩ := trace l xss _ env C.σ hlx h
    obtain ⟨hx1, hi1⟩ := Ext.later (C := C) (w' := C.w.drew) ((Below.refl _ C.w).drew) hst.inv
    refine wp_region_any hm ?_
    refine draw_anyH F (C0 := { C with w := C.w.drew }) hi1 (env := env) (d := d) (s := s) (e := e) he (by rw [← F.len]; exact hK) htr (by rw [← F.len]; exact hkeep) (hq _ (hx'.trans hx1)) ops.size _ { C with w := C.w.drew } a ?_ (fun j hj _ => by omega) ?_
    ·have hno : ∀ j, (Array.replicate ops.size false).getD j false = false := fun j => by
      by_cases hj : j < ops.size <;> simp [hj]
     refine ⟨by simp, fun i o ho hL => ?_, .refl _, fun _ => rfl, fun hH => ?_, hi1, hst.size, hst.defers, ⟨0, Nat.zero_le _, hs.symm, fun j l h => absurd h (Nat.not_lt_zero _), fun j l _ _ hL => ?_⟩, fun j o t _ _ hL => ?_, fun t _ => (hst.rep t).ext hx1⟩
     ·simp only [hno] at hL; cases hL
     ·have := hH.1; rw [hno] at this; cases this
     ·have := hL.1; rw [hno] at this; cases this
     ·have := hL.1; rw [hno] at this; cases this
    ·exact Nat.le_trans (List.length_filter_le _ _) (by simp)
 obtain ⟨ex, a', w', ⟨rfl, C', env', rfl, hx', hst', hr⟩, harr⟩ := hwp b is cs
 obtain ⟨a'', C'', env'', todo, g1, g2⟩ := hr is hk C0 C' a' h0 hx' rfl hst' b cs
 exact ⟨a'', C'', env'', todo, Steps.trans harr g1, g2⟩
theorem Run_ops (hm : P.follows .mixedOrders = true) {l : List LOp} (h : runOps P false l (fun env σ => Run P N base k post env σ) env σ) : Run P N base (.code (.ops l) :: k) post env σ := Run_opsAny hm (.inl ⟨l, rfl⟩) h
theorem Run_opsX (hm : P.follows .mixedOrders = true) {l : List (LOp × List Nat)} (h : runOpsX P l (fun env σ => Run P N base k post env σ) env σ) : Run P N base (.code (.opsX l) :: k) post env σ := Run_opsAny hm (.inr ⟨l, rfl⟩) h
def Ent (base : List Ob) (env : Env) (σ : List Ob) (env' : Env) (σ' : List Ob) : Prop :=
 ∀ (C0 C : Ctx) (a : Act) (N : Nat), C0.σ = base → Ext C0 C → C.σ = σ → St C env a N → ∃ C', C'.w = C.w ∧ C'.σ = σ' ∧ Ext C0 C' ∧ St C' env' a N
theorem Ent.refl : Ent base env σ env σ := fun C0 C a N h0 hx hσ hst => ⟨C, rfl, hσ, hx, hst⟩
theorem Ent.trans {env' : Env} {σ' : List Ob} {env'' : Env} {σ'' : List Ob} (h : Ent base env σ env' σ') (h' : Ent base env' σ' env'' σ'') : Ent base env σ env'' σ'' := fun C0 C a N h0 hx hσ hst => by
 obtain ⟨C1, w1, s1, x1, t1⟩ := h C0 C a N h0 hx hσ hst
 obtain ⟨C2, w2, s2, x2, t2⟩ := h' C0 C1 a N h0 x1 s1 t1
 exact ⟨C2, w2.trans w1, s2, x2, t2⟩
theorem Run_ent {env' : Env} {σ' : List Ob} (he : Ent base env σ env' σ') (h : Run P N base k post env' σ') : Run P N base k post env σ := by
 intro its hl C0 C a h0 hx hσ hst b cs
 obtain ⟨C', hw, hσ', hx', hst'⟩ := he C0 C a N h0 hx hσ hst
 rw [← hw]
 exact h its hl C0 C' a h0 hx' hσ' hst' b cs
theorem lk_mem : ∀ {e : Env} {t : Nat}, lk e t = .undef ∨ ∃ d, (t, d) ∈ e ∧ lk e t = d
 | [], t => .inl rfl
 | (k, d) :: e, t => by
  by_cases h : k = t
  ·subst h; exact .inr ⟨d, by simp, by simp [lk]⟩
  ·rcases lk_mem (e := e) (t := t) with h' | ⟨d', hm, h'⟩
   ·exact .inl (by simp [lk, h, h'])
   ·exact .inr ⟨d', by simp [hm], by simp [lk, h, h']⟩
theorem Run_loop {ι : Type} (J : ι → Env × List Ob) (m : ι → Nat) (i0 : ι) {x : LC} (h0 : Ent base env σ (J i0).1 (J i0).2)
  (step : ∀ i, (∀ i' env σ, m i' < m i → Ent base env σ (J i').1 (J i').2 → Run P N base (.loop x :: k) post env σ) → Run P N base (.code x :: .loop x :: k) post (J i).1 (J i).2) :
  Run P N base (.code (.loop x) :: k) post env σ := by
 have key : ∀ n i, m i = n → ∀ env σ, Ent base env σ (J i).1 (J i).2 → Run P N base (.code x :: .loop x :: k) post env σ ∧ Run P N base (.loop x :: k) post env σ := by
  intro n
  induction n using Nat.strongRecOn with
  | _ n ih =>
   intro i hi env σ he
   have h1 : Run P N base (.code x :: .loop x :: k) post env σ := Run_ent he (step i fun i' env' σ' hlt he' => (ih (m i') (by omega) i' rfl env' σ' he').2)
   refine ⟨h1, ?_⟩
   intro its hl C0 C a hb hx hσ hst b cs
   obtain ⟨i', is, rfl, hi', hk⟩ := hl.cons
   cases i' <;> first | exact hi'.elim | skip
   rename_i rc
   exact Run.steps (.one step_inLoop) (h1 (.code rc :: .inLoop rc :: is) ⟨hi', hi', hk⟩ C0 C a hb hx hσ hst b cs)
 intro its hl C0 C a hb hx hσ hst b cs
 obtain ⟨i, is, rfl, hi, hk⟩ := hl.cons
 obtain ⟨rc, rfl, hc⟩ := low_code hi
 have : ∃ rx, rc = .loop rx ∧ lowCode P N rx = some x := by
  cases rc <;> simp only [lowCode] at hc <;> (repeat' (split at hc)) <;> first | (cases hc; done) | (obtain ⟨_, _, _, _, _, hq⟩ := lowDrawn_spec hc; cases hq; done) | (simp only [Option.map_eq_some_iff] at hc; obtain ⟨_, h, hc⟩ := hc; cases hc; exact ⟨_, rfl, h⟩) | (simp only [Option.map_eq_some_iff] at hc; obtain ⟨_, _, hc⟩ := hc; cases hc; done)
 obtain ⟨rx, rfl, hx'⟩ := this
 exact Run.steps (.one step_loop) ((key _ i0 rfl env σ h0).1 (.code rx :: .inLoop rx :: is) ⟨hx', hx', hk⟩ C0 C a hb hx hσ hst b cs)
end
end Go.Vi
