import Derived.Test.YtgefljdclekadaaGreatVi15
set_option linter.unusedVariables false
set_option linter.unusedSimpArgs false
set_option linter.unnecessarySimpa false
namespace Go.Vi
open Go Go.RowKit
inductive LC where
 | skip
 | ret
 | exit (id : Nat)
 | ops (l : List LOp)
 | opsX (l : List (LOp × List Nat))
 | seq (a b : LC)
 | cond (c : LO) (a b : LC)
 | block (id : Nat) (c : LC)
 | loop (c : LC)
 | dead
 deriving Inhabited
def qE (ops : Array Oper) (ls : List LOp) (xss : List (List Nat)) : Option LC := if ls.length = xss.length ∧ fR ops ls xss = true then some (.opsX (ls.zip xss)) else none
theorem sQ {ops : Array Oper} {ls : List LOp} {xss : List (List Nat)} {c : LC} (h : qE ops ls xss = some c) : ls.length = xss.length ∧ fR ops ls xss = true ∧ c = .opsX (ls.zip xss) := by
 unfold qE at h
 split at h
 ·rename_i hc; cases h; exact ⟨hc.1, hc.2, rfl⟩
 ·cases h
def orX {α : Type} (a b : Option α) : Option α := match a with
 | some x => some x
 | none => b
def ky (ops : Array Oper) (ls : List LOp) : Option LC :=
 orX (qE ops (ls.map vD) (ls.map fun _ => [])) (orX (qE ops (ls.map vD) (xJ (dV ops.toList []) (ls.map vD))) (orX (qE ops ls (ls.map fun _ => [])) (qE ops ls (xJ (dV ops.toList []) ls))))
theorem co {ops : Array Oper} {ls : List LOp} {c : LC} (h : ky ops ls = some c) : ∃ (l : List LOp) (xss : List (List Nat)), (l = ls ∨ l = ls.map vD) ∧ l.length = xss.length ∧ fR ops l xss = true ∧ c = .opsX (l.zip xss) := by
 have fin : ∀ {l : List LOp} {xss : List (List Nat)}, (l = ls ∨ l = ls.map vD) → qE ops l xss = some c → ∃ (l : List LOp) (xss : List (List Nat)), (l = ls ∨ l = ls.map vD) ∧ l.length = xss.length ∧ fR ops l xss = true ∧ c = .opsX (l.zip xss) := fun {l xss} h1 h2 => by
  obtain ⟨a, b, c⟩ := sQ h2
  exact ⟨l, xss, h1, a, b, c⟩
 unfold ky at h
 have or : ∀ {a b : Option LC}, orX a b = some c → a = some c ∨ b = some c := fun {a b} h => by
  cases a with
  | none => exact .inr h
  | some x => exact .inl h
 rcases or h with h | h
 ·exact fin (.inr rfl) h
 rcases or h with h | h
 ·exact fin (.inr rfl) h
 rcases or h with h | h
 ·exact fin (.inl rfl) h
 ·exact fin (.inl rfl) h
def bJ (P : Program) (N : Nat) : Code → Option LC
 | .skip => some .skip
 | .ret => some .ret
 | .exit id => some (.exit id)
 | .region _ ops dr => match fT P N ops ops.toList with
  | some ls => match dr with
   | true => ky ops ls
   | false => some (.ops ls)
  | none => some .dead
 | .seq a b => match bJ P N a, bJ P N b with
  | some x, some y => some (.seq x y)
  | _, _ => none
 | .cond c a b => match bc c, bJ P N a, bJ P N b with
  | some l, some x, some y => some (.cond l x y)
  | _, _, _ => none
 | .block id c => (bJ P N c).map (.block id)
 | .loop c => (bJ P N c).map .loop
 | _ => none
inductive LI where
 | code (c : LC)
 | blk (id : Nat)
 | loop (c : LC)
def ya (P : Program) (N : Nat) : LI → Item → Prop
 | .code c, .code rc => bJ P N rc = some c
 | .blk id, .inBlock id' => id = id'
 | .loop c, .inLoop rc => bJ P N rc = some c
 | _, _ => False
def j4 (P : Program) (N : Nat) : List LI → List Item → Prop
 | [], [] => True
 | l :: ls, i :: is => ya P N l i ∧ j4 P N ls is
 | _, _ => False
def jw (id : Nat) : List LI → Option (List LI)
 | [] => none
 | .blk id' :: k => if id' == id then some k else jw id k
 | _ :: k => jw id k
def dQ (P : Program) (N : Nat) (base : List Ob) (k : List LI) (post : bK → List Ob → Prop) (env : bK) (σ : List Ob) : Prop :=
 ∀ (its : List Item), j4 P N k its → ∀ (C0 C : bT) (a : Act), C0.σ = base → en C0 C → C.σ = σ → St C env a N → ∀ (b : Frame) (cs : List Frame),
  ∃ a' C' env' todo, Steps P (lone (b.at a its) cs C.w) (lone { b.at a' todo with mode := .returning } cs C'.w) ∧ en C0 C' ∧ St C' env' a' N ∧ post env' C'.σ
section
variable {P : Program} {N : Nat} {base : List Ob} {k : List LI} {post : bK → List Ob → Prop} {env : bK} {σ : List Ob}
theorem j4.cons {l : LI} {k : List LI} {its : List Item} (h : j4 P N (l :: k) its) : ∃ i is, its = i :: is ∧ ya P N l i ∧ j4 P N k is := by
 cases its with
 | nil => exact h.elim
 | cons i is => exact ⟨i, is, rfl, h.1, h.2⟩
theorem ew {c : LC} {i : Item} (h : ya P N (.code c) i) : ∃ rc, i = .code rc ∧ bJ P N rc = some c := by
 cases i <;> first | exact h.elim | exact ⟨_, rfl, h⟩
theorem af (h : post env σ) : dQ P N base [] post env σ := by
 intro its hl C0 C a h0 hx hσ hst b cs
 cases its with
 | cons i is => exact hl.elim
 | nil => exact ⟨a, C, env, [], .one step_end, hx, hst, by rw [hσ]; exact h⟩
theorem ai (h : post env σ) : dQ P N base (.code .ret :: k) post env σ := by
 intro its hl C0 C a h0 hx hσ hst b cs
 obtain ⟨i, is, rfl, hi, hk⟩ := hl.cons
 obtain ⟨rc, rfl, hc⟩ := ew hi
 have : rc = .ret := by
  cases rc <;> simp only [bJ] at hc <;> first | rfl | (repeat' (split at hc)) <;> first | (cases hc; done) | (obtain ⟨_, _, _, _, _, hq⟩ := co hc; cases hq; done) | (simp only [Option.map_eq_some_iff] at hc; obtain ⟨_, _, hc⟩ := hc; cases hc; done)
 subst this
 exact ⟨a, C, env, _, .one step_ret, hx, hst, by rw [hσ]; exact h⟩
theorem dQ.steps {its its' : List Item} {C : bT} {a : Act} {b : Frame} {cs : List Frame} (h1 : Steps P (lone (b.at a its) cs C.w) (lone (b.at a its') cs C.w)) {C0 : bT}
  (h : ∃ a' C' env' todo, Steps P (lone (b.at a its') cs C.w) (lone { b.at a' todo with mode := .returning } cs C'.w) ∧ en C0 C' ∧ St C' env' a' N ∧ post env' C'.σ) :
  ∃ a' C' env' todo, Steps P (lone (b.at a its) cs C.w) (lone { b.at a' todo with mode := .returning } cs C'.w) ∧ en C0 C' ∧ St C' env' a' N ∧ post env' C'.σ := by
 obtain ⟨a', C', env', todo, h2, h3⟩ := h
 exact ⟨a', C', env', todo, h1.trans h2, h3⟩
theorem al (h : dQ P N base k post env σ) : dQ P N base (.code .skip :: k) post env σ := by
 intro its hl C0 C a h0 hx hσ hst b cs
 obtain ⟨i, is, rfl, hi, hk⟩ := hl.cons
 obtain ⟨rc, rfl, hc⟩ := ew hi
 have : rc = .skip := by
  cases rc <;> simp only [bJ] at hc <;> first | rfl | (repeat' (split at hc)) <;> first | (cases hc; done) | (obtain ⟨_, _, _, _, _, hq⟩ := co hc; cases hq; done) | (simp only [Option.map_eq_some_iff] at hc; obtain ⟨_, _, hc⟩ := hc; cases hc; done)
 subst this
 exact dQ.steps (.one step_skip) (h is hk C0 C a h0 hx hσ hst b cs)
theorem ah {x y : LC} (h : dQ P N base (.code x :: .code y :: k) post env σ) : dQ P N base (.code (.seq x y) :: k) post env σ := by
 intro its hl C0 C a h0 hx hσ hst b cs
 obtain ⟨i, is, rfl, hi, hk⟩ := hl.cons
 obtain ⟨rc, rfl, hc⟩ := ew hi
 have : ∃ rx ry, rc = .seq rx ry ∧ bJ P N rx = some x ∧ bJ P N ry = some y := by
  cases rc <;> simp only [bJ] at hc <;> (repeat' (split at hc)) <;> first | (cases hc; done) | (obtain ⟨_, _, _, _, _, hq⟩ := co hc; cases hq; done) | (simp only [Option.map_eq_some_iff] at hc; obtain ⟨_, _, hc⟩ := hc; cases hc; done) | (cases hc; exact ⟨_, _, rfl, by assumption, by assumption⟩)
 obtain ⟨rx, ry, rfl, hx', hy'⟩ := this
 exact dQ.steps (.one step_seq) (h (.code rx :: .code ry :: is) ⟨hx', hy', hk⟩ C0 C a h0 hx hσ hst b cs)
theorem tf {c : LO} {x y : LC} {v : Bool} (hc : c.ev env = .bool v) (ht : v = true → dQ P N base (.code x :: k) post env σ) (hf : v = false → dQ P N base (.code y :: k) post env σ) : dQ P N base (.code (.cond c x y) :: k) post env σ := by
 intro its hl C0 C a h0 hx hσ hst b cs
 obtain ⟨i, is, rfl, hi, hk⟩ := hl.cons
 obtain ⟨rc, rfl, hlc⟩ := ew hi
 have : ∃ r rx ry, rc = .cond r rx ry ∧ bc r = some c ∧ bJ P N rx = some x ∧ bJ P N ry = some y := by
  cases rc <;> simp only [bJ] at hlc <;> (repeat' (split at hlc)) <;> first | (cases hlc; done) | (obtain ⟨_, _, _, _, _, hq⟩ := co hlc; cases hq; done) | (simp only [Option.map_eq_some_iff] at hlc; obtain ⟨_, _, hlc⟩ := hlc; cases hlc; done) | (cases hlc; exact ⟨_, _, _, rfl, by assumption, by assumption, by assumption⟩)
 obtain ⟨r, rx, ry, rfl, hr, hx', hy'⟩ := this
 have hv : a.eval r = .bool v := by
  cases r with
  | tmp t =>
   simp only [bc, Option.some.injEq] at hr
   subst hr
   have := hst.rep t
   rw [show lk env t = .bool v from hc] at this
   exact dW this
  | const u =>
   simp only [bc, Option.map_eq_some_iff] at hr
   obtain ⟨d, hd, rfl⟩ := hr
   have := mj hd C.good C.w
   rw [show d = .bool v from hc] at this
   exact dW (.pure this)
  | func f => simp [bc] at hr; obtain ⟨_, hr⟩ := hr; subst hr; simp [LO.ev] at hc
  | global g => simp [bc] at hr
 refine dQ.steps (.one (step_cond hv)) ?_
 cases v with
 | true => exact ht rfl (.code rx :: is) ⟨hx', hk⟩ C0 C a h0 hx hσ hst b cs
 | false => exact hf rfl (.code ry :: is) ⟨hy', hk⟩ C0 C a h0 hx hσ hst b cs
theorem ao {id : Nat} {x : LC} (h : dQ P N base (.code x :: .blk id :: k) post env σ) : dQ P N base (.code (.block id x) :: k) post env σ := by
 intro its hl C0 C a h0 hx hσ hst b cs
 obtain ⟨i, is, rfl, hi, hk⟩ := hl.cons
 obtain ⟨rc, rfl, hc⟩ := ew hi
 have : ∃ rx, rc = .block id rx ∧ bJ P N rx = some x := by
  cases rc <;> simp only [bJ] at hc <;> (repeat' (split at hc)) <;> first | (cases hc; done) | (obtain ⟨_, _, _, _, _, hq⟩ := co hc; cases hq; done) | (simp only [Option.map_eq_some_iff] at hc; obtain ⟨_, h, hc⟩ := hc; cases hc; exact ⟨_, rfl, h⟩) | (simp only [Option.map_eq_some_iff] at hc; obtain ⟨_, _, hc⟩ := hc; cases hc; done)
 obtain ⟨rx, rfl, hx'⟩ := this
 exact dQ.steps (.one step_block) (h (.code rx :: .inBlock id :: is) ⟨hx', rfl, hk⟩ C0 C a h0 hx hσ hst b cs)
theorem av {id : Nat} (h : dQ P N base k post env σ) : dQ P N base (.blk id :: k) post env σ := by
 intro its hl C0 C a h0 hx hσ hst b cs
 obtain ⟨i, is, rfl, hi, hk⟩ := hl.cons
 cases i <;> first | exact hi.elim | skip
 exact dQ.steps (.one step_inBlock) (h is hk C0 C a h0 hx hσ hst b cs)
theorem iF {id : Nat} : ∀ {k : List LI} {k' : List LI} {its : List Item}, j4 P N k its → jw id k = some k' → ∃ its', exitTo id its = some its' ∧ j4 P N k' its'
 | [], k', its, hl, h => by simp [jw] at h
 | l :: k, k', its, hl, h => by
  obtain ⟨i, is, rfl, hi, hk⟩ := hl.cons
  cases l with
  | blk id' =>
   cases i <;> first | exact hi.elim | skip
   rename_i id''
   have : id' = id'' := hi
   subst this
   simp only [jw] at h
   simp only [exitTo]
   split at h
   ·rename_i he; cases h; rw [if_pos he]; exact ⟨is, rfl, hk⟩
   ·rename_i he; rw [if_neg he]; exact iF hk h
  | code c => cases i <;> first | exact hi.elim | (simp only [jw] at h; simp only [exitTo]; exact iF hk h)
  | loop c => cases i <;> first | exact hi.elim | (simp only [jw] at h; simp only [exitTo]; exact iF hk h)
theorem aq {id : Nat} {k' : List LI} (he : jw id k = some k') (h : dQ P N base k' post env σ) : dQ P N base (.code (.exit id) :: k) post env σ := by
 intro its hl C0 C a h0 hx hσ hst b cs
 obtain ⟨i, is, rfl, hi, hk⟩ := hl.cons
 obtain ⟨rc, rfl, hc⟩ := ew hi
 have : rc = .exit id := by
  cases rc <;> simp only [bJ] at hc <;> (repeat' (split at hc)) <;> first | (cases hc; done) | (obtain ⟨_, _, _, _, _, hq⟩ := co hc; cases hq; done) | (simp only [Option.map_eq_some_iff] at hc; obtain ⟨_, _, hc⟩ := hc; cases hc; done) | (cases hc; rfl)
 subst this
 obtain ⟨its', h1, h2⟩ := iF hk he
 exact dQ.steps (.one (step_exit h1)) (h its' h2 C0 C a h0 hx hσ hst b cs)
theorem j5 (hm : P.follows .mixedOrders = true) {x : LC} (hx : (∃ l, x = .ops l) ∨ ∃ l, x = .opsX l) (h : match x with
  | .ops l => aE P false l (fun env σ => dQ P N base k post env σ) env σ
  | .opsX l => eX P l (fun env σ => dQ P N base k post env σ) env σ
  | _ => False) : dQ P N base (.code x :: k) post env σ := by
 intro its hl C0 C a h0 hx' hσ hst b cs
 obtain ⟨i, is, rfl, hi, hk⟩ := hl.cons
 obtain ⟨rc, rfl, hc⟩ := ew hi
 have : ∃ id ops dr l0, rc = .region id ops dr ∧ fT P N ops ops.toList = some l0 ∧ ((dr = false ∧ x = .ops l0) ∨ (dr = true ∧ ∃ (l : List LOp) (xss : List (List Nat)), (l = l0 ∨ l = l0.map vD) ∧ l.length = xss.length ∧ fR ops l xss = true ∧ x = .opsX (l.zip xss))) := by
  cases rc <;> simp only [bJ] at hc <;> (repeat' (split at hc)) <;> first | (cases hc; done) | (simp only [Option.map_eq_some_iff] at hc; obtain ⟨_, _, hc⟩ := hc; cases hc; rcases hx with ⟨_, h⟩ | ⟨_, h⟩ <;> cases h; done) | (cases hc; rcases hx with ⟨_, h⟩ | ⟨_, h⟩ <;> cases h; done) | skip
  ·exact ⟨_, _, _, _, rfl, by assumption, .inr ⟨rfl, co hc⟩⟩
  ·cases hc; exact ⟨_, _, _, _, rfl, by assumption, .inl ⟨rfl, rfl⟩⟩
 obtain ⟨id, ops, dr, l0, rfl, hlow, hcase⟩ := this
 have hwp : (Code.region id ops dr).wp P (fun ex a' w' => ex = .normal ∧ ∃ C' env', C'.w = w' ∧ en C0 C' ∧ St C' env' a' N ∧ dQ P N base k post env' C'.σ) a C.w := by
  subst hσ
  have hq : ∀ (C1 : bT), en C0 C1 → ∀ C' env' a', en C1 C' → St C' env' a' N → dQ P N base k post env' C'.σ → (fun (ex : Exit) a' w' => ex = Exit.normal ∧ ∃ C' env', C'.w = w' ∧ en C0 C' ∧ St C' env' a' N ∧ dQ P N base k post env' C'.σ) .normal a' C'.w :=
   fun C1 hx1 C' env' a' hx' hst' hr => ⟨rfl, C', env', rfl, hx1.trans hx', hst', hr⟩
  rcases hcase with ⟨rfl, rfl⟩ | ⟨rfl, l, xss, hl0, hlx, hd, rfl⟩
  ·obtain ⟨hlen, hlow'⟩ := fU hlow
   refine wp_region (jm (List.range ops.size) l0 C env a (by simp [hlen]) (fun m i l' h1 h2 => ?_) hst h (hq C hx'))
   have hml := (List.getElem?_eq_some_iff.1 h1).1
   simp at hml
   simp [hml] at h1
   subst h1
   have ho : ops[m]? = some (ops[m]) := Array.getElem?_eq_getElem hml
   exact ⟨_, ho, hlow' m _ l' (by rw [Array.getElem?_toList]; exact ho) h2⟩
  ·have F := rN hlow hl0 hd
   obtain ⟨d, s, e, he, hs, hK, htr, hkeep⟩ := xV l xss _ env C.σ hlx h
   obtain ⟨hx1, hi1⟩ := en.later (C := C) (w' := C.w.drew) ((Below.refl _ C.w).drew) hst.inv
   refine wp_region_any hm ?_
   refine tm F (C0 := { C with w := C.w.drew }) (env := env) (d := d) (s := s) (e := e) he (by rw [← F.len]; exact hK) htr (by rw [← F.len]; exact hkeep) (hq _ (hx'.trans hx1)) ops.size _ { C with w := C.w.drew } a ?_ (fun j hj _ => by omega) ?_
   ·have hno : ∀ j, (Array.replicate ops.size false).getD j false = false := fun j => by
     by_cases hj : j < ops.size <;> simp [hj]
    refine ⟨by simp, fun i o ho hL => ?_, .refl _, hi1, hst.size, hst.defers, ⟨0, Nat.zero_le _, hs.symm, fun j l h => absurd h (Nat.not_lt_zero _), fun j l _ _ hL => ?_⟩, fun j o t _ _ hL => ?_, fun t _ => (hst.rep t).ext hx1⟩
    ·simp only [hno] at hL; cases hL
    ·rw [hno] at hL; cases hL
    ·rw [hno] at hL; cases hL
   ·exact Nat.le_trans (List.length_filter_le _ _) (by simp)
 obtain ⟨ex, a', w', ⟨rfl, C', env', rfl, hx', hst', hr⟩, harr⟩ := hwp b is cs
 obtain ⟨a'', C'', env'', todo, g1, g2⟩ := hr is hk C0 C' a' h0 hx' rfl hst' b cs
 exact ⟨a'', C'', env'', todo, Steps.trans harr g1, g2⟩
theorem ak (hm : P.follows .mixedOrders = true) {l : List LOp} (h : aE P false l (fun env σ => dQ P N base k post env σ) env σ) : dQ P N base (.code (.ops l) :: k) post env σ := j5 hm (.inl ⟨l, rfl⟩) h
theorem ap (hm : P.follows .mixedOrders = true) {l : List (LOp × List Nat)} (h : eX P l (fun env σ => dQ P N base k post env σ) env σ) : dQ P N base (.code (.opsX l) :: k) post env σ := j5 hm (.inr ⟨l, rfl⟩) h
def iz (base : List Ob) (env : bK) (σ : List Ob) (env' : bK) (σ' : List Ob) : Prop :=
 ∀ (C0 C : bT) (a : Act) (N : Nat), C0.σ = base → en C0 C → C.σ = σ → St C env a N → ∃ C', C'.w = C.w ∧ C'.σ = σ' ∧ en C0 C' ∧ St C' env' a N
theorem iz.refl : iz base env σ env σ := fun C0 C a N h0 hx hσ hst => ⟨C, rfl, hσ, hx, hst⟩
theorem iz.trans {env' : bK} {σ' : List Ob} {env'' : bK} {σ'' : List Ob} (h : iz base env σ env' σ') (h' : iz base env' σ' env'' σ'') : iz base env σ env'' σ'' := fun C0 C a N h0 hx hσ hst => by
 obtain ⟨C1, w1, s1, x1, t1⟩ := h C0 C a N h0 hx hσ hst
 obtain ⟨C2, w2, s2, x2, t2⟩ := h' C0 C1 a N h0 x1 s1 t1
 exact ⟨C2, w2.trans w1, s2, x2, t2⟩
theorem ck {env' : bK} {σ' : List Ob} (he : iz base env σ env' σ') (h : dQ P N base k post env' σ') : dQ P N base k post env σ := by
 intro its hl C0 C a h0 hx hσ hst b cs
 obtain ⟨C', hw, hσ', hx', hst'⟩ := he C0 C a N h0 hx hσ hst
 rw [← hw]
 exact h its hl C0 C' a h0 hx' hσ' hst' b cs
theorem tW : ∀ {e : bK} {t : Nat}, lk e t = .undef ∨ ∃ d, (t, d) ∈ e ∧ lk e t = d
 | [], t => .inl rfl
 | (k, d) :: e, t => by
  by_cases h : k = t
  ·subst h; exact .inr ⟨d, by simp, by simp [lk]⟩
  ·rcases tW (e := e) (t := t) with h' | ⟨d', hm, h'⟩
   ·exact .inl (by simp [lk, h, h'])
   ·exact .inr ⟨d', by simp [hm], by simp [lk, h, h']⟩
theorem aM {ι : Type} (J : ι → bK × List Ob) (m : ι → Nat) (i0 : ι) {x : LC} (h0 : iz base env σ (J i0).1 (J i0).2)
  (step : ∀ i, (∀ i' env σ, m i' < m i → iz base env σ (J i').1 (J i').2 → dQ P N base (.loop x :: k) post env σ) → dQ P N base (.code x :: .loop x :: k) post (J i).1 (J i).2) :
  dQ P N base (.code (.loop x) :: k) post env σ := by
 have key : ∀ n i, m i = n → ∀ env σ, iz base env σ (J i).1 (J i).2 → dQ P N base (.code x :: .loop x :: k) post env σ ∧ dQ P N base (.loop x :: k) post env σ := by
  intro n
  induction n using Nat.strongRecOn with
  | _ n ih =>
   intro i hi env σ he
   have h1 : dQ P N base (.code x :: .loop x :: k) post env σ := ck he (step i fun i' env' σ' hlt he' => (ih (m i') (by omega) i' rfl env' σ' he').2)
   refine ⟨h1, ?_⟩
   intro its hl C0 C a hb hx hσ hst b cs
   obtain ⟨i', is, rfl, hi', hk⟩ := hl.cons
   cases i' <;> first | exact hi'.elim | skip
   rename_i rc
   exact dQ.steps (.one step_inLoop) (h1 (.code rc :: .inLoop rc :: is) ⟨hi', hi', hk⟩ C0 C a hb hx hσ hst b cs)
 intro its hl C0 C a hb hx hσ hst b cs
 obtain ⟨i, is, rfl, hi, hk⟩ := hl.cons
 obtain ⟨rc, rfl, hc⟩ := ew hi
 have : ∃ rx, rc = .loop rx ∧ bJ P N rx = some x := by
  cases rc <;> simp only [bJ] at hc <;> (repeat' (split at hc)) <;> first | (cases hc; done) | (obtain ⟨_, _, _, _, _, hq⟩ := co hc; cases hq; done) | (simp only [Option.map_eq_some_iff] at hc; obtain ⟨_, h, hc⟩ := hc; cases hc; exact ⟨_, rfl, h⟩) | (simp only [Option.map_eq_some_iff] at hc; obtain ⟨_, _, hc⟩ := hc; cases hc; done)
 obtain ⟨rx, rfl, hx'⟩ := this
 exact dQ.steps (.one step_loop) ((key _ i0 rfl env σ h0).1 (.code rx :: .inLoop rx :: is) ⟨hx', hx', hk⟩ C0 C a hb hx hσ hst b cs)
end
end Go.Vi
