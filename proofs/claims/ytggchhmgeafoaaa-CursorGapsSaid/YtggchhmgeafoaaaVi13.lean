import Derived.Test.YtggchhmgeafoaaaVi12c
set_option linter.unusedVariables false
set_option linter.unusedSimpArgs false
set_option linter.unnecessarySimpa false
namespace Go.Vi
open Go Go.RowKit
def fnN (f : FuncId) : FuncId := if f < bB then f else f - bB
def fnA {α : Type} (f : FuncId) (ds caps : List α) : List α := if f < bB then ds ++ caps else caps ++ ds
def CallK (P : Program) (dr : Bool) (f : D) (ds : List D) (σ : List Ob) (K : D → List Ob → Prop) : Prop :=
 match f with
 | .fn f caps => match dr with
  | true => ∃ r ds', mapO (view σ) (fnA f ds caps) = some ds' ∧ PureD P (fnN f) ds' r ∧ ((fnA f ds caps).all D.pt || r.sc) = true ∧ K r σ
  | false => ∃ Q, CallD P (fnN f) (fnA f ds caps) σ Q ∧ ∀ d σ', Q d σ' → K d σ'
 | _ => False
def CallKX (P : Program) (dr : Bool) (f : D) (ds : List D) (σ : List Ob) (K : D → List Ob → Prop) : Prop :=
 match f with
 | .fn f caps => match dr with
  | true => ∃ r τ, CallD P (fnN f) (fnA f ds caps) σ (fun d σ' => d = r ∧ σ' = τ) ∧ K r τ
  | false => ∃ Q, CallD P (fnN f) (fnA f ds caps) σ Q ∧ ∀ d σ', Q d σ' → K d σ'
 | _ => False
def LK.step (P : Program) (dr : Bool) (k : LK) (ρ : LO → D) (σ : List Ob) (K : D → List Ob → Prop) : Prop :=
 match k with
 | .call f args => CallK P dr (ρ f) (args.map ρ) σ K
 | .callX f args => CallKX P dr (ρ f) (args.map ρ) σ K
 | k => k.run dr ρ σ K
def gv (d : D) (g : Option Bool) : Prop := match g with | some b => d = .bool b | none => d = .tup []
def gvv (g : Option Bool) : Value := match g with | some b => .bool b | none => undef
theorem gv_val {C : Ctx} {d : D} {v : Value} {g : Option Bool} (h : Rep C d v) (hg : gv d g) : v = gvv g := by
 cases g with
 | some b => simp only [gv] at hg; subst hg; exact rep_bool h
 | none =>
  simp only [gv] at hg
  subst hg
  obtain ⟨vs, rfl, hl, _⟩ := rep_tup h
  have : vs = [] := List.eq_nil_of_length_eq_zero (by simpa using hl.symm)
  subst this; rfl
theorem rep_none {C : Ctx} : Rep C (.tup []) undef := .tup [] [] rfl (by simp)
def runOps (P : Program) (dr : Bool) : List LOp → (Env → List Ob → Prop) → Env → List Ob → Prop
 | [], K, env, σ => K env σ
 | o :: os, K, env, σ => match o.guard with
  | none => o.k.step P dr (LO.ev env) σ fun d σ' => runOps P dr os K (put env o.dst d) σ'
  | some (t, want) => ∃ g, gv (lk env t) g ∧ (g = some want → o.k.step P dr (LO.ev env) σ fun d σ' => runOps P dr os K (put env o.dst d) σ') ∧ (g ≠ some want → runOps P dr os K (put env o.dst (.tup [])) σ)
def lowGuard (N : Nat) (ops : Array Oper) (g : Option (Nat × Bool)) : Option (Option (Nat × Bool)) :=
 match g with
 | none => some none
 | some (j, want) => match (ops[j]?).bind (·.dst) with
  | some t => if t < N then some (some (t, want)) else none
  | none => none
def dstOk (N : Nat) (d : Option Tmp) : Bool :=
 match d with
 | none => true
 | some t => decide (t < N)
def lowOne (P : Program) (N : Nat) (ops : Array Oper) (o : Oper) : Option LOp :=
 match lowOp P o, lowGuard N ops o.guard with
 | some k, some g => if dstOk N o.dst = true then some ⟨o.dst, g, k⟩ else none
 | _, _ => none
def lowList (P : Program) (N : Nat) (ops : Array Oper) : List Oper → Option (List LOp)
 | [] => some []
 | o :: os => match lowOne P N ops o, lowList P N ops os with
  | some l, some ls => some (l :: ls)
  | _, _ => none
section
variable {P : Program} {o : Oper} {k : LK} {C : Ctx} {a : Act} {ρ : LO → D} {K : D → List Ob → Prop} {N : Nat} {ops : Array Oper}
theorem lowOne_spec {l : LOp} (h : lowOne P N ops o = some l) : lowOp P o = some l.k ∧ lowGuard N ops o.guard = some l.guard ∧ l.dst = o.dst ∧ ∀ k, o.dst = some k → k < N := by
 unfold lowOne at h
 split at h
 ·rename_i k g h1 h2
  split at h
  ·rename_i h3
   cases h
   refine ⟨h1, h2, rfl, fun k hk => ?_⟩
   rw [hk] at h3
   simpa [dstOk] using h3
  ·cases h
 ·cases h
theorem lowList_spec : ∀ {os : List Oper} {ls : List LOp}, lowList P N ops os = some ls → ls.length = os.length ∧ ∀ (i : Nat) o l, os[i]? = some o → ls[i]? = some l → lowOne P N ops o = some l
 | [], ls, h => by simp [lowList] at h; subst h; simp
 | o :: os, ls, h => by
  simp only [lowList] at h
  split at h
  ·rename_i l ls' h1 h2
   cases h
   obtain ⟨hl, hs⟩ := lowList_spec h2
   refine ⟨by simp [hl], fun i x y hx hy => ?_⟩
   cases i with
   | zero => simp at hx hy; subst hx; subst hy; exact h1
   | succ i => simp at hx hy; exact hs i x y hx hy
  ·cases h
theorem wanted_of {l : Option (Nat × Bool)} (h : lowGuard N ops o.guard = some l) (hs : a.tmps.size = N) :
  (l = none → Region.wanted o (yielded ops a.tmps) = true) ∧ ∀ t want, l = some (t, want) → ∀ g, a.tmps.getD t undef = gvv g → Region.wanted o (yielded ops a.tmps) = (g == some want) := by
 unfold lowGuard at h
 split at h
 ·rename_i hg
  cases h
  exact ⟨fun _ => (by simp [Region.wanted, hg]), fun t want h => (by cases h)⟩
 ·rename_i j want hg
  split at h
  ·rename_i t ht
   split at h
   ·rename_i hlt
    cases h
    refine ⟨fun h => (by cases h), fun t' want' h g hb => ?_⟩
    cases h
    have : yielded ops a.tmps j = g := by
     unfold yielded
     have h1 : a.tmps[t]? = some (gvv g) := by
      have hlt' : t < a.tmps.size := by rw [hs]; exact hlt
      simp [hlt'] at hb ⊢; exact hb
     cases g <;> simp [ht, h1, gvv, undef]
    simp only [Region.wanted, hg, this]
   ·cases h
  ·cases h
theorem upon_done {Q : Exit → Act → World → Prop} {next : Act → World → Prop} (h : Done P o a C K) (hn : ∀ C' d v, Ext C C' → Inv C' → Rep C' d v → K d C'.σ → next (a.put o.dst v) C'.w) : o.wp P a C.w next Q := by
 obtain ⟨nx, v, C', d, hrun, hx, hi, hr, hk, hv⟩ := h
 unfold Oper.wp
 rw [hrun]
 rcases hv with rfl | ⟨rfl, rfl⟩
 ·exact hn C' d v hx hi hr hk
 ·exact hn C' d undef hx hi hr hk
theorem fnN_lt {f : FuncId} (h : f < bB) : fnN f = f := if_pos h
theorem fnN_ge {f : FuncId} (h : ¬ f < bB) : fnN f = f - bB := if_neg h
theorem fnA_lt {α : Type} {f : FuncId} {ds caps : List α} (h : f < bB) : fnA f ds caps = ds ++ caps := if_pos h
theorem fnA_ge {α : Type} {f : FuncId} {ds caps : List α} (h : ¬ f < bB) : fnA f ds caps = caps ++ ds := if_neg h
theorem fnA_mem {α : Type} {f : FuncId} {ds caps : List α} {d : α} (h : d ∈ fnA f ds caps) : d ∈ ds ∨ d ∈ caps := by
 unfold fnA at h
 split at h
 ·exact List.mem_append.1 h
 ·exact (List.mem_append.1 h).symm
theorem call_run {w : World} {c : Call} {fo : Operand} (ho : o.op = .call c) (hc : c.callee = .value fo) {g : FuncId} {xs ys W : List Value} (hfv : a.eval fo = .func (.func g) xs.toArray ys.toArray) (he : Enters P g)
  (hW : xs ++ c.args.toList.map a.eval ++ ys = W) : (execOp a.eval o).run P w = .ok (.enter g W.toArray) w := by
 obtain ⟨fn, hfn1, hfn2, hfn3⟩ := he
 have e1 : xs.toArray ++ Array.map a.eval c.args ++ ys.toArray = W.toArray := by
  subst hW
  apply Array.ext'; simp
 simp only [execOp, ho, resolve, hc, hfv, Deferred.ofValue, invoke, Sem.run_bind, Sem.run_pure, Result.andThen_ok, e1, callFunc, run_program, hfn1, hfn2, hfn3, Bool.false_eq_true, if_false]
theorem row_app {ds es : List D} {xs ys : List Value} (h1 : ds.length = xs.length) (h2 : es.length = ys.length) (h3 : ∀ (i : Nat) d v, ds[i]? = some d → xs[i]? = some v → Rep C d v) (h4 : ∀ (i : Nat) d v, es[i]? = some d → ys[i]? = some v → Rep C d v) : RowRep C (ds ++ es) (xs ++ ys) := by
 refine ⟨by simp [h1, h2], fun i d v hd hv => ?_⟩
 by_cases h : i < ds.length
 ·rw [List.getElem?_append_left h] at hd
  rw [List.getElem?_append_left (by omega)] at hv
  exact h3 i d v hd hv
 ·rw [List.getElem?_append_right (by omega)] at hd
  rw [List.getElem?_append_right (by omega)] at hv
  rw [h1] at hd
  exact h4 _ d v hd hv
theorem upon_call {Q : Exit → Act → World → Prop} {next : Act → World → Prop} {c : Call} {fo : Operand} {lf : LO} {ls : List LO} (ho : o.op = .call c) (hc : c.callee = .value fo) (hf : loOf fo = some lf) (hl : losOf c.args.toList = some ls)
  (hi : Inv C) (hp : Plain ρ) (hr : Reads C ρ a o) {f : FuncId} {caps : List D} (hfn : ρ lf = .fn f caps) {R : D → List Ob → Prop} (h : CallD P (fnN f) (fnA f (ls.map ρ) caps) C.σ R)
  (hn : ∀ C' d v, Ext C C' → Inv C' → Rep C' d v → R d C'.σ → next (a.put o.dst v) C'.w) : o.wp P a C.w next Q := by
 have mem : ∀ x, (x = fo ∨ x ∈ c.args.toList) → x ∈ o.op.operands := fun x hx => by
  rw [ho]
  simp only [Op.operands, Call.operands, hc, Array.mem_append]
  rcases hx with rfl | hx
  ·left; simp
  ·right; exact Array.mem_toList_iff.1 hx
 have rf := hr.at hp hf (mem _ (.inl rfl))
 rw [hfn] at rf
 obtain ⟨vs, hfv, hvl, hvr⟩ := rep_fn rf
 have ra := reads_all (C := C) hr hp hl (fun x hx => mem x (.inr hx))
 have hll : (ls.map ρ).length = (c.args.toList.map a.eval).length := by simpa using (losOf_spec hl).1
 obtain ⟨W, hrow, hrun⟩ : ∃ W : List Value, RowRep C (fnA f (ls.map ρ) caps) W ∧ (execOp a.eval o).run P C.w = .ok (.enter (fnN f) W.toArray) C.w := by
  have he := h.enters
  by_cases hb : f < bB
  ·rw [fnV_lt hb] at hfv
   rw [fnN_lt hb] at he ⊢
   rw [fnA_lt hb]
   exact ⟨_, row_app hll hvl ra hvr, call_run (xs := []) ho hc hfv he rfl⟩
  ·rw [fnV_ge hb] at hfv
   rw [fnN_ge hb] at he ⊢
   rw [fnA_ge hb]
   exact ⟨_, row_app hvl hll hvr ra, call_run (ys := []) ho hc hfv he (List.append_nil _)⟩
 unfold Oper.wp
 rw [hrun]
 refine Calls.mono (h.calls C _ rfl hi hrow) fun e w' he => ?_
 obtain ⟨v, C', d, rfl, rfl, hx, hi', hrep, hR⟩ := he
 exact hn C' d v hx hi' hrep hR
theorem lowOp_call {f : LO} {args : List LO} (h : lowOp P o = some (.call f args)) : ∃ c fo, o.op = .call c ∧ c.callee = .value fo ∧ loOf fo = some f ∧ losOf c.args.toList = some args := by
 unfold lowOp at h
 split at h <;> first
  | (simp only [Option.map_eq_some_iff] at h; obtain ⟨_, _, h⟩ := h; cases h; done)
  | skip
 all_goals try (repeat' (split at h)) <;> first | (cases h; done) | (simp only [Option.map_eq_some_iff] at h; obtain ⟨_, _, h⟩ := h; cases h; done) | skip
 rename_i c ho
 unfold lowCall at h
 split at h
 all_goals try (repeat' (split at h)) <;> first | (cases h; done) | (simp only [Option.map_eq_some_iff] at h; obtain ⟨_, _, h⟩ := h; cases h; done) | skip
 cases h
 exact ⟨c, _, ho, by assumption, by assumption, by assumption⟩
theorem lowOp_notX {f : LO} {args : List LO} (h : lowOp P o = some (.callX f args)) : False := by
 unfold lowOp at h
 split at h <;> first
  | (simp only [Option.map_eq_some_iff] at h; obtain ⟨_, _, h⟩ := h; cases h; done)
  | skip
 all_goals try (repeat' (split at h)) <;> first | (cases h; done) | (simp only [Option.map_eq_some_iff] at h; obtain ⟨_, _, h⟩ := h; cases h; done) | skip
 rename_i c ho
 unfold lowCall at h
 split at h
 all_goals try (repeat' (split at h)) <;> first | (cases h; done) | (simp only [Option.map_eq_some_iff] at h; obtain ⟨_, _, h⟩ := h; cases h; done) | skip
theorem step_sound {Q : Exit → Act → World → Prop} {next : Act → World → Prop} (hlow : lowOp P o = some k ∨ ∃ f args, lowOp P o = some (.call f args) ∧ k = .callX f args) (hi : Inv C) (hp : Plain ρ) (hr : Reads C ρ a o) {dr : Bool} (h : k.step P dr ρ C.σ K)
  (hn : ∀ C' d v, Ext C C' → Inv C' → Rep C' d v → K d C'.σ → next (a.put o.dst v) C'.w) : o.wp P a C.w next Q := by
 rcases hlow with hlow | ⟨f, args, hlow, rfl⟩
 case inr =>
  obtain ⟨c, fo, ho, hc, hf, hl⟩ := lowOp_call hlow
  simp only [LK.step, CallKX] at h
  split at h
  ·rename_i fid caps hfn
   cases dr with
   | true =>
    obtain ⟨r, τ, hcall, hk⟩ := h
    refine upon_call ho hc hf hl hi hp hr hfn hcall fun C' d v hx hi' hrep hR => ?_
    obtain ⟨rfl, hσ⟩ := hR
    exact hn C' d v hx hi' hrep (by rw [hσ]; exact hk)
   | false =>
    obtain ⟨R, hcall, hk⟩ := h
    exact upon_call ho hc hf hl hi hp hr hfn hcall fun C' d v hx hi' hrep hR => hn C' d v hx hi' hrep (hk d C'.σ hR)
  ·exact h.elim
 by_cases hc : ∃ f args, k = .call f args
 ·obtain ⟨f, args, rfl⟩ := hc
  obtain ⟨c, fo, ho, hc, hf, hl⟩ := lowOp_call hlow
  simp only [LK.step, CallK] at h
  split at h
  ·rename_i fid caps hfn
   cases dr with
   | true =>
    obtain ⟨r, ds', hv, hpure, hs, hk⟩ := h
    refine upon_call ho hc hf hl hi hp hr hfn (call_of_pure hpure hv hs) fun C' d v hx hi' hrep hR => ?_
    obtain ⟨rfl, hσ⟩ := hR
    exact hn C' d v hx hi' hrep (by rw [hσ]; exact hk)
   | false =>
    obtain ⟨R, hcall, hk⟩ := h
    exact upon_call ho hc hf hl hi hp hr hfn hcall fun C' d v hx hi' hrep hR => hn C' d v hx hi' hrep (hk d C'.σ hR)
  ·exact h.elim
 ·have hk : ∀ f args, k ≠ .call f args := fun f args e => hc ⟨f, args, e⟩
  have hkx : ∀ f args, k ≠ .callX f args := fun f args e => by subst e; exact lowOp_notX hlow
  have h' : k.run dr ρ C.σ K := by
   cases k <;> first | exact h | exact absurd rfl (hk _ _) | exact absurd rfl (hkx _ _)
  exact upon_done (sound_op hlow hk dr C a ρ K hi hp hr h') hn
theorem St.reads {env : Env} (h : St C env a N) : Reads C (LO.ev env) a o := fun t _ => h.rep t
theorem ev_plain (env : Env) : Plain (LO.ev env) := fun _ => rfl
theorem seq_sound {Q : Exit → Act → World → Prop} {K : Env → List Ob → Prop} : ∀ (is : List Nat) (ls : List LOp) (C : Ctx) (env : Env) (a : Act), is.length = ls.length →
  (∀ (m i : Nat) l, is[m]? = some i → ls[m]? = some l → ∃ o, ops[i]? = some o ∧ lowOne P N ops o = some l) → St C env a N → runOps P false ls K env C.σ →
  (∀ C' env' a', Ext C C' → St C' env' a' N → K env' C'.σ → Q .normal a' C'.w) → wpOps P ops Q is a C.w
 | [], ls, C, env, a, hl, _, hst, h, hq => by
  have : ls = [] := List.eq_nil_of_length_eq_zero (by simpa using hl.symm)
  subst this
  exact hq C env a (.refl C) hst h
 | i :: is, [], C, env, a, hl, _, _, _, _ => by simp at hl
 | i :: is, l :: ls, C, env, a, hl, hall, hst, h, hq => by
  obtain ⟨o, hoi, hlow⟩ := hall 0 i l rfl rfl
  obtain ⟨hk, hg, hd, hN⟩ := lowOne_spec hlow
  obtain ⟨w1, w2⟩ := wanted_of (a := a) hg hst.size
  simp only [wpOps, hoi]
  have go : l.k.step P false (LO.ev env) C.σ (fun d σ' => runOps P false ls K (put env l.dst d) σ') → o.wp P a C.w (wpOps P ops Q is) Q := fun hstep =>
   step_sound (.inl hk) hst.inv (ev_plain env) hst.reads hstep fun C' d v hx hi hrep hK =>
    seq_sound is ls C' (put env l.dst d) (a.put o.dst v) (by simpa using hl) (fun m i l h1 h2 => hall (m + 1) i l (by simpa using h1) (by simpa using h2))
     (by rw [hd]; exact (hst.ext hx hi).put hN hrep) hK (fun C'' env' a' hx' hst' hK' => hq C'' env' a' (hx.trans hx') hst' hK')
  simp only [runOps] at h
  split at h
  ·rename_i hgn
   rw [w1 hgn]
   exact .inl (go h)
  ·rename_i t want hgs
   obtain ⟨g, hb, h1, h2⟩ := h
   have hbv := hst.rep t
   rw [w2 t want hgs g (gv_val hbv hb)]
   by_cases hbw : g = some want
   ·rw [if_pos (by simpa using hbw)]
    exact .inl (go (h1 hbw))
   ·rw [if_neg (by simpa using hbw)]
    exact seq_sound is ls C (put env l.dst (.tup [])) (a.put o.dst undef) (by simpa using hl) (fun m i l h1 h2 => hall (m + 1) i l (by simpa using h1) (by simpa using h2))
     (by rw [hd]; exact hst.put hN rep_none) (h2 hbw) hq
end
end Go.Vi
