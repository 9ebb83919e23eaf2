import Derived.Test.YtgefljdclekadaaGreatVi12c
set_option linter.unusedVariables false
set_option linter.unusedSimpArgs false
set_option linter.unnecessarySimpa false
namespace Go.Vi
open Go Go.RowKit
def xH (f : FuncId) : FuncId := if f < bB then f else f - bB
def tE {α : Type} (f : FuncId) (ds caps : List α) : List α := if f < bB then ds ++ caps else caps ++ ds
def jo (P : Program) (dr : Bool) (f : D) (ds : List D) (σ : List Ob) (K : D → List Ob → Prop) : Prop :=
 match f with
 | .fn f caps => match dr with
  | true => ∃ r ds', bV (eF σ) (tE f ds caps) = some ds' ∧ aP P (xH f) ds' r ∧ ((tE f ds caps).all D.pt || r.sc) = true ∧ K r σ
  | false => ∃ Q, cR P (xH f) (tE f ds caps) σ Q ∧ ∀ d σ', Q d σ' → K d σ'
 | _ => False
def io (P : Program) (dr : Bool) (f : D) (ds : List D) (σ : List Ob) (K : D → List Ob → Prop) : Prop :=
 match f with
 | .fn f caps => match dr with
  | true => ∃ r τ, cR P (xH f) (tE f ds caps) σ (fun d σ' => d = r ∧ σ' = τ) ∧ K r τ
  | false => ∃ Q, cR P (xH f) (tE f ds caps) σ Q ∧ ∀ d σ', Q d σ' → K d σ'
 | _ => False
def LK.step (P : Program) (dr : Bool) (k : LK) (ρ : LO → D) (σ : List Ob) (K : D → List Ob → Prop) : Prop :=
 match k with
 | .call f args => jo P dr (ρ f) (args.map ρ) σ K
 | .callX f args => io P dr (ρ f) (args.map ρ) σ K
 | k => k.run dr ρ σ K
def gv (d : D) (g : Option Bool) : Prop := match g with | some b => d = .bool b | none => d = .tup []
def gvv (g : Option Bool) : Value := match g with | some b => .bool b | none => undef
theorem tM {C : bT} {d : D} {v : Value} {g : Option Bool} (h : bq C d v) (hg : gv d g) : v = gvv g := by
 cases g with
 | some b => simp only [gv] at hg; subst hg; exact dW h
 | none =>
  simp only [gv] at hg
  subst hg
  obtain ⟨vs, rfl, hl, _⟩ := jY h
  have : vs = [] := List.eq_nil_of_length_eq_zero (by simpa using hl.symm)
  subst this; rfl
theorem kP {C : bT} : bq C (.tup []) undef := .tup [] [] rfl (by simp)
def aE (P : Program) (dr : Bool) : List LOp → (bK → List Ob → Prop) → bK → List Ob → Prop
 | [], K, env, σ => K env σ
 | o :: os, K, env, σ => match o.guard with
  | none => o.k.step P dr (LO.ev env) σ fun d σ' => aE P dr os K (put env o.dst d) σ'
  | some (t, want) => ∃ g, gv (lk env t) g ∧ (g = some want → o.k.step P dr (LO.ev env) σ fun d σ' => aE P dr os K (put env o.dst d) σ') ∧ (g ≠ some want → aE P dr os K (put env o.dst (.tup [])) σ)
def fK (N : Nat) (ops : Array Oper) (g : Option (Nat × Bool)) : Option (Option (Nat × Bool)) :=
 match g with
 | none => some none
 | some (j, want) => match (ops[j]?).bind (·.dst) with
  | some t => if t < N then some (some (t, want)) else none
  | none => none
def xD (N : Nat) (d : Option Tmp) : Bool :=
 match d with
 | none => true
 | some t => decide (t < N)
def i5 (P : Program) (N : Nat) (ops : Array Oper) (o : Oper) : Option LOp :=
 match gh P o, fK N ops o.guard with
 | some k, some g => if xD N o.dst = true then some ⟨o.dst, g, k⟩ else none
 | _, _ => none
def fT (P : Program) (N : Nat) (ops : Array Oper) : List Oper → Option (List LOp)
 | [] => some []
 | o :: os => match i5 P N ops o, fT P N ops os with
  | some l, some ls => some (l :: ls)
  | _, _ => none
section
variable {P : Program} {o : Oper} {k : LK} {C : bT} {a : Act} {ρ : LO → D} {K : D → List Ob → Prop} {N : Nat} {ops : Array Oper}
theorem jA {l : LOp} (h : i5 P N ops o = some l) : gh P o = some l.k ∧ fK N ops o.guard = some l.guard ∧ l.dst = o.dst ∧ ∀ k, o.dst = some k → k < N := by
 unfold i5 at h
 split at h
 ·rename_i k g h1 h2
  split at h
  ·rename_i h3
   cases h
   refine ⟨h1, h2, rfl, fun k hk => ?_⟩
   rw [hk] at h3
   simpa [xD] using h3
  ·cases h
 ·cases h
theorem fU : ∀ {os : List Oper} {ls : List LOp}, fT P N ops os = some ls → ls.length = os.length ∧ ∀ (i : Nat) o l, os[i]? = some o → ls[i]? = some l → i5 P N ops o = some l
 | [], ls, h => by simp [fT] at h; subst h; simp
 | o :: os, ls, h => by
  simp only [fT] at h
  split at h
  ·rename_i l ls' h1 h2
   cases h
   obtain ⟨hl, hs⟩ := fU h2
   refine ⟨by simp [hl], fun i x y hx hy => ?_⟩
   cases i with
   | zero => simp at hx hy; subst hx; subst hy; exact h1
   | succ i => simp at hx hy; exact hs i x y hx hy
  ·cases h
theorem mF {l : Option (Nat × Bool)} (h : fK N ops o.guard = some l) (hs : a.tmps.size = N) :
  (l = none → Region.wanted o (yielded ops a.tmps) = true) ∧ ∀ t want, l = some (t, want) → ∀ g, a.tmps.getD t undef = gvv g → Region.wanted o (yielded ops a.tmps) = (g == some want) := by
 unfold fK at h
 split at h
 ·rename_i hg
  cases h
  exact ⟨fun _ => (by simp [Region.wanted, hg]), fun t want h => (by cases h)⟩
 ·rename_i j want hg
  split at h
  ·rename_i t ht
   split at h
   ·rename_i hlt
    cases h
    refine ⟨fun h => (by cases h), fun t' want' h g hb => ?_⟩
    cases h
    have : yielded ops a.tmps j = g := by
     unfold yielded
     have h1 : a.tmps[t]? = some (gvv g) := by
      have hlt' : t < a.tmps.size := by rw [hs]; exact hlt
      simp [hlt'] at hb ⊢; exact hb
     cases g <;> simp [ht, h1, gvv, undef]
    simp only [Region.wanted, hg, this]
   ·cases h
  ·cases h
theorem sS {Q : Exit → Act → World → Prop} {next : Act → World → Prop} (h : iy P o a C K) (hn : ∀ C' d v, en C C' → dN C' → bq C' d v → K d C'.σ → next (a.put o.dst v) C'.w) : o.wp P a C.w next Q := by
 obtain ⟨nx, v, C', d, hrun, hx, hi, hr, hk, hv⟩ := h
 unfold Oper.wp
 rw [hrun]
 rcases hv with rfl | ⟨rfl, rfl⟩
 ·exact hn C' d v hx hi hr hk
 ·exact hn C' d undef hx hi hr hk
theorem kg {f : FuncId} (h : f < bB) : xH f = f := if_pos h
theorem pK {f : FuncId} (h : ¬ f < bB) : xH f = f - bB := if_neg h
theorem kf {α : Type} {f : FuncId} {ds caps : List α} (h : f < bB) : tE f ds caps = ds ++ caps := if_pos h
theorem pJ {α : Type} {f : FuncId} {ds caps : List α} (h : ¬ f < bB) : tE f ds caps = caps ++ ds := if_neg h
theorem wg {α : Type} {f : FuncId} {ds caps : List α} {d : α} (h : d ∈ tE f ds caps) : d ∈ ds ∨ d ∈ caps := by
 unfold tE at h
 split at h
 ·exact List.mem_append.1 h
 ·exact (List.mem_append.1 h).symm
theorem ou {w : World} {c : Call} {fo : Operand} (ho : o.op = .call c) (hc : c.callee = .value fo) {g : FuncId} {xs ys W : List Value} (hfv : a.eval fo = .func (.func g) xs.toArray ys.toArray) (he : pw P g)
  (hW : xs ++ c.args.toList.map a.eval ++ ys = W) : (execOp a.eval o).run P w = .ok (.enter g W.toArray) w := by
 obtain ⟨fn, hfn1, hfn2, hfn3⟩ := he
 have e1 : xs.toArray ++ Array.map a.eval c.args ++ ys.toArray = W.toArray := by
  subst hW
  apply Array.ext'; simp
 simp only [execOp, ho, resolve, hc, hfv, Deferred.ofValue, invoke, Sem.run_bind, Sem.run_pure, Result.andThen_ok, e1, callFunc, run_program, hfn1, hfn2, hfn3, Bool.false_eq_true, if_false]
theorem rA {ds es : List D} {xs ys : List Value} (h1 : ds.length = xs.length) (h2 : es.length = ys.length) (h3 : ∀ (i : Nat) d v, ds[i]? = some d → xs[i]? = some v → bq C d v) (h4 : ∀ (i : Nat) d v, es[i]? = some d → ys[i]? = some v → bq C d v) : dZ C (ds ++ es) (xs ++ ys) := by
 refine ⟨by simp [h1, h2], fun i d v hd hv => ?_⟩
 by_cases h : i < ds.length
 ·rw [List.getElem?_append_left h] at hd
  rw [List.getElem?_append_left (by omega)] at hv
  exact h3 i d v hd hv
 ·rw [List.getElem?_append_right (by omega)] at hd
  rw [List.getElem?_append_right (by omega)] at hv
  rw [h1] at hd
  exact h4 _ d v hd hv
theorem hJ {Q : Exit → Act → World → Prop} {next : Act → World → Prop} {c : Call} {fo : Operand} {lf : LO} {ls : List LO} (ho : o.op = .call c) (hc : c.callee = .value fo) (hf : bc fo = some lf) (hl : gg c.args.toList = some ls)
  (hi : dN C) (hp : ie ρ) (hr : gr C ρ a o) {f : FuncId} {caps : List D} (hfn : ρ lf = .fn f caps) {R : D → List Ob → Prop} (h : cR P (xH f) (tE f (ls.map ρ) caps) C.σ R)
  (hn : ∀ C' d v, en C C' → dN C' → bq C' d v → R d C'.σ → next (a.put o.dst v) C'.w) : o.wp P a C.w next Q := by
 have mem : ∀ x, (x = fo ∨ x ∈ c.args.toList) → x ∈ o.op.operands := fun x hx => by
  rw [ho]
  simp only [Op.operands, Call.operands, hc, Array.mem_append]
  rcases hx with rfl | hx
  ·left; simp
  ·right; exact Array.mem_toList_iff.1 hx
 have rf := hr.at hp hf (mem _ (.inl rfl))
 rw [hfn] at rf
 obtain ⟨vs, hfv, hvl, hvr⟩ := nt rf
 have ra := jd (C := C) hr hp hl (fun x hx => mem x (.inr hx))
 have hll : (ls.map ρ).length = (c.args.toList.map a.eval).length := by simpa using (fe hl).1
 obtain ⟨W, hrow, hrun⟩ : ∃ W : List Value, dZ C (tE f (ls.map ρ) caps) W ∧ (execOp a.eval o).run P C.w = .ok (.enter (xH f) W.toArray) C.w := by
  have he := h.enters
  by_cases hb : f < bB
  ·rw [pL hb] at hfv
   rw [kg hb] at he ⊢
   rw [kf hb]
   exact ⟨_, rA hll hvl ra hvr, ou (xs := []) ho hc hfv he rfl⟩
  ·rw [tF hb] at hfv
   rw [pK hb] at he ⊢
   rw [pJ hb]
   exact ⟨_, rA hvl hll hvr ra, ou (ys := []) ho hc hfv he (List.append_nil _)⟩
 unfold Oper.wp
 rw [hrun]
 refine Calls.mono (h.calls C _ rfl hi hrow) fun e w' he => ?_
 obtain ⟨v, C', d, rfl, rfl, hx, hi', hrep, hR⟩ := he
 exact hn C' d v hx hi' hrep hR
theorem kz {f : LO} {args : List LO} (h : gh P o = some (.call f args)) : ∃ c fo, o.op = .call c ∧ c.callee = .value fo ∧ bc fo = some f ∧ gg c.args.toList = some args := by
 unfold gh at h
 split at h <;> first
  | (simp only [Option.map_eq_some_iff] at h; obtain ⟨_, _, h⟩ := h; cases h; done)
  | skip
 all_goals try (repeat' (split at h)) <;> first | (cases h; done) | (simp only [Option.map_eq_some_iff] at h; obtain ⟨_, _, h⟩ := h; cases h; done) | skip
 rename_i c ho
 unfold iJ at h
 split at h
 all_goals try (repeat' (split at h)) <;> first | (cases h; done) | (simp only [Option.map_eq_some_iff] at h; obtain ⟨_, _, h⟩ := h; cases h; done) | skip
 cases h
 exact ⟨c, _, ho, by assumption, by assumption, by assumption⟩
theorem pQ {f : LO} {args : List LO} (h : gh P o = some (.callX f args)) : False := by
 unfold gh at h
 split at h <;> first
  | (simp only [Option.map_eq_some_iff] at h; obtain ⟨_, _, h⟩ := h; cases h; done)
  | skip
 all_goals try (repeat' (split at h)) <;> first | (cases h; done) | (simp only [Option.map_eq_some_iff] at h; obtain ⟨_, _, h⟩ := h; cases h; done) | skip
 rename_i c ho
 unfold iJ at h
 split at h
 all_goals try (repeat' (split at h)) <;> first | (cases h; done) | (simp only [Option.map_eq_some_iff] at h; obtain ⟨_, _, h⟩ := h; cases h; done) | skip
theorem f9 {Q : Exit → Act → World → Prop} {next : Act → World → Prop} (hlow : gh P o = some k ∨ ∃ f args, gh P o = some (.call f args) ∧ k = .callX f args) (hi : dN C) (hp : ie ρ) (hr : gr C ρ a o) {dr : Bool} (h : k.step P dr ρ C.σ K)
  (hn : ∀ C' d v, en C C' → dN C' → bq C' d v → K d C'.σ → next (a.put o.dst v) C'.w) : o.wp P a C.w next Q := by
 rcases hlow with hlow | ⟨f, args, hlow, rfl⟩
 case inr =>
  obtain ⟨c, fo, ho, hc, hf, hl⟩ := kz hlow
  simp only [LK.step, io] at h
  split at h
  ·rename_i fid caps hfn
   cases dr with
   | true =>
    obtain ⟨r, τ, hcall, hk⟩ := h
    refine hJ ho hc hf hl hi hp hr hfn hcall fun C' d v hx hi' hrep hR => ?_
    obtain ⟨rfl, hσ⟩ := hR
    exact hn C' d v hx hi' hrep (by rw [hσ]; exact hk)
   | false =>
    obtain ⟨R, hcall, hk⟩ := h
    exact hJ ho hc hf hl hi hp hr hfn hcall fun C' d v hx hi' hrep hR => hn C' d v hx hi' hrep (hk d C'.σ hR)
  ·exact h.elim
 by_cases hc : ∃ f args, k = .call f args
 ·obtain ⟨f, args, rfl⟩ := hc
  obtain ⟨c, fo, ho, hc, hf, hl⟩ := kz hlow
  simp only [LK.step, jo] at h
  split at h
  ·rename_i fid caps hfn
   cases dr with
   | true =>
    obtain ⟨r, ds', hv, hpure, hs, hk⟩ := h
    refine hJ ho hc hf hl hi hp hr hfn (eP hpure hv hs) fun C' d v hx hi' hrep hR => ?_
    obtain ⟨rfl, hσ⟩ := hR
    exact hn C' d v hx hi' hrep (by rw [hσ]; exact hk)
   | false =>
    obtain ⟨R, hcall, hk⟩ := h
    exact hJ ho hc hf hl hi hp hr hfn hcall fun C' d v hx hi' hrep hR => hn C' d v hx hi' hrep (hk d C'.σ hR)
  ·exact h.elim
 ·have hk : ∀ f args, k ≠ .call f args := fun f args e => hc ⟨f, args, e⟩
  have hkx : ∀ f args, k ≠ .callX f args := fun f args e => by subst e; exact pQ hlow
  have h' : k.run dr ρ C.σ K := by
   cases k <;> first | exact h | exact absurd rfl (hk _ _) | exact absurd rfl (hkx _ _)
  exact sS (vj hlow hk dr C a ρ K hi hp hr h') hn
theorem St.reads {env : bK} (h : St C env a N) : gr C (LO.ev env) a o := fun t _ => h.rep t
theorem gB (env : bK) : ie (LO.ev env) := fun _ => rfl
theorem jm {Q : Exit → Act → World → Prop} {K : bK → List Ob → Prop} : ∀ (is : List Nat) (ls : List LOp) (C : bT) (env : bK) (a : Act), is.length = ls.length →
  (∀ (m i : Nat) l, is[m]? = some i → ls[m]? = some l → ∃ o, ops[i]? = some o ∧ i5 P N ops o = some l) → St C env a N → aE P false ls K env C.σ →
  (∀ C' env' a', en C C' → St C' env' a' N → K env' C'.σ → Q .normal a' C'.w) → wpOps P ops Q is a C.w
 | [], ls, C, env, a, hl, _, hst, h, hq => by
  have : ls = [] := List.eq_nil_of_length_eq_zero (by simpa using hl.symm)
  subst this
  exact hq C env a (.refl C) hst h
 | i :: is, [], C, env, a, hl, _, _, _, _ => by simp at hl
 | i :: is, l :: ls, C, env, a, hl, hall, hst, h, hq => by
  obtain ⟨o, hoi, hlow⟩ := hall 0 i l rfl rfl
  obtain ⟨hk, hg, hd, hN⟩ := jA hlow
  obtain ⟨w1, w2⟩ := mF (a := a) hg hst.size
  simp only [wpOps, hoi]
  have go : l.k.step P false (LO.ev env) C.σ (fun d σ' => aE P false ls K (put env l.dst d) σ') → o.wp P a C.w (wpOps P ops Q is) Q := fun hstep =>
   f9 (.inl hk) hst.inv (gB env) hst.reads hstep fun C' d v hx hi hrep hK =>
    jm is ls C' (put env l.dst d) (a.put o.dst v) (by simpa using hl) (fun m i l h1 h2 => hall (m + 1) i l (by simpa using h1) (by simpa using h2))
     (by rw [hd]; exact (hst.ext hx hi).put hN hrep) hK (fun C'' env' a' hx' hst' hK' => hq C'' env' a' (hx.trans hx') hst' hK')
  simp only [aE] at h
  split at h
  ·rename_i hgn
   rw [w1 hgn]
   exact .inl (go h)
  ·rename_i t want hgs
   obtain ⟨g, hb, h1, h2⟩ := h
   have hbv := hst.rep t
   rw [w2 t want hgs g (tM hbv hb)]
   by_cases hbw : g = some want
   ·rw [if_pos (by simpa using hbw)]
    exact .inl (go (h1 hbw))
   ·rw [if_neg (by simpa using hbw)]
    exact jm is ls C (put env l.dst (.tup [])) (a.put o.dst undef) (by simpa using hl) (fun m i l h1 h2 => hall (m + 1) i l (by simpa using h1) (by simpa using h2))
     (by rw [hd]; exact hst.put hN kP) (h2 hbw) hq
end
end Go.Vi
