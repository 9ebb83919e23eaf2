import Derived.Test.YtgefljdclekadaaGreatVi21
set_option linter.unusedVariables false
set_option linter.unusedSimpArgs false
set_option linter.unnecessarySimpa false
namespace Go.Vi
open Go Go.RowKit
section
variable {P : Program} {dr : Bool} {dst : Option Nat} {os : List LOp} {K : bK → List Ob → Prop} {env : bK} {σ : List Ob}
def cE : D → List D
 | .fn _ caps => caps
 | _ => []
theorem fI {f : FuncId} {caps : List D} : cE (.fn f caps) = caps := id rfl
def ta (P : Program) (dr : Bool) (f : D) (ds : Option (List D)) (pt : Bool) (dst : Option Nat) (os : List LOp) (K : bK → List Ob → Prop) (env : bK) (σ : List Ob) : Prop :=
 ∃ fid caps ds' r, fid < bB ∧ f = .fn fid caps ∧ ds = some ds' ∧ aP P fid ds' r ∧ (pt || r.sc) = true ∧ aE P dr os K (put env dst r) σ
theorem ar {f : LO} {args : List LO} (h : ta P dr (f.ev env) (bV (eF σ) (args.map (LO.ev env) ++ cE (f.ev env))) ((args.map (LO.ev env) ++ cE (f.ev env)).all D.pt) dst os K env σ) :
  aE P dr (⟨dst, none, .call f args⟩ :: os) K env σ := by
 obtain ⟨fid, caps, ds', r, hb, h1, h2, h3, h4, h5⟩ := h
 rw [h1] at h2 h4
 exact wA hb h3 h1 h2 h4 h5
theorem aw {f : LO} {args : List LO} (h : ta P dr (f.ev env) (bV (eF σ) (args.map (LO.ev env) ++ cE (f.ev env))) ((args.map (LO.ev env) ++ cE (f.ev env)).all D.pt) dst os K env σ) :
  aE P dr (⟨dst, none, .callX f args⟩ :: os) K env σ := by
 obtain ⟨fid, caps, ds', r, hb, h1, h2, h3, h4, h5⟩ := h
 rw [h1] at h2 h4
 exact uV hb h3 h1 h2 h4 h5
theorem ae {fid : FuncId} {caps : List D} {ds' : List D} {r : D} {pt : Bool} (h : aP P fid ds' r) (hs : (pt || r.sc) = true) (hk : aE P dr os K (put env dst r) σ) (hb : fid < bB := by decide) : ta P dr (.fn fid caps) (some ds') pt dst os K env σ :=
 ⟨fid, caps, ds', r, hb, rfl, rfl, h, hs, hk⟩
def j0 (P : Program) (dr : Bool) (f : D) (ds : Option (List D)) (σ0 : Option (List Ob)) (q : List Nat) (n : Nat) (σf : List Ob) (dst : Option Nat) (os : List LOp) (K : bK → List Ob → Prop) (env : bK) : Prop :=
 ∃ fid caps ds' σ0' r τ, fid < bB ∧ f = .fn fid caps ∧ q.Nodup ∧ ds = some ds' ∧ σ0 = some σ0' ∧ az P fid ds' σ0' r τ ∧ aE P dr os K (put env dst (r.ren (fr q n))) (ez q σf τ)
theorem jN {f : FuncId} {caps : List D} {ds ds' : List D} {z q : List Nat} {σ0' : List Ob} {r : D} {τ : List Ob} (hnd : q.Nodup) (h2 : bV (eB false q (freeze z σ)) ds = some ds') (h3 : cV false q (freeze z σ) q = some σ0') (h : az P f ds' σ0' r τ) :
  cR P f ds σ fun d σ' => d = r.ren (fr q σ.length) ∧ σ' = ez q (freeze z σ) τ := by
 refine cR.freeze z ?_
 refine cR.frame hnd h3 h2 h fun d σ1 ⟨e1, e2⟩ => ?_
 rw [e1, e2, ig]
 exact ⟨rfl, rfl⟩
theorem aT {f : LO} {args : List LO} {z q : List Nat} (h : j0 P dr (f.ev env) (bV (eB false q (freeze z σ)) (args.map (LO.ev env) ++ cE (f.ev env))) (cV false q (freeze z σ) q) q σ.length (freeze z σ) dst os K env) :
  aE P dr (⟨dst, none, .callX f args⟩ :: os) K env σ := by
 obtain ⟨fid, caps, ds', σ0', r, τ, hb, h1, hnd, h2, h3, h4, h5⟩ := h
 rw [h1] at h2
 have := jN (caps := caps) hnd h2 h3 h4
 simp only [aE, LK.step, io, h1, kg hb, kf hb]
 cases dr with
 | true => exact ⟨_, _, this, h5⟩
 | false => exact ⟨_, this, fun d σ' ⟨e1, e2⟩ => by rw [e1, e2]; exact h5⟩
theorem aO {f : LO} {args : List LO} {z q : List Nat} (h : j0 P false (f.ev env) (bV (eB false q (freeze z σ)) (args.map (LO.ev env) ++ cE (f.ev env))) (cV false q (freeze z σ) q) q σ.length (freeze z σ) dst os K env) :
  aE P false (⟨dst, none, .call f args⟩ :: os) K env σ := by
 obtain ⟨fid, caps, ds', σ0', r, τ, hb, h1, hnd, h2, h3, h4, h5⟩ := h
 rw [h1] at h2
 have := jN (caps := caps) hnd h2 h3 h4
 simp only [aE, LK.step, jo, h1, kg hb, kf hb]
 exact ⟨_, this, fun d σ' ⟨e1, e2⟩ => by rw [e1, e2]; exact h5⟩
theorem aA {f : LO} {args : List LO} (h : j0 P dr (f.ev env) (bV (eB false (aZ (freeze (cQ σ (args.map (LO.ev env))) σ) 40 [] (args.map (LO.ev env) ++ cE (f.ev env))) (freeze (cQ σ (args.map (LO.ev env))) σ)) (args.map (LO.ev env) ++ cE (f.ev env)))
  (cV false (aZ (freeze (cQ σ (args.map (LO.ev env))) σ) 40 [] (args.map (LO.ev env) ++ cE (f.ev env))) (freeze (cQ σ (args.map (LO.ev env))) σ) (aZ (freeze (cQ σ (args.map (LO.ev env))) σ) 40 [] (args.map (LO.ev env) ++ cE (f.ev env))))
  (aZ (freeze (cQ σ (args.map (LO.ev env))) σ) 40 [] (args.map (LO.ev env) ++ cE (f.ev env))) σ.length (freeze (cQ σ (args.map (LO.ev env))) σ) dst os K env) :
  aE P dr (⟨dst, none, .callX f args⟩ :: os) K env σ := aT h
theorem aB {f : LO} {args : List LO} (h : j0 P false (f.ev env) (bV (eB false (aZ (freeze (cQ σ (args.map (LO.ev env))) σ) 40 [] (args.map (LO.ev env) ++ cE (f.ev env))) (freeze (cQ σ (args.map (LO.ev env))) σ)) (args.map (LO.ev env) ++ cE (f.ev env)))
  (cV false (aZ (freeze (cQ σ (args.map (LO.ev env))) σ) 40 [] (args.map (LO.ev env) ++ cE (f.ev env))) (freeze (cQ σ (args.map (LO.ev env))) σ) (aZ (freeze (cQ σ (args.map (LO.ev env))) σ) 40 [] (args.map (LO.ev env) ++ cE (f.ev env))))
  (aZ (freeze (cQ σ (args.map (LO.ev env))) σ) 40 [] (args.map (LO.ev env) ++ cE (f.ev env))) σ.length (freeze (cQ σ (args.map (LO.ev env))) σ) dst os K env) :
  aE P false (⟨dst, none, .call f args⟩ :: os) K env σ := aO h
def sZ (P : Program) (dr : Bool) (f : D) (ds : Option (List D)) (σ0 : Option (List Ob)) (q : List Nat) (n : Nat) (σf : List Ob) (dst : Option Nat) (os : List LOp) (K : bK → List Ob → Prop) (env : bK) : Prop :=
 match f with
 | .fn m _ => 4096 ≤ m ∧ j0 P dr (.fn (m - 4096) []) ds σ0 q n σf dst os K env
 | _ => False
theorem fv {m : FuncId} {caps : List D} {ds : Option (List D)} {σ0 : Option (List Ob)} {q : List Nat} {n : Nat} {σf : List Ob} : sZ P dr (.fn m caps) ds σ0 q n σf dst os K env = (4096 ≤ m ∧ j0 P dr (.fn (m - 4096) []) ds σ0 q n σf dst os K env) := id rfl
theorem sx {f : LO} {args : List LO} {z q : List Nat} (h : sZ P dr (f.ev env) (bV (eB false q (freeze z σ)) (cE (f.ev env) ++ args.map (LO.ev env))) (cV false q (freeze z σ) q) q σ.length (freeze z σ) dst os K env) :
  aE P dr (⟨dst, none, .callX f args⟩ :: os) K env σ := by
 generalize hf : f.ev env = d at h
 cases d <;> try exact h.elim
 rename_i m caps
 obtain ⟨hm, fid, caps', ds', σ0', r, τ, hb, h1, hnd, h2, h3, h4, h5⟩ := h
 obtain ⟨e1, e2⟩ := D.fn.inj h1
 subst e1
 subst e2
 have hm' : ¬ m < bB := Nat.not_lt.2 hm
 simp only [fI] at h2
 have := jN (caps := []) hnd h2 h3 h4
 simp only [aE, LK.step, io, hf, pK hm', pJ hm']
 cases dr with
 | true => exact ⟨_, _, this, h5⟩
 | false => exact ⟨_, this, fun d σ' ⟨e1, e2⟩ => by rw [e1, e2]; exact h5⟩
theorem ql {f : LO} {args : List LO} {z q : List Nat} (h : sZ P false (f.ev env) (bV (eB false q (freeze z σ)) (cE (f.ev env) ++ args.map (LO.ev env))) (cV false q (freeze z σ) q) q σ.length (freeze z σ) dst os K env) :
  aE P false (⟨dst, none, .call f args⟩ :: os) K env σ := by
 generalize hf : f.ev env = d at h
 cases d <;> try exact h.elim
 rename_i m caps
 obtain ⟨hm, fid, caps', ds', σ0', r, τ, hb, h1, hnd, h2, h3, h4, h5⟩ := h
 obtain ⟨e1, e2⟩ := D.fn.inj h1
 subst e1
 subst e2
 have hm' : ¬ m < bB := Nat.not_lt.2 hm
 simp only [fI] at h2
 have := jN (caps := []) hnd h2 h3 h4
 simp only [aE, LK.step, jo, hf, pK hm', pJ hm']
 exact ⟨_, this, fun d σ' ⟨e1, e2⟩ => by rw [e1, e2]; exact h5⟩
theorem eD {f : LO} {args : List LO} (h : sZ P dr (f.ev env) (bV (eB false (aZ (freeze [] σ) 40 [] (cE (f.ev env) ++ args.map (LO.ev env))) (freeze [] σ)) (cE (f.ev env) ++ args.map (LO.ev env)))
  (cV false (aZ (freeze [] σ) 40 [] (cE (f.ev env) ++ args.map (LO.ev env))) (freeze [] σ) (aZ (freeze [] σ) 40 [] (cE (f.ev env) ++ args.map (LO.ev env))))
  (aZ (freeze [] σ) 40 [] (cE (f.ev env) ++ args.map (LO.ev env))) σ.length (freeze [] σ) dst os K env) :
  aE P dr (⟨dst, none, .callX f args⟩ :: os) K env σ := sx h
theorem dO {f : LO} {args : List LO} (h : sZ P false (f.ev env) (bV (eB false (aZ (freeze [] σ) 40 [] (cE (f.ev env) ++ args.map (LO.ev env))) (freeze [] σ)) (cE (f.ev env) ++ args.map (LO.ev env)))
  (cV false (aZ (freeze [] σ) 40 [] (cE (f.ev env) ++ args.map (LO.ev env))) (freeze [] σ) (aZ (freeze [] σ) 40 [] (cE (f.ev env) ++ args.map (LO.ev env))))
  (aZ (freeze [] σ) 40 [] (cE (f.ev env) ++ args.map (LO.ev env))) σ.length (freeze [] σ) dst os K env) :
  aE P false (⟨dst, none, .call f args⟩ :: os) K env σ := ql h
theorem am {fid : FuncId} {caps : List D} {ds' : List D} {σ0' : List Ob} {q : List Nat} {n : Nat} {σf : List Ob} {r : D} {τ : List Ob} (h : az P fid ds' σ0' r τ) (hnd : q.Nodup) (hk : aE P dr os K (put env dst (r.ren (fr q n))) (ez q σf τ)) (hb : fid < bB := by decide) :
  j0 P dr (.fn fid caps) (some ds') (some σ0') q n σf dst os K env := ⟨fid, caps, ds', σ0', r, τ, hb, rfl, hnd, rfl, rfl, h, hk⟩
end
def xo (res : List RL) (r : D) (env : bK) (σ : List Ob) : Prop := eW env σ res fun rs => eF σ (cf rs) = some r
theorem ac {res : List RL} {r : D} {env : bK} {σ : List Ob} (h : eW env σ res fun rs => eF σ (cf rs) = some r) : xo res r env σ := h
theorem bf {P : Program} {f : FuncId} {fn : Func} {l : LF} {ds : List D} {r : D} (hf : P.funcs[f]? = some fn) (hl : aH P fn = some l) (hds : ds.length ≤ l.n)
  (h : dQ P l.n [] [.code l.code] (xo l.res r) (de 0 ds) []) : aP P f ds r := pureD hf hl hds h
theorem jR {x : Nat} {xs : List Nat} : idx (x :: xs) x = some 0 := by simp [idx]
def zr : Option Nat → Option Nat
 | some m => some (m + 1)
 | none => none
theorem hI {m : Nat} : zr (some m) = some (m + 1) := id rfl
theorem hH : zr none = none := id rfl
theorem iG {x l : Nat} {xs : List Nat} (h : (x == l) = false) : idx (x :: xs) l = zr (idx xs l) := by
 have : x ≠ l := by simpa using h
 simp only [idx, if_neg this]
 cases idx xs l <;> rfl
theorem jS {l : Nat} : idx [] l = none := id rfl
end Go.Vi
