import Derived.Test.YtgefljdclekadaaVi21
set_option linter.unusedVariables false
set_option linter.unusedSimpArgs false
set_option linter.unnecessarySimpa false
namespace Go.Vi
open Go Go.RowKit
section
variable {P : Program} {dr : Bool} {dst : Option Nat} {os : List LOp} {K : bv → List Ob → Prop} {env : bv} {σ : List Ob}
def dQ : D → List D
 | .fn _ caps => caps
 | _ => []
theorem ik {f : FuncId} {caps : List D} : dQ (.fn f caps) = caps := id rfl
def sH (P : Program) (dr : Bool) (f : D) (ds : Option (List D)) (pt : Bool) (dst : Option Nat) (os : List LOp) (K : bv → List Ob → Prop) (env : bv) (σ : List Ob) : Prop :=
 ∃ fid caps ds' r, f = .fn fid caps ∧ ds = some ds' ∧ br P fid ds' r ∧ (pt || r.sc) = true ∧ aB P dr os K (put env dst r) σ
theorem ao {f : LO} {args : List LO} (h : sH P dr (f.ev env) (bq (dL σ) (args.map (LO.ev env) ++ dQ (f.ev env))) ((args.map (LO.ev env) ++ dQ (f.ev env)).all D.pt) dst os K env σ) :
  aB P dr (⟨dst, none, .call f args⟩ :: os) K env σ := by
 obtain ⟨fid, caps, ds', r, h1, h2, h3, h4, h5⟩ := h
 rw [h1] at h2 h4
 exact uo h3 h1 h2 h4 h5
theorem aC {f : LO} {args : List LO} (h : sH P dr (f.ev env) (bq (dL σ) (args.map (LO.ev env) ++ dQ (f.ev env))) ((args.map (LO.ev env) ++ dQ (f.ev env)).all D.pt) dst os K env σ) :
  aB P dr (⟨dst, none, .callX f args⟩ :: os) K env σ := by
 obtain ⟨fid, caps, ds', r, h1, h2, h3, h4, h5⟩ := h
 rw [h1] at h2 h4
 exact tM h3 h1 h2 h4 h5
theorem av {fid : FuncId} {caps : List D} {ds' : List D} {r : D} {pt : Bool} (h : br P fid ds' r) (hs : (pt || r.sc) = true) (hk : aB P dr os K (put env dst r) σ) : sH P dr (.fn fid caps) (some ds') pt dst os K env σ :=
 ⟨fid, caps, ds', r, rfl, rfl, h, hs, hk⟩
def nC (P : Program) (dr : Bool) (f : D) (ds : Option (List D)) (σ0 : Option (List Ob)) (q : List Nat) (n : Nat) (σf : List Ob) (dst : Option Nat) (os : List LOp) (K : bv → List Ob → Prop) (env : bv) : Prop :=
 ∃ fid caps ds' σ0' r τ, f = .fn fid caps ∧ q.Nodup ∧ ds = some ds' ∧ σ0 = some σ0' ∧ az P fid ds' σ0' r τ ∧ aB P dr os K (put env dst (r.ren (fr q n))) (dX q σf τ)
theorem p9 {f : FuncId} {caps : List D} {ds ds' : List D} {z q : List Nat} {σ0' : List Ob} {r : D} {τ : List Ob} (hnd : q.Nodup) (h2 : bq (eO false q (freeze z σ)) ds = some ds') (h3 : df false q (freeze z σ) q = some σ0') (h : az P f ds' σ0' r τ) :
  cI P f ds σ fun d σ' => d = r.ren (fr q σ.length) ∧ σ' = dX q (freeze z σ) τ := by
 refine cI.freeze z ?_
 refine cI.frame hnd h3 h2 h fun d σ1 ⟨e1, e2⟩ => ?_
 rw [e1, e2, gH]
 exact ⟨rfl, rfl⟩
theorem aP {f : LO} {args : List LO} {z q : List Nat} (h : nC P dr (f.ev env) (bq (eO false q (freeze z σ)) (args.map (LO.ev env) ++ dQ (f.ev env))) (df false q (freeze z σ) q) q σ.length (freeze z σ) dst os K env) :
  aB P dr (⟨dst, none, .callX f args⟩ :: os) K env σ := by
 obtain ⟨fid, caps, ds', σ0', r, τ, h1, hnd, h2, h3, h4, h5⟩ := h
 rw [h1] at h2
 have := p9 (caps := caps) hnd h2 h3 h4
 simp only [aB, LK.step, iB, h1]
 cases dr with
 | true => exact ⟨_, _, this, h5⟩
 | false => exact ⟨_, this, fun d σ' ⟨e1, e2⟩ => by rw [e1, e2]; exact h5⟩
theorem aL {f : LO} {args : List LO} {z q : List Nat} (h : nC P false (f.ev env) (bq (eO false q (freeze z σ)) (args.map (LO.ev env) ++ dQ (f.ev env))) (df false q (freeze z σ) q) q σ.length (freeze z σ) dst os K env) :
  aB P false (⟨dst, none, .call f args⟩ :: os) K env σ := by
 obtain ⟨fid, caps, ds', σ0', r, τ, h1, hnd, h2, h3, h4, h5⟩ := h
 rw [h1] at h2
 have := p9 (caps := caps) hnd h2 h3 h4
 simp only [aB, LK.step, jX, h1]
 exact ⟨_, this, fun d σ' ⟨e1, e2⟩ => by rw [e1, e2]; exact h5⟩
theorem aD {f : LO} {args : List LO} (h : nC P dr (f.ev env) (bq (eO false (bc (freeze (cH σ (args.map (LO.ev env))) σ) 40 [] (args.map (LO.ev env) ++ dQ (f.ev env))) (freeze (cH σ (args.map (LO.ev env))) σ)) (args.map (LO.ev env) ++ dQ (f.ev env)))
  (df false (bc (freeze (cH σ (args.map (LO.ev env))) σ) 40 [] (args.map (LO.ev env) ++ dQ (f.ev env))) (freeze (cH σ (args.map (LO.ev env))) σ) (bc (freeze (cH σ (args.map (LO.ev env))) σ) 40 [] (args.map (LO.ev env) ++ dQ (f.ev env))))
  (bc (freeze (cH σ (args.map (LO.ev env))) σ) 40 [] (args.map (LO.ev env) ++ dQ (f.ev env))) σ.length (freeze (cH σ (args.map (LO.ev env))) σ) dst os K env) :
  aB P dr (⟨dst, none, .callX f args⟩ :: os) K env σ := aP h
theorem ar {f : LO} {args : List LO} (h : nC P false (f.ev env) (bq (eO false (bc (freeze (cH σ (args.map (LO.ev env))) σ) 40 [] (args.map (LO.ev env) ++ dQ (f.ev env))) (freeze (cH σ (args.map (LO.ev env))) σ)) (args.map (LO.ev env) ++ dQ (f.ev env)))
  (df false (bc (freeze (cH σ (args.map (LO.ev env))) σ) 40 [] (args.map (LO.ev env) ++ dQ (f.ev env))) (freeze (cH σ (args.map (LO.ev env))) σ) (bc (freeze (cH σ (args.map (LO.ev env))) σ) 40 [] (args.map (LO.ev env) ++ dQ (f.ev env))))
  (bc (freeze (cH σ (args.map (LO.ev env))) σ) 40 [] (args.map (LO.ev env) ++ dQ (f.ev env))) σ.length (freeze (cH σ (args.map (LO.ev env))) σ) dst os K env) :
  aB P false (⟨dst, none, .call f args⟩ :: os) K env σ := aL h
theorem ab {fid : FuncId} {caps : List D} {ds' : List D} {σ0' : List Ob} {q : List Nat} {n : Nat} {σf : List Ob} {r : D} {τ : List Ob} (h : az P fid ds' σ0' r τ) (hnd : q.Nodup) (hk : aB P dr os K (put env dst (r.ren (fr q n))) (dX q σf τ)) :
  nC P dr (.fn fid caps) (some ds') (some σ0') q n σf dst os K env := ⟨fid, caps, ds', σ0', r, τ, rfl, hnd, rfl, rfl, h, hk⟩
end
def vS (res : List RL) (r : D) (env : bv) (σ : List Ob) : Prop := eF env σ res fun rs => dL σ (bg rs) = some r
theorem ax {res : List RL} {r : D} {env : bv} {σ : List Ob} (h : eF env σ res fun rs => dL σ (bg rs) = some r) : vS res r env σ := h
theorem bX {P : Program} {f : FuncId} {fn : Func} {l : LF} {ds : List D} {r : D} (hf : P.funcs[f]? = some fn) (hl : aR P fn = some l) (hds : ds.length ≤ l.n)
  (h : dp P l.n [] [.code l.code] (vS l.res r) (cY 0 ds) []) : br P f ds r := pureD hf hl hds h
theorem jE {x : Nat} {xs : List Nat} : idx (x :: xs) x = some 0 := by simp [idx]
def xB : Option Nat → Option Nat
 | some m => some (m + 1)
 | none => none
theorem gr {m : Nat} : xB (some m) = some (m + 1) := id rfl
theorem gA : xB none = none := id rfl
theorem hM {x l : Nat} {xs : List Nat} (h : (x == l) = false) : idx (x :: xs) l = xB (idx xs l) := by
 have : x ≠ l := by simpa using h
 simp only [idx, if_neg this]
 cases idx xs l <;> rfl
theorem jG {l : Nat} : idx [] l = none := id rfl
end Go.Vi
