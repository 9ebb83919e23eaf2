import Derived.Test.YtapennlmboabeaaGreatVi21
set_option linter.unusedVariables false
set_option linter.unusedSimpArgs false
set_option linter.unnecessarySimpa false
namespace Go.Vi
open Go Go.RowKit
section
variable {P : Program} {dr : Bool} {dst : Option Nat} {os : List LOp} {K : fy → List Ob → Prop} {env : fy} {σ : List Ob}
def dt : D → List D
 | .fn _ caps => caps
 | _ => []
theorem aQ {f : FuncId} {caps : List D} : dt (.fn f caps) = caps := id rfl
def uF (P : Program) (dr : Bool) (f : D) (ds : Option (List D)) (pt : Bool) (dst : Option Nat) (os : List LOp) (K : fy → List Ob → Prop) (env : fy) (σ : List Ob) : Prop :=
 ∃ fid caps ds' r, fid < bB ∧ f = .fn fid caps ∧ ds = some ds' ∧ aA P fid ds' r ∧ (pt || r.sc) = true ∧ af P dr os K (put env dst r) σ
theorem da {f : LO} {args : List LO} (h : uF P dr (f.ev env) (cV (fJ σ) (args.map (LO.ev env) ++ dt (f.ev env))) ((args.map (LO.ev env) ++ dt (f.ev env)).all D.pt) dst os K env σ) :
  af P dr (⟨dst, none, .call f args⟩ :: os) K env σ := by
 obtain ⟨fid, caps, ds', r, hb, h1, h2, h3, h4, h5⟩ := h
 rw [h1] at h2 h4
 exact zC hb h3 h1 h2 h4 h5
theorem ck {f : LO} {args : List LO} (h : uF P dr (f.ev env) (cV (fJ σ) (args.map (LO.ev env) ++ dt (f.ev env))) ((args.map (LO.ev env) ++ dt (f.ev env)).all D.pt) dst os K env σ) :
  af P dr (⟨dst, none, .callX f args⟩ :: os) K env σ := by
 obtain ⟨fid, caps, ds', r, hb, h1, h2, h3, h4, h5⟩ := h
 rw [h1] at h2 h4
 exact xZ hb h3 h1 h2 h4 h5
theorem az {fid : FuncId} {caps : List D} {ds' : List D} {r : D} {pt : Bool} (h : aA P fid ds' r) (hs : (pt || r.sc) = true) (hk : af P dr os K (put env dst r) σ) (hb : fid < bB := by decide) : uF P dr (.fn fid caps) (some ds') pt dst os K env σ :=
 ⟨fid, caps, ds', r, hb, rfl, rfl, h, hs, hk⟩
def jD (P : Program) (dr : Bool) (f : D) (ds : Option (List D)) (σ0 : Option (List Ob)) (q : List Nat) (n : Nat) (σf : List Ob) (dst : Option Nat) (os : List LOp) (K : fy → List Ob → Prop) (env : fy) : Prop :=
 ∃ fid caps ds' σ0' r τ, fid < bB ∧ f = .fn fid caps ∧ q.Nodup ∧ ds = some ds' ∧ σ0 = some σ0' ∧ aa P fid ds' σ0' r τ ∧ af P dr os K (put env dst (r.ren (fr q n))) (dv q σf τ)
theorem ov {f : FuncId} {caps : List D} {ds ds' : List D} {z q : List Nat} {σ0' : List Ob} {r : D} {τ : List Ob} (hnd : q.Nodup) (h2 : cV (dZ false q (freeze z σ)) ds = some ds') (h3 : ct false q (freeze z σ) q = some σ0') (h : aa P f ds' σ0' r τ) :
  ib P f ds σ fun d σ' => d = r.ren (fr q σ.length) ∧ σ' = dv q (freeze z σ) τ := by
 refine ib.freeze z ?_
 refine ib.frame hnd h3 h2 h fun d σ1 ⟨e1, e2⟩ => ?_
 rw [e1, e2, lX]
 exact ⟨rfl, rfl⟩
theorem iJ {f : LO} {args : List LO} {z q : List Nat} (h : jD P dr (f.ev env) (cV (dZ false q (freeze z σ)) (args.map (LO.ev env) ++ dt (f.ev env))) (ct false q (freeze z σ) q) q σ.length (freeze z σ) dst os K env) :
  af P dr (⟨dst, none, .callX f args⟩ :: os) K env σ := by
 obtain ⟨fid, caps, ds', σ0', r, τ, hb, h1, hnd, h2, h3, h4, h5⟩ := h
 rw [h1] at h2
 have := ov (caps := caps) hnd h2 h3 h4
 simp only [af, LK.step, mf, h1, oZ hb, oY hb]
 cases dr with
 | true => exact ⟨_, _, this, h5⟩
 | false => exact ⟨_, this, fun d σ' ⟨e1, e2⟩ => by rw [e1, e2]; exact h5⟩
theorem hZ {f : LO} {args : List LO} {z q : List Nat} (h : jD P false (f.ev env) (cV (dZ false q (freeze z σ)) (args.map (LO.ev env) ++ dt (f.ev env))) (ct false q (freeze z σ) q) q σ.length (freeze z σ) dst os K env) :
  af P false (⟨dst, none, .call f args⟩ :: os) K env σ := by
 obtain ⟨fid, caps, ds', σ0', r, τ, hb, h1, hnd, h2, h3, h4, h5⟩ := h
 rw [h1] at h2
 have := ov (caps := caps) hnd h2 h3 h4
 simp only [af, LK.step, nL, h1, oZ hb, oY hb]
 exact ⟨_, this, fun d σ' ⟨e1, e2⟩ => by rw [e1, e2]; exact h5⟩
theorem gX {f : LO} {args : List LO} (h : jD P dr (f.ev env) (cV (dZ false (au (freeze (bv σ (args.map (LO.ev env))) σ) 40 [] (args.map (LO.ev env) ++ dt (f.ev env))) (freeze (bv σ (args.map (LO.ev env))) σ)) (args.map (LO.ev env) ++ dt (f.ev env)))
  (ct false (au (freeze (bv σ (args.map (LO.ev env))) σ) 40 [] (args.map (LO.ev env) ++ dt (f.ev env))) (freeze (bv σ (args.map (LO.ev env))) σ) (au (freeze (bv σ (args.map (LO.ev env))) σ) 40 [] (args.map (LO.ev env) ++ dt (f.ev env))))
  (au (freeze (bv σ (args.map (LO.ev env))) σ) 40 [] (args.map (LO.ev env) ++ dt (f.ev env))) σ.length (freeze (bv σ (args.map (LO.ev env))) σ) dst os K env) :
  af P dr (⟨dst, none, .callX f args⟩ :: os) K env σ := iJ h
theorem gB {f : LO} {args : List LO} (h : jD P false (f.ev env) (cV (dZ false (au (freeze (bv σ (args.map (LO.ev env))) σ) 40 [] (args.map (LO.ev env) ++ dt (f.ev env))) (freeze (bv σ (args.map (LO.ev env))) σ)) (args.map (LO.ev env) ++ dt (f.ev env)))
  (ct false (au (freeze (bv σ (args.map (LO.ev env))) σ) 40 [] (args.map (LO.ev env) ++ dt (f.ev env))) (freeze (bv σ (args.map (LO.ev env))) σ) (au (freeze (bv σ (args.map (LO.ev env))) σ) 40 [] (args.map (LO.ev env) ++ dt (f.ev env))))
  (au (freeze (bv σ (args.map (LO.ev env))) σ) 40 [] (args.map (LO.ev env) ++ dt (f.ev env))) σ.length (freeze (bv σ (args.map (LO.ev env))) σ) dst os K env) :
  af P false (⟨dst, none, .call f args⟩ :: os) K env σ := hZ h
def tw (P : Program) (dr : Bool) (f : D) (ds : Option (List D)) (σ0 : Option (List Ob)) (q : List Nat) (n : Nat) (σf : List Ob) (dst : Option Nat) (os : List LOp) (K : fy → List Ob → Prop) (env : fy) : Prop :=
 match f with
 | .fn m _ => 4096 ≤ m ∧ jD P dr (.fn (m - 4096) []) ds σ0 q n σf dst os K env
 | _ => False
theorem dB {m : FuncId} {caps : List D} {ds : Option (List D)} {σ0 : Option (List Ob)} {q : List Nat} {n : Nat} {σf : List Ob} : tw P dr (.fn m caps) ds σ0 q n σf dst os K env = (4096 ≤ m ∧ jD P dr (.fn (m - 4096) []) ds σ0 q n σf dst os K env) := id rfl
theorem vT {f : LO} {args : List LO} {z q : List Nat} (h : tw P dr (f.ev env) (cV (dZ false q (freeze z σ)) (dt (f.ev env) ++ args.map (LO.ev env))) (ct false q (freeze z σ) q) q σ.length (freeze z σ) dst os K env) :
  af P dr (⟨dst, none, .callX f args⟩ :: os) K env σ := by
 generalize hf : f.ev env = d at h
 cases d <;> try exact h.elim
 rename_i m caps
 obtain ⟨hm, fid, caps', ds', σ0', r, τ, hb, h1, hnd, h2, h3, h4, h5⟩ := h
 obtain ⟨e1, e2⟩ := D.fn.inj h1
 subst e1
 subst e2
 have hm' : ¬ m < bB := Nat.not_lt.2 hm
 simp only [aQ] at h2
 have := ov (caps := []) hnd h2 h3 h4
 simp only [af, LK.step, mf, hf, tN hm', tM hm']
 cases dr with
 | true => exact ⟨_, _, this, h5⟩
 | false => exact ⟨_, this, fun d σ' ⟨e1, e2⟩ => by rw [e1, e2]; exact h5⟩
theorem um {f : LO} {args : List LO} {z q : List Nat} (h : tw P false (f.ev env) (cV (dZ false q (freeze z σ)) (dt (f.ev env) ++ args.map (LO.ev env))) (ct false q (freeze z σ) q) q σ.length (freeze z σ) dst os K env) :
  af P false (⟨dst, none, .call f args⟩ :: os) K env σ := by
 generalize hf : f.ev env = d at h
 cases d <;> try exact h.elim
 rename_i m caps
 obtain ⟨hm, fid, caps', ds', σ0', r, τ, hb, h1, hnd, h2, h3, h4, h5⟩ := h
 obtain ⟨e1, e2⟩ := D.fn.inj h1
 subst e1
 subst e2
 have hm' : ¬ m < bB := Nat.not_lt.2 hm
 simp only [aQ] at h2
 have := ov (caps := []) hnd h2 h3 h4
 simp only [af, LK.step, nL, hf, tN hm', tM hm']
 exact ⟨_, this, fun d σ' ⟨e1, e2⟩ => by rw [e1, e2]; exact h5⟩
theorem lv {f : LO} {args : List LO} (h : tw P dr (f.ev env) (cV (dZ false (au (freeze [] σ) 40 [] (dt (f.ev env) ++ args.map (LO.ev env))) (freeze [] σ)) (dt (f.ev env) ++ args.map (LO.ev env)))
  (ct false (au (freeze [] σ) 40 [] (dt (f.ev env) ++ args.map (LO.ev env))) (freeze [] σ) (au (freeze [] σ) 40 [] (dt (f.ev env) ++ args.map (LO.ev env))))
  (au (freeze [] σ) 40 [] (dt (f.ev env) ++ args.map (LO.ev env))) σ.length (freeze [] σ) dst os K env) :
  af P dr (⟨dst, none, .callX f args⟩ :: os) K env σ := vT h
theorem kv {f : LO} {args : List LO} (h : tw P false (f.ev env) (cV (dZ false (au (freeze [] σ) 40 [] (dt (f.ev env) ++ args.map (LO.ev env))) (freeze [] σ)) (dt (f.ev env) ++ args.map (LO.ev env)))
  (ct false (au (freeze [] σ) 40 [] (dt (f.ev env) ++ args.map (LO.ev env))) (freeze [] σ) (au (freeze [] σ) 40 [] (dt (f.ev env) ++ args.map (LO.ev env))))
  (au (freeze [] σ) 40 [] (dt (f.ev env) ++ args.map (LO.ev env))) σ.length (freeze [] σ) dst os K env) :
  af P false (⟨dst, none, .call f args⟩ :: os) K env σ := um h
theorem db {fid : FuncId} {caps : List D} {ds' : List D} {σ0' : List Ob} {q : List Nat} {n : Nat} {σf : List Ob} {r : D} {τ : List Ob} (h : aa P fid ds' σ0' r τ) (hnd : q.Nodup) (hk : af P dr os K (put env dst (r.ren (fr q n))) (dv q σf τ)) (hb : fid < bB := by decide) :
  jD P dr (.fn fid caps) (some ds') (some σ0') q n σf dst os K env := ⟨fid, caps, ds', σ0', r, τ, hb, rfl, hnd, rfl, rfl, h, hk⟩
end
def AA (res : List RL) (r : D) (env : fy) (σ : List Ob) : Prop := jN env σ res fun rs => fJ σ (eA rs) = some r
theorem bp {res : List RL} {r : D} {env : fy} {σ : List Ob} (h : jN env σ res fun rs => fJ σ (eA rs) = some r) : AA res r env σ := h
theorem bl {P : Program} {f : FuncId} {fn : Func} {l : LF} {ds : List D} {r : D} (hf : P.funcs[f]? = some fn) (hl : al P fn = some l) (hds : ds.length ≤ l.n)
  (h : jf P l.n [] [.code l.code] (AA l.res r) (dq 0 ds) []) : aA P f ds r := pureD hf hl hds h
theorem cm {x : Nat} {xs : List Nat} : idx (x :: xs) x = some 0 := by simp [idx]
def CS : Option Nat → Option Nat
 | some m => some (m + 1)
 | none => none
theorem aD {m : Nat} : CS (some m) = some (m + 1) := id rfl
theorem aC : CS none = none := id rfl
theorem bk {x l : Nat} {xs : List Nat} (h : (x == l) = false) : idx (x :: xs) l = CS (idx xs l) := by
 have : x ≠ l := by simpa using h
 simp only [idx, if_neg this]
 cases idx xs l <;> rfl
theorem cn {l : Nat} : idx [] l = none := id rfl
end Go.Vi
