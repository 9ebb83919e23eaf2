import Derived.Test.YtggchhmgeafoaaaVi21
set_option linter.unusedVariables false
set_option linter.unusedSimpArgs false
set_option linter.unnecessarySimpa false
namespace Go.Vi
open Go Go.RowKit
section
variable {P : Program} {dr : Bool} {dst : Option Nat} {os : List LOp} {K : Env → List Ob → Prop} {env : Env} {σ : List Ob}
def capsD : D → List D
 | .fn _ caps => caps
 | _ => []
theorem capsD_fn {f : FuncId} {caps : List D} : capsD (.fn f caps) = caps := id rfl
def CallV (P : Program) (dr : Bool) (f : D) (ds : Option (List D)) (pt : Bool) (dst : Option Nat) (os : List LOp) (K : Env → List Ob → Prop) (env : Env) (σ : List Ob) : Prop :=
 ∃ fid caps ds' r, fid < bB ∧ f = .fn fid caps ∧ ds = some ds' ∧ PureD P fid ds' r ∧ (pt || r.sc) = true ∧ runOps P dr os K (put env dst r) σ
theorem ro_callV {f : LO} {args : List LO} (h : CallV P dr (f.ev env) (mapO (view σ) (args.map (LO.ev env) ++ capsD (f.ev env))) ((args.map (LO.ev env) ++ capsD (f.ev env)).all D.pt) dst os K env σ) :
  runOps P dr (⟨dst, none, .call f args⟩ :: os) K env σ := by
 obtain ⟨fid, caps, ds', r, hb, h1, h2, h3, h4, h5⟩ := h
 rw [h1] at h2 h4
 exact ro_pure hb h3 h1 h2 h4 h5
theorem ro_callVX {f : LO} {args : List LO} (h : CallV P dr (f.ev env) (mapO (view σ) (args.map (LO.ev env) ++ capsD (f.ev env))) ((args.map (LO.ev env) ++ capsD (f.ev env)).all D.pt) dst os K env σ) :
  runOps P dr (⟨dst, none, .callX f args⟩ :: os) K env σ := by
 obtain ⟨fid, caps, ds', r, hb, h1, h2, h3, h4, h5⟩ := h
 rw [h1] at h2 h4
 exact ro_pureX hb h3 h1 h2 h4 h5
theorem CallV_pure {fid : FuncId} {caps : List D} {ds' : List D} {r : D} {pt : Bool} (h : PureD P fid ds' r) (hs : (pt || r.sc) = true) (hk : runOps P dr os K (put env dst r) σ) (hb : fid < bB := by decide) : CallV P dr (.fn fid caps) (some ds') pt dst os K env σ :=
 ⟨fid, caps, ds', r, hb, rfl, rfl, h, hs, hk⟩
def CallE (P : Program) (dr : Bool) (f : D) (ds : Option (List D)) (σ0 : Option (List Ob)) (q : List Nat) (n : Nat) (σf : List Ob) (dst : Option Nat) (os : List LOp) (K : Env → List Ob → Prop) (env : Env) : Prop :=
 ∃ fid caps ds' σ0' r τ, fid < bB ∧ f = .fn fid caps ∧ q.Nodup ∧ ds = some ds' ∧ σ0 = some σ0' ∧ CallG P fid ds' σ0' r τ ∧ runOps P dr os K (put env dst (r.ren (fr q n))) (merge q σf τ)
theorem callE_D {f : FuncId} {caps : List D} {ds ds' : List D} {z q : List Nat} {σ0' : List Ob} {r : D} {τ : List Ob} (hnd : q.Nodup) (h2 : mapO (pull false q (freeze z σ)) ds = some ds') (h3 : pullσ false q (freeze z σ) q = some σ0') (h : CallG P f ds' σ0' r τ) :
  CallD P f ds σ fun d σ' => d = r.ren (fr q σ.length) ∧ σ' = merge q (freeze z σ) τ := by
 refine CallD.freeze z ?_
 refine CallD.frame hnd h3 h2 h fun d σ1 ⟨e1, e2⟩ => ?_
 rw [e1, e2, freeze_length]
 exact ⟨rfl, rfl⟩
theorem ro_callE {f : LO} {args : List LO} {z q : List Nat} (h : CallE P dr (f.ev env) (mapO (pull false q (freeze z σ)) (args.map (LO.ev env) ++ capsD (f.ev env))) (pullσ false q (freeze z σ) q) q σ.length (freeze z σ) dst os K env) :
  runOps P dr (⟨dst, none, .callX f args⟩ :: os) K env σ := by
 obtain ⟨fid, caps, ds', σ0', r, τ, hb, h1, hnd, h2, h3, h4, h5⟩ := h
 rw [h1] at h2
 have := callE_D (caps := caps) hnd h2 h3 h4
 simp only [runOps, LK.step, CallKX, h1, fnN_lt hb, fnA_lt hb]
 cases dr with
 | true => exact ⟨_, _, this, h5⟩
 | false => exact ⟨_, this, fun d σ' ⟨e1, e2⟩ => by rw [e1, e2]; exact h5⟩
theorem ro_callE' {f : LO} {args : List LO} {z q : List Nat} (h : CallE P false (f.ev env) (mapO (pull false q (freeze z σ)) (args.map (LO.ev env) ++ capsD (f.ev env))) (pullσ false q (freeze z σ) q) q σ.length (freeze z σ) dst os K env) :
  runOps P false (⟨dst, none, .call f args⟩ :: os) K env σ := by
 obtain ⟨fid, caps, ds', σ0', r, τ, hb, h1, hnd, h2, h3, h4, h5⟩ := h
 rw [h1] at h2
 have := callE_D (caps := caps) hnd h2 h3 h4
 simp only [runOps, LK.step, CallK, h1, fnN_lt hb, fnA_lt hb]
 exact ⟨_, this, fun d σ' ⟨e1, e2⟩ => by rw [e1, e2]; exact h5⟩
theorem ro_callA {f : LO} {args : List LO} (h : CallE P dr (f.ev env) (mapO (pull false (reachL (freeze (capt σ (args.map (LO.ev env))) σ) 40 [] (args.map (LO.ev env) ++ capsD (f.ev env))) (freeze (capt σ (args.map (LO.ev env))) σ)) (args.map (LO.ev env) ++ capsD (f.ev env)))
  (pullσ false (reachL (freeze (capt σ (args.map (LO.ev env))) σ) 40 [] (args.map (LO.ev env) ++ capsD (f.ev env))) (freeze (capt σ (args.map (LO.ev env))) σ) (reachL (freeze (capt σ (args.map (LO.ev env))) σ) 40 [] (args.map (LO.ev env) ++ capsD (f.ev env))))
  (reachL (freeze (capt σ (args.map (LO.ev env))) σ) 40 [] (args.map (LO.ev env) ++ capsD (f.ev env))) σ.length (freeze (capt σ (args.map (LO.ev env))) σ) dst os K env) :
  runOps P dr (⟨dst, none, .callX f args⟩ :: os) K env σ := ro_callE h
theorem ro_callA' {f : LO} {args : List LO} (h : CallE P false (f.ev env) (mapO (pull false (reachL (freeze (capt σ (args.map (LO.ev env))) σ) 40 [] (args.map (LO.ev env) ++ capsD (f.ev env))) (freeze (capt σ (args.map (LO.ev env))) σ)) (args.map (LO.ev env) ++ capsD (f.ev env)))
  (pullσ false (reachL (freeze (capt σ (args.map (LO.ev env))) σ) 40 [] (args.map (LO.ev env) ++ capsD (f.ev env))) (freeze (capt σ (args.map (LO.ev env))) σ) (reachL (freeze (capt σ (args.map (LO.ev env))) σ) 40 [] (args.map (LO.ev env) ++ capsD (f.ev env))))
  (reachL (freeze (capt σ (args.map (LO.ev env))) σ) 40 [] (args.map (LO.ev env) ++ capsD (f.ev env))) σ.length (freeze (capt σ (args.map (LO.ev env))) σ) dst os K env) :
  runOps P false (⟨dst, none, .call f args⟩ :: os) K env σ := ro_callE' h
def BndE (P : Program) (dr : Bool) (f : D) (ds : Option (List D)) (σ0 : Option (List Ob)) (q : List Nat) (n : Nat) (σf : List Ob) (dst : Option Nat) (os : List LOp) (K : Env → List Ob → Prop) (env : Env) : Prop :=
 match f with
 | .fn m _ => 4096 ≤ m ∧ CallE P dr (.fn (m - 4096) []) ds σ0 q n σf dst os K env
 | _ => False
theorem BndE_fn {m : FuncId} {caps : List D} {ds : Option (List D)} {σ0 : Option (List Ob)} {q : List Nat} {n : Nat} {σf : List Ob} : BndE P dr (.fn m caps) ds σ0 q n σf dst os K env = (4096 ≤ m ∧ CallE P dr (.fn (m - 4096) []) ds σ0 q n σf dst os K env) := id rfl
theorem ro_callBE {f : LO} {args : List LO} {z q : List Nat} (h : BndE P dr (f.ev env) (mapO (pull false q (freeze z σ)) (capsD (f.ev env) ++ args.map (LO.ev env))) (pullσ false q (freeze z σ) q) q σ.length (freeze z σ) dst os K env) :
  runOps P dr (⟨dst, none, .callX f args⟩ :: os) K env σ := by
 generalize hf : f.ev env = d at h
 cases d <;> try exact h.elim
 rename_i m caps
 obtain ⟨hm, fid, caps', ds', σ0', r, τ, hb, h1, hnd, h2, h3, h4, h5⟩ := h
 obtain ⟨e1, e2⟩ := D.fn.inj h1
 subst e1
 subst e2
 have hm' : ¬ m < bB := Nat.not_lt.2 hm
 simp only [capsD_fn] at h2
 have := callE_D (caps := []) hnd h2 h3 h4
 simp only [runOps, LK.step, CallKX, hf, fnN_ge hm', fnA_ge hm']
 cases dr with
 | true => exact ⟨_, _, this, h5⟩
 | false => exact ⟨_, this, fun d σ' ⟨e1, e2⟩ => by rw [e1, e2]; exact h5⟩
theorem ro_callBE' {f : LO} {args : List LO} {z q : List Nat} (h : BndE P false (f.ev env) (mapO (pull false q (freeze z σ)) (capsD (f.ev env) ++ args.map (LO.ev env))) (pullσ false q (freeze z σ) q) q σ.length (freeze z σ) dst os K env) :
  runOps P false (⟨dst, none, .call f args⟩ :: os) K env σ := by
 generalize hf : f.ev env = d at h
 cases d <;> try exact h.elim
 rename_i m caps
 obtain ⟨hm, fid, caps', ds', σ0', r, τ, hb, h1, hnd, h2, h3, h4, h5⟩ := h
 obtain ⟨e1, e2⟩ := D.fn.inj h1
 subst e1
 subst e2
 have hm' : ¬ m < bB := Nat.not_lt.2 hm
 simp only [capsD_fn] at h2
 have := callE_D (caps := []) hnd h2 h3 h4
 simp only [runOps, LK.step, CallK, hf, fnN_ge hm', fnA_ge hm']
 exact ⟨_, this, fun d σ' ⟨e1, e2⟩ => by rw [e1, e2]; exact h5⟩
theorem ro_callB {f : LO} {args : List LO} (h : BndE P dr (f.ev env) (mapO (pull false (reachL (freeze [] σ) 40 [] (capsD (f.ev env) ++ args.map (LO.ev env))) (freeze [] σ)) (capsD (f.ev env) ++ args.map (LO.ev env)))
  (pullσ false (reachL (freeze [] σ) 40 [] (capsD (f.ev env) ++ args.map (LO.ev env))) (freeze [] σ) (reachL (freeze [] σ) 40 [] (capsD (f.ev env) ++ args.map (LO.ev env))))
  (reachL (freeze [] σ) 40 [] (capsD (f.ev env) ++ args.map (LO.ev env))) σ.length (freeze [] σ) dst os K env) :
  runOps P dr (⟨dst, none, .callX f args⟩ :: os) K env σ := ro_callBE h
theorem ro_callB' {f : LO} {args : List LO} (h : BndE P false (f.ev env) (mapO (pull false (reachL (freeze [] σ) 40 [] (capsD (f.ev env) ++ args.map (LO.ev env))) (freeze [] σ)) (capsD (f.ev env) ++ args.map (LO.ev env)))
  (pullσ false (reachL (freeze [] σ) 40 [] (capsD (f.ev env) ++ args.map (LO.ev env))) (freeze [] σ) (reachL (freeze [] σ) 40 [] (capsD (f.ev env) ++ args.map (LO.ev env))))
  (reachL (freeze [] σ) 40 [] (capsD (f.ev env) ++ args.map (LO.ev env))) σ.length (freeze [] σ) dst os K env) :
  runOps P false (⟨dst, none, .call f args⟩ :: os) K env σ := ro_callBE' h
theorem CallE_use {fid : FuncId} {caps : List D} {ds' : List D} {σ0' : List Ob} {q : List Nat} {n : Nat} {σf : List Ob} {r : D} {τ : List Ob} (h : CallG P fid ds' σ0' r τ) (hnd : q.Nodup) (hk : runOps P dr os K (put env dst (r.ren (fr q n))) (merge q σf τ)) (hb : fid < bB := by decide) :
  CallE P dr (.fn fid caps) (some ds') (some σ0') q n σf dst os K env := ⟨fid, caps, ds', σ0', r, τ, hb, rfl, hnd, rfl, rfl, h, hk⟩
end
def PostV (res : List RL) (r : D) (env : Env) (σ : List Ob) : Prop := resK env σ res fun rs => view σ (ofRes rs) = some r
theorem PostV_open {res : List RL} {r : D} {env : Env} {σ : List Ob} (h : resK env σ res fun rs => view σ (ofRes rs) = some r) : PostV res r env σ := h
theorem pureV {P : Program} {f : FuncId} {fn : Func} {l : LF} {ds : List D} {r : D} (hf : P.funcs[f]? = some fn) (hl : lowFn P fn = some l) (hds : ds.length ≤ l.n)
  (h : Run P l.n [] [.code l.code] (PostV l.res r) (argEnv 0 ds) []) : PureD P f ds r := pureD hf hl hds h
theorem idx_hit {x : Nat} {xs : List Nat} : idx (x :: xs) x = some 0 := by simp [idx]
def sucO : Option Nat → Option Nat
 | some m => some (m + 1)
 | none => none
theorem sucO_some {m : Nat} : sucO (some m) = some (m + 1) := id rfl
theorem sucO_none : sucO none = none := id rfl
theorem idx_miss {x l : Nat} {xs : List Nat} (h : (x == l) = false) : idx (x :: xs) l = sucO (idx xs l) := by
 have : x ≠ l := by simpa using h
 simp only [idx, if_neg this]
 cases idx xs l <;> rfl
theorem idx_nil {l : Nat} : idx [] l = none := id rfl
end Go.Vi
