import Derived.Test.YtggchhmgeafoaaaVi13
set_option linter.unusedVariables false
set_option linter.unusedSimpArgs false
set_option linter.unnecessarySimpa false
namespace Go.Vi
open Go Go.RowKit
def LK.cls : LK → Nat
 | .load _ _ | .call _ _ | .eq _ _ _ _ | .b2s _ => 1
 | .store _ _ _ | .box _ | .alloc _ | .app _ _ _ _ | .appz _ _ _ _ _ | .cap _ | .ovl _ _ | .copy _ _ _ | .clear _ _ | .mks _ _ _ _ | .callX _ _ => 2
 | .slit sz xs => if slitM sz xs.length = true then 2 else 0
 | _ => 0
def SOK (P : Program) (k : LK) (ρ : LO → D) (σ : List Ob) (d : D) (σ' : List Ob) : Prop :=
 (k.cls ≤ 1 → σ' = σ) ∧ (k.cls = 0 → ∀ σ2, k.step P true ρ σ2 fun d' s' => d' = d ∧ s' = σ2) ∧ k.step P true ρ σ fun d' s' => d' = d ∧ s' = σ'
theorem loadRow_det {r : List D} {i : Nat} {ag : Option Nat} {K : D → Prop} (h : loadRow r i ag K) : ∃ d, K d ∧ loadRow r i ag fun d' => d' = d := by
 cases ag with
 | none =>
  simp only [loadRow] at h ⊢
  cases hr : r[i]? with
  | none => simp [hr] at h
  | some d => simp only [hr] at h; exact ⟨d, h, rfl⟩
 | some n =>
  simp only [loadRow] at h ⊢
  exact ⟨_, h.2, h.1, rfl⟩
theorem bnd_det {x : Option D} {z : Nat} {K : Int → Prop} (h : bnd x z K) : ∃ n, K n ∧ ∀ K' : Int → Prop, K' n → bnd x z K' := by
 unfold bnd at h ⊢
 split at h
 ·exact ⟨z, h, fun K' h' => h'⟩
 ·rename_i n; exact ⟨n, h, fun K' h' => h'⟩
 ·exact h.elim
theorem appOwn_det {sz : Nat} {new : List (List D)} {pu : Bool} {l i k n : Nat} {cl : Option Nat} {o : Ob} {σ : List Ob} {K : D → List Ob → Prop} (h : appOwn sz new pu l i k n cl o σ K) : ∃ d σ', K d σ' ∧ appOwn sz new pu l i k n cl o σ fun d' s' => d' = d ∧ s' = σ' := by
 unfold appOwn at h
 split at h
 ·rename_i hc
  exact ⟨_, _, h.2, by unfold appOwn; rw [if_pos hc]; exact ⟨h.1, rfl, rfl⟩⟩
 ·rename_i hc
  rcases h with ⟨h1, h2, h3, h⟩ | ⟨h1, h⟩ | ⟨h1, h2, h3, h4, h5, h⟩ | ⟨h1, h2, h3, h4, h⟩
  ·exact ⟨_, _, h, by unfold appOwn; rw [if_neg hc]; exact .inl ⟨h1, h2, h3, rfl, rfl⟩⟩
  ·exact ⟨_, _, h, by unfold appOwn; rw [if_neg hc]; exact .inr (.inl ⟨h1, rfl, rfl⟩)⟩
  ·exact ⟨_, _, h, by unfold appOwn; rw [if_neg hc]; exact .inr (.inr (.inl ⟨h1, h2, h3, h4, h5, rfl, rfl⟩))⟩
  ·exact ⟨_, _, h, by unfold appOwn; rw [if_neg hc]; exact .inr (.inr (.inr ⟨h1, h2, h3, h4, rfl, rfl⟩))⟩
theorem appRun_det {sz bytes : Nat} {new : List (List D)} {pu : Bool} {s : D} {σ : List Ob} {K : D → List Ob → Prop} (h : appRun sz bytes new pu s σ K) : ∃ d σ', K d σ' ∧ appRun sz bytes new pu s σ fun d' s' => d' = d ∧ s' = σ' := by
 obtain ⟨h1, h2, h⟩ := h
 split at h
 ·exact ⟨_, _, h.2.2, h1, h2, h.1, h.2.1, rfl, rfl⟩
 ·obtain ⟨h3, h⟩ := h
  split at h
  ·rename_i o ho
   obtain ⟨h4, h5, h6, h⟩ := h
   obtain ⟨d, σ', hk, h⟩ := appOwn_det h
   exact ⟨d, σ', hk, h1, h2, h3, by rw [ho]; exact ⟨h4, h5, h6, h⟩⟩
  ·exact h.elim
 ·exact h.elim
theorem step_det {P : Program} {k : LK} {ρ : LO → D} {σ : List Ob} {K : D → List Ob → Prop} (h : k.step P true ρ σ K) : ∃ d σ', K d σ' ∧ SOK P k ρ σ d σ' := by
 cases k <;> simp only [LK.step, LK.run] at h
 case mov x => exact ⟨_, _, h, by simp [SOK, LK.step, LK.run]⟩
 case pick c x y =>
  split at h
  ·rename_i b hb; exact ⟨_, _, h, by simp [SOK, LK.step, LK.run, hb]⟩
  ·exact h.elim
 case alloc zs => exact ⟨_, _, h.2, by simp [SOK, LK.step, LK.run, LK.cls, h.1]⟩
 case box x => exact ⟨_, _, h.2.2, by simp [SOK, LK.step, LK.run, LK.cls, h.1, h.2.1]⟩
 case build zs parts =>
  split at h
  ·rename_i cs hcs; exact ⟨_, _, h, by simp [SOK, LK.step, LK.run, hcs]⟩
  ·exact h.elim
 case slit sz xs =>
  obtain ⟨h1, h2, h⟩ := h
  split at h
  ·rename_i hp
   refine ⟨_, _, h, fun _ => rfl, fun _ σ2 => ?_, ?_⟩ <;> (simp only [LK.step, LK.run]; exact ⟨h1, h2, by rw [if_pos hp]; simp⟩)
  ·rename_i hp
   rcases h.1 with h3 | h3
   ·exact absurd h3 (by simp)
   ·refine ⟨_, _, h.2, fun hc => by simp [LK.cls, h3] at hc, fun hc => by simp [LK.cls, h3] at hc, ?_⟩
    simp only [LK.step, LK.run]
    exact ⟨h1, h2, by rw [if_neg hp]; simp [h3]⟩
 case load ag x =>
  split at h
  ·rename_i r i hρ
   obtain ⟨d, hd, hl⟩ := loadRow_det h
   refine ⟨d, σ, hd, fun _ => rfl, fun h => by simp [LK.cls] at h, ?_⟩
   simp only [LK.step, LK.run, hρ]
   unfold loadRow at hl ⊢
   split at hl <;> simp_all
  ·rename_i l j i n hρ
   split at h
   ·rename_i o ho
    obtain ⟨h1, h2, h3, h4⟩ := h
    have hjr : o.rows[j]? = some (o.rows[j]'(by omega)) := List.getElem?_eq_getElem (by omega)
    obtain ⟨d, hd, hl⟩ := loadRow_det (h4 _ hjr)
    refine ⟨d, σ, hd, fun _ => rfl, fun h => by simp [LK.cls] at h, ?_⟩
    simp only [LK.step, LK.run, hρ, ho]
    refine ⟨h1, h2, h3, fun r hr => ?_⟩
    rw [hjr] at hr; cases hr
    unfold loadRow at hl ⊢
    split at hl <;> simp_all
   ·exact h.elim
  ·exact h.elim
 case store n x y =>
  split at h
  ·rename_i l j i m hρ
   split at h
   ·rename_i o ho
    obtain ⟨h1, h2, h3, h4, h5, h6, h7, h8⟩ := h
    have hjr : o.rows[j]? = some (o.rows[j]'(by omega)) := List.getElem?_eq_getElem (by omega)
    refine ⟨_, _, h8 _ hjr, fun h => by simp [LK.cls] at h, fun h => by simp [LK.cls] at h, ?_⟩
    simp only [LK.step, LK.run, hρ, ho]
    refine ⟨h1, h2, h3, h4, h5, h6, h7, fun r hr => ?_⟩
    rw [hjr] at hr; cases hr
    simp
   ·exact h.elim
  ·exact h.elim
 case chk x =>
  split at h
  ·rename_i hρ; exact ⟨_, _, h, by simp [SOK, LK.step, LK.run, hρ]⟩
  ·rename_i hρ; exact ⟨_, _, h, by simp [SOK, LK.step, LK.run, hρ]⟩
  ·rename_i hρ; exact ⟨_, _, h, by simp [SOK, LK.step, LK.run, hρ]⟩
  ·exact h.elim
 case bin op x y =>
  split at h
  ·rename_i p d hd; exact ⟨_, _, h.2, by simp [SOK, LK.step, LK.run, hd, h.1]⟩
  ·exact h.elim
 case eq t neg x y =>
  split at h
  ·rename_i b hb
   refine ⟨_, _, h, fun _ => rfl, fun h => by simp [LK.cls] at h, ?_⟩
   simp only [LK.step, LK.run, hb]; simp
  ·exact h.elim
 case un op x =>
  split at h
  ·rename_i d hd; exact ⟨_, _, h, by simp [SOK, LK.step, LK.run, hd]⟩
  ·exact h.elim
 case conv k x =>
  split at h
  ·rename_i hρ; exact ⟨_, _, h, by simp [SOK, LK.step, LK.run, hρ]⟩
  ·exact h.elim
 case same x =>
  split at h
  ·rename_i hρ; exact ⟨_, _, h, by simp [SOK, LK.step, LK.run, hρ]⟩
  ·exact h.elim
 case b2s x =>
  split at h
  ·rename_i hρ
   split at h
   ·rename_i l hl
    refine ⟨_, _, h, fun _ => rfl, fun h => by simp [LK.cls] at h, ?_⟩
    simp only [LK.step, LK.run, hρ, hl]; simp
   ·exact h.elim
  ·exact h.elim
 case mkfn f caps => exact ⟨_, _, h, by simp [SOK, LK.step, LK.run]⟩
 case slice st sz x lo hi =>
  split at h
  ·rename_i s hρ
   obtain ⟨h1, h⟩ := h
   obtain ⟨l, h, hl⟩ := bnd_det h
   obtain ⟨m, h, hm⟩ := bnd_det h
   refine ⟨_, _, h.2.2.2, fun _ => rfl, fun _ σ2 => ?_, ?_⟩ <;> simp only [LK.step, LK.run, hρ] <;>
    exact ⟨h1, hl _ (hm _ ⟨h.1, h.2.1, h.2.2.1, by simp⟩)⟩
  ·rename_i nl tg rows hρ
   obtain ⟨h1, h2, h3, h⟩ := h
   obtain ⟨l, h, hl⟩ := bnd_det h
   obtain ⟨m, h, hm⟩ := bnd_det h
   refine ⟨_, _, h.2.2.2, fun _ => rfl, fun _ σ2 => ?_, ?_⟩ <;> simp only [LK.step, LK.run, hρ] <;>
    exact ⟨h1, h2, h3, hl _ (hm _ ⟨h.1, h.2.1, h.2.2.1, by simp⟩)⟩
  ·rename_i l' i k n z cl hρ
   obtain ⟨h1, h2, h⟩ := h
   obtain ⟨l, h, hl⟩ := bnd_det h
   obtain ⟨m, h, hm⟩ := bnd_det h
   obtain ⟨h3, h4, h⟩ := h
   rcases h with ⟨h5, h⟩ | ⟨h5, _⟩
   ·refine ⟨_, _, h, fun _ => rfl, fun _ σ2 => ?_, ?_⟩ <;> simp only [LK.step, LK.run, hρ] <;>
     exact ⟨h1, h2, hl _ (hm _ ⟨h3, h4, .inl ⟨h5, by simp⟩⟩)⟩
   ·cases h5
  ·exact h.elim
 case slice3 sz x lo hi mx =>
  split at h
  ·rename_i nl tg rows hρ
   obtain ⟨h2, h3, h⟩ := h
   obtain ⟨l, h, hl⟩ := bnd_det h
   obtain ⟨m, h, hm⟩ := bnd_det h
   obtain ⟨x, h, hx⟩ := bnd_det h
   refine ⟨_, _, h.2.2.2.2, fun _ => rfl, fun _ σ2 => ?_, ?_⟩ <;> simp only [LK.step, LK.run, hρ] <;>
    exact ⟨h2, h3, hl _ (hm _ (hx _ ⟨h.1, h.2.1, h.2.2.1, h.2.2.2.1, by simp⟩))⟩
  ·rename_i l' i k n z cl hρ
   obtain ⟨h2, h⟩ := h
   obtain ⟨l, h, hl⟩ := bnd_det h
   obtain ⟨m, h, hm⟩ := bnd_det h
   obtain ⟨x, h, hx⟩ := bnd_det h
   refine ⟨_, _, h.2.2.2.2, fun _ => rfl, fun _ σ2 => ?_, ?_⟩ <;> simp only [LK.step, LK.run, hρ] <;>
    exact ⟨h2, hl _ (hm _ (hx _ ⟨h.1, h.2.1, h.2.2.1, h.2.2.2.1, by simp⟩))⟩
  ·exact h.elim
 case cap x => exact absurd h.1 (by simp)
 case copy sz x y =>
  split at h
  ·rename_i new pu hn
   obtain ⟨h1, h⟩ := h
   split at h
   ·rename_i l i k n z cl hρ
    obtain ⟨h2, h⟩ := h
    split at h
    ·rename_i o ho
     refine ⟨_, _, h.2.2.2, fun h => by simp [LK.cls] at h, fun h => by simp [LK.cls] at h, ?_⟩
     simp only [LK.step, LK.run, hn, hρ, ho]
     exact ⟨h1, h2, h.1, h.2.1, h.2.2.1, by simp⟩
    ·exact h.elim
   ·rename_i nl tg hρ
    refine ⟨_, _, h, fun h => by simp [LK.cls] at h, fun h => by simp [LK.cls] at h, ?_⟩
    simp only [LK.step, LK.run, hn, hρ]
    exact ⟨h1, by simp⟩
   ·exact h.elim
  ·exact h.elim
 case ovl x y => exact absurd h.1 (by simp)
 case clear zs x =>
  split at h
  ·rename_i l i k n z cl hρ
   obtain ⟨h2, h⟩ := h
   split at h
   ·rename_i o ho
    refine ⟨_, _, h.2.2, fun h => by simp [LK.cls] at h, fun h => by simp [LK.cls] at h, ?_⟩
    simp only [LK.step, LK.run, hρ, ho]
    exact ⟨h2, h.1, h.2.1, by simp⟩
   ·exact h.elim
  ·rename_i nl tg hρ
   refine ⟨_, _, h, fun h => by simp [LK.cls] at h, fun h => by simp [LK.cls] at h, ?_⟩
   simp only [LK.step, LK.run, hρ]
   simp
  ·exact h.elim
 case mks zs bytes x y =>
  split at h
  ·rename_i h1 h2
   obtain ⟨g1, g2, g3, g4, g5, h⟩ := h
   refine ⟨_, _, h, fun h => by simp [LK.cls] at h, fun h => by simp [LK.cls] at h, ?_⟩
   simp only [LK.step, LK.run, h1, h2]
   exact ⟨g1, g2, g3, g4, g5, by simp⟩
  ·exact h.elim
 case faddr off x =>
  split at h
  ·rename_i hρ; exact ⟨_, _, h, by simp [SOK, LK.step, LK.run, hρ]⟩
  ·rename_i hρ; exact ⟨_, _, h, by simp [SOK, LK.step, LK.run, hρ]⟩
  ·exact h.elim
 case fld off ag x =>
  split at h
  ·rename_i cs hρ
   obtain ⟨d, hd, hl⟩ := loadRow_det h
   refine ⟨d, σ, hd, fun _ => rfl, fun _ σ2 => ?_, ?_⟩ <;> simp only [LK.step, LK.run, hρ] <;> (unfold loadRow at hl ⊢; split at hl <;> simp_all)
  ·exact h.elim
 case iaddr sz x i =>
  split at h
  ·rename_i nl tg rows k n h1 h2
   obtain ⟨h3, h4, h5⟩ := h
   have hr : rows[n.toNat]? = some (rows[n.toNat]'(by omega)) := List.getElem?_eq_getElem (by omega)
   refine ⟨_, _, (h5 _ hr).2, fun _ => rfl, fun _ σ2 => ?_, ?_⟩ <;> simp only [LK.step, LK.run, h1, h2] <;>
    exact ⟨h3, h4, fun r' hr' => ⟨(h5 r' hr').1, by rw [hr] at hr'; cases hr'; simp⟩⟩
  ·rename_i l i0 k0 m z cl k n h1 h2
   exact ⟨_, _, h.2.2.2, by simp [SOK, LK.step, LK.run, h1, h2, h.1, h.2.1, h.2.2.1]⟩
  ·exact h.elim
 case idx x i =>
  split at h
  ·rename_i s k n h1 h2
   exact ⟨_, _, h.2.2, by simp [SOK, LK.step, LK.run, h1, h2, h.1, h.2.1]⟩
  ·exact h.elim
 case ext i x =>
  split at h
  ·rename_i ds hρ
   split at h
   ·rename_i d hd; exact ⟨_, _, h, by simp [SOK, LK.step, LK.run, hρ, hd]⟩
   ·exact h.elim
  ·exact h.elim
 case len st x =>
  split at h
  ·rename_i hρ; exact ⟨_, _, h.2, by simp [SOK, LK.step, LK.run, hρ, h.1]⟩
  ·rename_i hρ; exact ⟨_, _, h.2, by simp [SOK, LK.step, LK.run, hρ, h.1]⟩
  ·rename_i hρ; exact ⟨_, _, h.2, by simp [SOK, LK.step, LK.run, hρ, h.1]⟩
  ·exact h.elim
 case app sz bytes s x =>
  split at h
  ·rename_i new pu hn
   obtain ⟨d, σ', hk, h⟩ := appRun_det h
   refine ⟨d, σ', hk, fun h => by simp [LK.cls] at h, fun h => by simp [LK.cls] at h, ?_⟩
   simp only [LK.step, LK.run, hn]; exact h
  ·exact h.elim
 case appz sz bytes zs s x =>
  split at h
  ·rename_i k n hn
   obtain ⟨h1, h⟩ := h
   obtain ⟨d, σ', hk, h⟩ := appRun_det h
   refine ⟨d, σ', hk, fun h => by simp [LK.cls] at h, fun h => by simp [LK.cls] at h, ?_⟩
   simp only [LK.step, LK.run, hn]; exact ⟨h1, h⟩
  ·exact h.elim
 case mx x y =>
  split at h
  ·rename_i h1 h2; exact ⟨_, _, h, by simp [SOK, LK.step, LK.run, h1, h2]⟩
  ·exact h.elim
 case mn x y =>
  split at h
  ·rename_i h1 h2; exact ⟨_, _, h, by simp [SOK, LK.step, LK.run, h1, h2]⟩
  ·exact h.elim
 case call f args =>
  simp only [CallK] at h
  split at h
  ·rename_i fid caps hf
   obtain ⟨r, ds', h1, h2, h3, h4⟩ := h
   refine ⟨r, σ, h4, fun _ => rfl, fun h => by simp [LK.cls] at h, ?_⟩
   simp only [LK.step, CallK, hf]
   exact ⟨r, ds', h1, h2, h3, by simp⟩
  ·exact h.elim
 case callX f args =>
  simp only [CallKX] at h
  split at h
  ·rename_i fid caps hf
   obtain ⟨r, τ, h1, h2⟩ := h
   refine ⟨r, τ, h2, fun h => by simp [LK.cls] at h, fun h => by simp [LK.cls] at h, ?_⟩
   simp only [LK.step, CallKX, hf]
   exact ⟨r, τ, h1, by simp⟩
  ·exact h.elim
end Go.Vi
