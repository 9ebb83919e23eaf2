import Derived.Test.YtggchhmgeafoaaaVi15
set_option linter.unusedVariables false
set_option linter.unusedSimpArgs false
set_option linter.unnecessarySimpa false
namespace Go.Vi
open Go Go.RowKit
structure Grow (C C' : Ctx) : Prop where
 good : ∀ x, C.good x → C'.good x ∧ C'.w.heap[x]? = C.w.heap[x]?
 ob : ∀ (l : Nat) o b, C.σ[l]? = some o → C.bs[l]? = some b → C'.σ[l]? = some o ∧ C'.bs[l]? = some b ∧ (o.real = true → C'.w.heap[b]? = C.w.heap[b]?)
theorem Rep.grow {C C' : Ctx} (g : Grow C C') {d : D} {v : Value} (h : Rep C d v) : Rep C' d v := by
 induction h with
 | pure h => exact .pure (h.mono (fun b hb => (g.good b hb).1) (fun b hb => (g.good b hb).2))
 | undef v => exact .undef v
 | ptr l j i n o b ad ho hb hle hv =>
  obtain ⟨h1, h2, _⟩ := g.ob l o b ho hb
  exact .ptr l j i n o b ad h1 h2 hle hv
 | own l i k n sz cl A cap o b ho hb hle hik hsz hA hkc hr hn =>
  obtain ⟨h1, h2, h3⟩ := g.ob l o b ho hb
  refine .own l i k n sz cl A cap o b h1 h2 hle hik hsz hA hkc (fun e hre => ?_) hn
  obtain ⟨a1, a2, a3, a4, arr, e', a5, a6⟩ := hr e hre
  exact ⟨a1, a2, a3, a4, arr, e', by rw [h3 hre]; exact a5, a6⟩
 | agg cs vs h h' ih => exact .agg cs vs h ih
 | tup cs vs h h' ih => exact .tup cs vs h ih
 | fn f cs vs h h' ih => exact .fn f cs vs h ih
theorem ObOK.grow {C C' : Ctx} (g : Grow C C') {o : Ob} {b l : Nat} (ho : C.σ[l]? = some o) (hb : C.bs[l]? = some b) (h : ObOK C o b) (hF : o.real = true → ¬ C'.F b) (hfz : o.real = true → o.fz = true → ¬ C'.owned b) : ObOK C' o b := by
 refine ⟨h.rows, h.sz, h.pos, h.one, fun hr => ?_, h.pure, hfz⟩
 obtain ⟨_, arr, e, q, h1, h2, h3, h4, h5, h6⟩ := h.block hr
 refine ⟨hF hr, arr, e, q, by rw [(g.ob l o b ho hb).2.2 hr]; exact h1, h2, h3, h4, h5, fun j i r d hj hi => ?_⟩
 obtain ⟨v, hv, hrep⟩ := h6 j i r d hj hi
 exact ⟨v, hv, hrep.grow g⟩
theorem Ext.setF {C C' : Ctx} (h : Ext C C') (F : Nat → Prop) : Ext { C with F := F } { C' with F := F } :=
 ⟨rfl, h.os, h.tape, h.output, h.size, h.blk, h.ob⟩
def Hid (C0 C : Ctx) (zs : List D) (v : Value) : Prop := ∃ b arr e, v = .pointer (some ⟨b, 0, none⟩) ∧ C0.w.heap.size ≤ b ∧ (∀ x, C.F x ↔ (C0.F x ∨ x = b)) ∧ C.w.heap[b]? = some (.cells arr e (0, 0)) ∧ arr.size = zs.length ∧
 ∀ (i : Nat) d, zs[i]? = some d → ∃ u, arr[i]? = some u ∧ ∀ G w, PRep G w d u
theorem hideV {C0 C : Ctx} (hi : Inv C) (hx : Ext C0 C) {zs : List D} {vs : List Value} (hl : zs.length = vs.length) (hs : ∀ (i : Nat) d v, zs[i]? = some d → vs[i]? = some v → ∀ G w, PRep G w d v) (e : TypeId) :
  ∃ C', C'.w = C.w.alloc (.cells vs.toArray e) ∧ C'.σ = C.σ ∧ Ext C0 { C' with F := C0.F } ∧ Inv C' ∧ Hid C0 C' zs (.pointer (some ⟨C.w.heap.size, 0, none⟩)) ∧ ∀ d v, Rep C d v → Rep C' d v := by
 have hb := below_alloc' C.w (.cells vs.toArray e)
 obtain ⟨l1, l2⟩ := Ext.later hb hi
 have g : Grow C ⟨fun x => C.F x ∨ x = C.w.heap.size, C.σ, C.bs, C.w.alloc (.cells vs.toArray e)⟩ := by
  refine ⟨fun x ⟨h1, h2, h3⟩ => ⟨⟨Nat.lt_of_lt_of_le h1 hb.size, fun h => h.elim h2 (fun h => by omega), h3⟩, hb.block x h1⟩, fun l o b ho hb' => ⟨ho, hb', fun hr => hb.block b (hi.lt ho hb' hr)⟩⟩
 have hsz : C.w.heap.size < (C.w.alloc (.cells vs.toArray e)).heap.size := by
  have := heap_alloc_new C.w (.cells vs.toArray e)
  exact (Array.getElem?_eq_some_iff.1 this).1
 refine ⟨⟨fun x => C.F x ∨ x = C.w.heap.size, C.σ, C.bs, C.w.alloc (.cells vs.toArray e)⟩, rfl, rfl, ?_, ?_, ?_, fun d v h => h.grow g⟩
 ·have : (⟨C0.F, C.σ, C.bs, C.w.alloc (.cells vs.toArray e)⟩ : Ctx) = { C with w := C.w.alloc (.cells vs.toArray e) } := by rw [← hx.F]
  show Ext C0 ⟨C0.F, C.σ, C.bs, C.w.alloc (.cells vs.toArray e)⟩
  rw [this]
  exact hx.trans l1
 ·refine ⟨fun x h => ?_, hi.len, fun l o b ho hb' => (hi.ob l o b ho hb').grow g ho hb' (fun hr => ?_) (fun hr hf => (hi.ob l o b ho hb').frozen hr hf), hi.dis⟩
  ·rcases h with h | h
   ·exact Nat.lt_of_lt_of_le (hi.F x h) hb.size
   ·rw [h]; exact hsz
  ·rintro (h | h)
   ·exact ((hi.ob l o b ho hb').block hr).1 h
   ·have := hi.lt ho hb' hr; omega
 ·refine ⟨C.w.heap.size, vs.toArray, e, rfl, hx.size, fun x => by rw [← hx.F], heap_alloc_new C.w _, by simp [hl], fun i d hd => ?_⟩
  have hlt : i < vs.length := by rw [← hl]; exact (List.getElem?_eq_some_iff.1 hd).1
  exact ⟨vs[i], by simp [hlt], hs i d _ hd (List.getElem?_eq_getElem hlt)⟩
theorem unhideV {C0 C : Ctx} (h0 : Inv C0) (hi : Inv C) (hx : Ext C0 { C with F := C0.F }) {zs : List D} {v : Value} (h : Hid C0 C zs v) (hne : zs ≠ []) (hone : ∀ d ∈ zs, d.one = true) :
  ∃ C', C'.w = C.w ∧ C'.σ = C.σ ++ [⟨true, false, zs.all D.pt1, false, zs.length, [zs], some 0⟩] ∧ C'.F = C0.F ∧ Ext C0 C' ∧ Inv C' ∧ Rep C' (.ptr C.σ.length 0 0 1) v ∧ ∀ d v, Rep C d v → Rep C' d v := by
 obtain ⟨b, arr, e, rfl, hb0, hF, harr, hsz, hreps⟩ := h
 have hpos : 0 < zs.length := List.length_pos_iff.2 hne
 have hlen := hi.len
 have hFb : C.F b := (hF b).2 (.inr rfl)
 have old : ∀ {l : Nat} {o : Ob}, C.σ[l]? = some o → (C.σ ++ [(⟨true, false, zs.all D.pt1, false, zs.length, [zs], some 0⟩ : Ob)])[l]? = some o := fun {l o} h => by
  rw [List.getElem?_append_left (List.getElem?_eq_some_iff.1 h).1]; exact h
 have oldb : ∀ {l b' : Nat}, C.bs[l]? = some b' → (C.bs ++ [b])[l]? = some b' := fun {l o} h => by
  rw [List.getElem?_append_left (List.getElem?_eq_some_iff.1 h).1]; exact h
 have parts : ∀ {l : Nat} {o : Ob} {b' : Nat}, (C.σ ++ [(⟨true, false, zs.all D.pt1, false, zs.length, [zs], some 0⟩ : Ob)])[l]? = some o → (C.bs ++ [b])[l]? = some b' → (C.σ[l]? = some o ∧ C.bs[l]? = some b') ∨ (l = C.σ.length ∧ o = ⟨true, false, zs.all D.pt1, false, zs.length, [zs], some 0⟩ ∧ b' = b) := by
  intro l o b' h1 h2
  rcases getElem?_snoc h1 with h1 | ⟨e1, rfl⟩
  ·rcases getElem?_snoc h2 with h2 | ⟨e2, rfl⟩
   ·exact .inl ⟨h1, h2⟩
   ·have := (List.getElem?_eq_some_iff.1 h1).1
    omega
  ·rcases getElem?_snoc h2 with h2 | ⟨e2, rfl⟩
   ·have := (List.getElem?_eq_some_iff.1 h2).1
    omega
   ·exact .inr ⟨e1, rfl, rfl⟩
 have nb : ∀ (l : Nat) o b', C.σ[l]? = some o → C.bs[l]? = some b' → o.real = true → b' ≠ b := fun l o b' ho hb' hr he => by
  subst he; exact ((hi.ob l o b' ho hb').block hr).1 hFb
 have hown : ∀ x, Ctx.owned ⟨C0.F, C.σ ++ [⟨true, false, zs.all D.pt1, false, zs.length, [zs], some 0⟩], C.bs ++ [b], C.w⟩ x → C.owned x ∨ x = b := by
  rintro x ⟨l, o, h1, h2, h3, h4⟩
  rcases parts h1 h4 with ⟨h1, h4⟩ | ⟨_, _, h5⟩
  ·exact .inl ⟨l, o, h1, h2, h3, h4⟩
  ·exact .inr h5
 have g : Grow C ⟨C0.F, C.σ ++ [⟨true, false, zs.all D.pt1, false, zs.length, [zs], some 0⟩], C.bs ++ [b], C.w⟩ := by
  refine ⟨fun x ⟨h1, h2, h3⟩ => ⟨⟨h1, fun h => h2 ((hF x).2 (.inl h)), fun h => ?_⟩, rfl⟩, fun l o b' ho hb' => ⟨old ho, oldb hb', fun _ => rfl⟩⟩
  rcases hown x h with h | h
  ·exact h3 h
  ·subst h; exact h2 hFb
 have hF0 : ¬ C0.F b := fun h => by have := h0.F b h; omega
 refine ⟨⟨C0.F, C.σ ++ [⟨true, false, zs.all D.pt1, false, zs.length, [zs], some 0⟩], C.bs ++ [b], C.w⟩, rfl, rfl, rfl, ?_, ?_, ?_, fun d v h => h.grow g⟩
 ·refine ⟨rfl, hx.os, hx.tape, hx.output, hx.size, fun x hlt ho => ?_, fun l o b' ho hb' => ?_⟩
  ·obtain ⟨k1, k2⟩ := hx.blk x hlt ho
   refine ⟨k1, fun h => ?_⟩
   rcases hown x h with h | h
   ·exact k2 h
   ·omega
  ·obtain ⟨o', b'', k1, k2, k3⟩ := hx.ob l o b' ho hb'
   exact ⟨o', b'', old k1, oldb k2, k3⟩
 ·refine ⟨fun x h => hi.F x ((hF x).2 (.inl h)), by simp [hlen], fun l o b' ho hb' => ?_, fun l l' o o' b' ho ho' hr hr' hf hf' hb' hb'' => ?_⟩
  ·rcases parts ho hb' with ⟨ho, hb'⟩ | ⟨_, rfl, rfl⟩
   ·refine (hi.ob l o b' ho hb').grow g ho hb' (fun hr h => ((hi.ob l o b' ho hb').block hr).1 ((hF b').2 (.inl h))) (fun hr hf h => ?_)
    rcases hown b' h with h | h
    ·exact (hi.ob l o b' ho hb').frozen hr hf h
    ·exact nb l o b' ho hb' hr h
   ·refine ⟨by simp, by simp, hpos, fun r hr d hd => ?_, fun _ => ⟨hF0, arr, e, 1, harr, by simpa using hsz, by simp, by decide, by simp, fun j i r d hj hi' => ?_⟩, fun h r hr d hd => ?_, by simp⟩
    ·simp at hr; subst hr; exact D.one_cell (hone d hd)
    ·cases j with
     | zero =>
      simp at hj; subst hj
      obtain ⟨u, hu, hp⟩ := hreps i d hi'
      exact ⟨u, by simpa using hu, .pure (hp _ _)⟩
     | succ j => simp at hj
    ·simp at hr; subst hr; exact List.all_eq_true.1 h d hd
  ·rcases parts ho hb' with ⟨ho1, hb1⟩ | ⟨e1, _, eb⟩
   ·rcases parts ho' hb'' with ⟨ho2, hb2⟩ | ⟨e2, _, eb⟩
    ·exact hi.dis l l' o o' b' ho1 ho2 hr hr' hf hf' hb1 hb2
    ·exact absurd eb (nb l o _ ho1 hb1 hr)
   ·rcases parts ho' hb'' with ⟨ho2, hb2⟩ | ⟨e2, _, _⟩
    ·exact absurd eb (nb l' o' _ ho2 hb2 hr')
    ·rw [e1, e2]
 ·exact .ptr _ 0 0 1 ⟨true, false, zs.all D.pt1, false, zs.length, [zs], some 0⟩ b _ (by simp) (by rw [← hlen]; simp) (by simp) (by simp)
theorem Hid.ext {C0 C C' : Ctx} {zs : List D} {v : Value} (h : Hid C0 C zs v) (hi : Inv C) (hx : Ext C C') : Hid C0 C' zs v := by
 obtain ⟨b, arr, e, rfl, hb0, hF, harr, hsz, hreps⟩ := h
 have hFb : C.F b := (hF b).2 (.inr rfl)
 have hno : ¬ C.owned b := by
  rintro ⟨l, o, h1, h2, h3, h4⟩
  exact ((hi.ob l o b h1 h4).block h2).1 hFb
 exact ⟨b, arr, e, rfl, hb0, fun x => by rw [hx.F]; exact hF x, by rw [(hx.blk b (hi.F b hFb) hno).1]; exact harr, hsz, hreps⟩
theorem lowOp_alloc {P : Program} {o : Oper} {zs : List D} (h : lowOp P o = some (.alloc zs)) : ∃ t inf z, o.op = .alloc t ∧ P.info? t = some inf ∧ inf.zero = some z ∧ ofVals z.cells.toList = some zs := by
 unfold lowOp at h
 split at h <;> first
  | (simp only [Option.map_eq_some_iff] at h; obtain ⟨_, _, h⟩ := h; cases h; done)
  | skip
 all_goals try (repeat' (split at h)) <;> first | (cases h; done) | (simp only [Option.map_eq_some_iff] at h; obtain ⟨_, _, h⟩ := h; cases h; done) | skip
 ·simp only [Option.map_eq_some_iff] at h
  obtain ⟨zs', hz, h⟩ := h
  cases h
  exact ⟨_, _, _, by assumption, by assumption, by assumption, hz⟩
 ·rename_i c ho
  unfold lowCall at h
  split at h
  all_goals try (repeat' (split at h)) <;> first | (cases h; done) | (simp only [Option.map_eq_some_iff] at h; obtain ⟨_, _, h⟩ := h; cases h; done) | skip
end Go.Vi
