import Derived.Test.YtggchhmgeafoaaaVi10b
import Derived.Laws.Externs
set_option linter.unusedVariables false
set_option linter.unusedSimpArgs false
set_option linter.unnecessarySimpa false
namespace Go.Vi
open Go Go.RowKit
def ovlF (P : Program) (fn : Func) : Bool :=
 fn.body.isNone && (fn.origin == "slices.overlaps" && (!(fn.name == "runtime.NumGoroutine") && ((Extern.findNext fn).isNone && ((Extern.allGenericRows.lookup fn.name).isNone && ((Extern.allTypedRows.lookup fn.name).isNone && ((Extern.allRows.lookup fn.name).isNone &&
 match fn.params.toList with
 | [t, t'] => t == t' && match P.underlying t with
  | some (.slice e) => (P.info? e).isSome
  | _ => false
 | _ => false))))))
def ovlB (P : Program) (f : Operand) : Bool := match f with
 | .func f => match P.funcs[f]? with
  | some fn => ovlF P fn
  | none => false
 | _ => false
theorem ovl_generic : Extern.allGenericRows.lookup "slices.overlaps" = none := by kernel_rfl
theorem ovl_typed : Extern.allTypedRows.lookup "slices.overlaps" = some Extern.SlicesOverlaps.overlaps := by kernel_rfl
theorem overlaps_eq (t : TypeId) (tR : Array TypeId) (a b : Option Addr) (la ca lb cb : Nat) : Extern.SlicesOverlaps.overlaps #[t, t] tR #[.slice a la ca, .slice b lb cb] = (do
  let some t := (#[t, t] : Array TypeId)[0]? | stuck "slices.overlaps: no parameter types"
  let .slice elem ← underlying t | stuck "slices.overlaps: slice type expected"
  let size ← sizeOf elem
  match a, b with
  | some a, some b =>
   if la = 0 ∨ lb = 0 ∨ size = 0 then pure (Value.bool false)
   else if a.block != b.block && (← frozen a) && (← frozen b) then unsupported .addressObserved
   else do
    if a.block != b.block then do
     noView a; noView b
     if ← mayBeOne a b then return Value.bool ((← choose (.extern "sameAddr.stringBytes" 2)) == 1)
    pure (Value.bool (a.block == b.block && a.off < b.off + lb * size && b.off < a.off + la * size))
  | _, _ => pure (Value.bool false)) := rfl
theorem run_overlaps_none {P : Program} (w : World) (t e : TypeId) (tR : Array TypeId) (ht : P.underlying t = some (.slice e)) (size : Nat) (hz : ∀ w, (Go.sizeOf e).run P w = .ok size w) (a b : Option Addr) (la ca lb cb : Nat) (h0 : la = 0 ∨ lb = 0) :
  (Extern.SlicesOverlaps.overlaps #[t, t] tR #[.slice a la ca, .slice b lb cb]).run P w = .ok (.bool false) w := by
 rw [overlaps_eq]
 cases a with
 | none => simp [run_underlying ht, hz]
 | some a => cases b with
  | none => simp [run_underlying ht, hz]
  | some b =>
   have h0' : la = 0 ∨ lb = 0 ∨ size = 0 := by rcases h0 with h | h <;> simp [h]
   simp [run_underlying ht, hz, h0']
theorem run_overlaps_apart2 {P : Program} (w : World) (t e : TypeId) (tR : Array TypeId) (ht : P.underlying t = some (.slice e)) (size : Nat) (hz : ∀ w, (Go.sizeOf e).run P w = .ok size w)
  (a b : Addr) (la ca lb cb : Nat) (hne : a.block ≠ b.block) (tA tB : TypeId) (kA kB : Nat)
  (hsa : w.shape? a.block = some (tA, kA)) (hsb : w.shape? b.block = some (tB, kB)) (hkB : kB ≠ 0) (hkA : kA ≠ 0)
  (hfb : w.frozen? b = false) (hfe : w.frozen? { block := b.block, off := kB } = false) :
  (Extern.SlicesOverlaps.overlaps #[t, t] tR #[.slice (some a) la ca, .slice (some b) lb cb]).run P w = .ok (.bool false) w := by
 have hnb : (a.block != b.block) = true := by simpa using hne
 have hnb' : (a.block == b.block) = false := by simpa using hne
 rw [overlaps_eq]
 by_cases h0 : la = 0 ∨ lb = 0 ∨ size = 0
 ·simp [run_underlying ht, hz, h0]
 ·obtain ⟨kA, rfl⟩ : ∃ m, kA = m + 1 := ⟨kA - 1, by omega⟩
  obtain ⟨kB, rfl⟩ : ∃ m, kB = m + 1 := ⟨kB - 1, by omega⟩
  simp [run_underlying ht, hz, h0, hnb, hnb', frozen, noView, viewAt, mayBeOne, stringish, shape, Sem.run, hsa, hsb, hfb, hfe]
section
variable {P : Program} {o : Oper} {k : LK} {C : Ctx} {a : Act} {ρ : LO → D} {K : D → List Ob → Prop}
theorem sound_ovl {c : Call} {x y : Operand} {f : Operand} {lx ly : LO} (ho : o.op = .call c) (hc : c.callee = .value f) (hargs : c.args.toList = [x, y]) (hf : ovlB P f = true) (hx : loOf x = some lx) (hy : loOf y = some ly) : Sound P o (.ovl lx ly) := by
 intro dr C a ρ K hi hp hr h
 have rx := hr.at hp hx (mem_args ho hargs (by simp))
 have ry := hr.at hp hy (mem_args ho hargs (by simp))
 unfold ovlB at hf
 split at hf
 case h_2 => cases hf
 rename_i fid
 split at hf
 case h_2 => cases hf
 rename_i fn hfn
 unfold ovlF at hf
 simp only [Bool.and_eq_true] at hf
 obtain ⟨f1, f2, f3, f4, f5, f6, f7, hf⟩ := hf
 split at hf
 case h_2 => cases hf
 rename_i t t' hts
 simp only [Bool.and_eq_true, beq_iff_eq] at hf
 obtain ⟨rfl, hf⟩ := hf
 split at hf
 case h_2 => cases hf
 rename_i e hu
 obtain ⟨inf, hinf⟩ := Option.isSome_iff_exists.1 hf
 have hpar : fn.params = #[t, t] := by apply Array.ext'; simpa using hts
 have hfind : Extern.find fn = some (Extern.SlicesOverlaps.overlaps fn.params fn.resultTypes) := by
  have e1 : fn.origin = "slices.overlaps" := by simpa using f2
  have g5 : Extern.allGenericRows.lookup fn.name = none := by simpa using f5
  have g6 : Extern.allTypedRows.lookup fn.name = none := by simpa using f6
  have g7 : Extern.allRows.lookup fn.name = none := by simpa using f7
  simp only [Extern.find, g5, g6, g7, e1, ovl_generic, ovl_typed]
  rfl
 have run : ∀ r, ((Extern.SlicesOverlaps.overlaps #[t, t] fn.resultTypes #[a.eval x, a.eval y]).run P C.w = .ok r C.w) → (execOp a.eval o).run P C.w = .ok (.value r) C.w := fun r h => by
  have hcall := run_callFunc_extern (P := P) hfn (by simpa using f3) f1 (by simpa using f4) hfind #[a.eval x, a.eval y] C.w
  rw [hpar, h] at hcall
  have e1 : #[] ++ Array.map a.eval c.args ++ #[] = #[a.eval x, a.eval y] := by
   apply Array.ext'; simp [hargs]
  have hv : a.eval (.func fid) = .func (.func fid) #[] #[] := rfl
  simp only [execOp, ho, resolve, hc, hv, Deferred.ofValue, invoke, Sem.run_bind, Sem.run_pure, Result.andThen_ok, e1, hcall]
 have hz : ∀ w, (Go.sizeOf e).run P w = .ok inf.size w := run_sizeOf' hinf
 obtain ⟨tR, hR⟩ : ∃ tR : Array TypeId, fn.resultTypes = tR := ⟨_, rfl⟩
 simp only [LK.run] at h
 obtain ⟨_, h⟩ := h
 split at h
 case h_2 => exact h.elim
 rename_i nl tg rows l i k n z cl hρx hρy
 obtain ⟨⟨hz0, hrows⟩, h⟩ := h
 split at h
 case h_2 => exact h.elim
 rename_i ob' hob
 obtain ⟨hn, hreal, hfz, h⟩ := h
 rw [hρx] at rx
 rw [hρy] at ry
 obtain ⟨A, cap, ob, b, hvy, q1, q2, q3, q3', q4, q5, q5', q6, q7⟩ := rep_own ry
 rw [q1] at hob
 obtain rfl : ob = ob' := by simpa using hob
 obtain ⟨⟨ad, hA, hAd⟩, _, _, _, arr, e', r5, r6, _⟩ := q6 hn hreal
 refine .here hi (run (.bool false) ?_) (.pure (.bool _)) h
 rw [hR]
 generalize hvx : a.eval x = vx at rx
 cases rx with
 | pure rx => cases rx with
  | list _ _ _ A' cap' sz vf h1 h2 h3 h4 h5 h9 h6 h7 h8 =>
   by_cases h0 : rows.length = 0 ∨ k = 0
   ·rw [hvy]; exact run_overlaps_none _ _ _ _ hu _ hz _ _ _ _ _ _ h0
   ·cases rows with
    | nil => simp at h0
    | cons r rows =>
     have hr1 := hrows r (by simp)
     cases r with
     | nil => exact absurd rfl hr1
     | cons d r =>
      obtain ⟨ad', rfl, hcell⟩ := h7 0 0 (d :: r) d rfl rfl
      obtain ⟨g1, g2, g3⟩ := h6 ad' rfl (by simp)
      have hb : ad'.block ≠ b := fun hb => g3 ⟨l, ob, q1, hreal, hfz, by rw [hb]; exact q2⟩
      have hk0 : k ≠ 0 := fun h => h0 (.inr h)
      have hcap : cap ≠ 0 := by omega
      have hAd' := hAd hcap
      subst hA
      subst hAd'
      have hshb : C.w.shape? b = some (e', arr.size) := by simp only [World.shape?, r5]
      have hpos : arr.size ≠ 0 := by
       have : 1 * 1 ≤ (i + cap) * ob.sz := Nat.mul_le_mul (by omega) (by omega)
       omega
      have hsha : ∃ tA kA, kA ≠ 0 ∧ C.w.shape? ad'.block = some (tA, kA) := by
       have hcell' : C.w.cell? (ad'.add 0) = some (vf 0 0) := by simpa using hcell
       simp only [World.cell?, World.shape?] at hcell' ⊢
       have hbb : (ad'.add 0).block = ad'.block := by unfold Addr.add; split <;> rfl
       rw [hbb] at hcell'
       split at hcell'
       ·rename_i c tt q hh
        split at hcell'
        ·cases hcell'
        ·refine ⟨tt, c.size, fun h0 => ?_, rfl⟩
         have : c = #[] := Array.eq_empty_of_size_eq_zero h0
         subst this
         simp at hcell'
       ·cases hcell'
      obtain ⟨tA, kA, hkA, hsha⟩ := hsha
      rw [hvy]
      exact run_overlaps_apart2 _ _ _ _ hu _ hz _ _ _ _ _ _ hb _ _ _ _ hsha hshb hpos hkA (by simp [World.frozen?, r5]) (by simp [World.frozen?, r5])
end
end Go.Vi
