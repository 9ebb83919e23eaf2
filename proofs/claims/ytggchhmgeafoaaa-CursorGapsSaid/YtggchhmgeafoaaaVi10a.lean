import Derived.Test.YtggchhmgeafoaaaVi10
set_option linter.unusedVariables false
set_option linter.unusedSimpArgs false
set_option linter.unnecessarySimpa false
namespace Go.Vi
open Go Go.RowKit
def putR (rows : List (List D)) (p : Nat) (new : List (List D)) : List (List D) := rows.take p ++ new ++ rows.drop (p + new.length)
theorem putR_length {rows new : List (List D)} {p : Nat} (hp : p ≤ rows.length) : (putR rows p new).length = max rows.length (p + new.length) := by
 simp [putR]; omega
theorem putR_get {rows new : List (List D)} {p : Nat} (hp : p ≤ rows.length) {j : Nat} {r : List D} (h : (putR rows p new)[j]? = some r) :
  (j < p ∧ rows[j]? = some r) ∨ (p ≤ j ∧ j < p + new.length ∧ new[j - p]? = some r) ∨ (p + new.length ≤ j ∧ rows[j]? = some r) := by
 unfold putR at h
 rw [List.append_assoc] at h
 have ht : (rows.take p).length = p := by simp; omega
 by_cases h1 : j < p
 ·rw [List.getElem?_append_left (by omega), List.getElem?_take, if_pos h1] at h
  exact .inl ⟨h1, h⟩
 ·rw [List.getElem?_append_right (by omega), ht] at h
  by_cases h2 : j < p + new.length
  ·rw [List.getElem?_append_left (by omega)] at h
   exact .inr (.inl ⟨by omega, h2, h⟩)
  ·rw [List.getElem?_append_right (by omega), List.getElem?_drop, show p + new.length + (j - p - new.length) = j by omega] at h
   exact .inr (.inr ⟨by omega, h⟩)
theorem putR_mem {rows new : List (List D)} {p : Nat} {r : List D} (h : r ∈ putR rows p new) : r ∈ rows ∨ r ∈ new := by
 unfold putR at h
 rcases List.mem_append.1 h with h | h
 ·rcases List.mem_append.1 h with h | h
  ·exact .inl (List.mem_of_mem_take h)
  ·exact .inr h
 ·exact .inl (List.mem_of_mem_drop h)
section
variable {P : Program} {o : Oper} {k : LK} {C : Ctx} {a : Act} {ρ : LO → D} {K : D → List Ob → Prop}
theorem put_rows (hi : Inv C) {l : Nat} {ob : Ob} {b : Nat} (hob : C.σ[l]? = some ob) (hb : C.bs[l]? = some b) (hreal : ob.real = true) (hfz : ob.fz = false) {arr : Array Value} {e : TypeId} (harr : C.w.heap[b]? = some (.cells arr e (0, 0))) {q : Nat} (hq : arr.size = q * ob.sz)
  {p : Nat} {new : List (List D)} {news : List Value} {pu : Bool} (hp : p ≤ ob.rows.length) (hpm : p + new.length ≤ q) (hqm : q ≤ maxLen) (hnsz : ∀ r ∈ new, r.length = ob.sz) (hnl : news.length = new.length * ob.sz)
  (hncell : ∀ r ∈ new, ∀ d ∈ r, d.cell = true) (hnpure : pu = true → ∀ r ∈ new, ∀ d ∈ r, d.pt1 = true) (hnrow : ∀ (j i : Nat) r d, new[j]? = some r → r[i]? = some d → ∃ v, news[j * ob.sz + i]? = some v ∧ Rep C d v)
  (nl' : Bool) (hnl' : nl' = ob.nl ∨ ob.rows.length < p + new.length) (sp : Option Nat) (hsp : ∀ c, sp = some c → q = (putR ob.rows p new).length + c) {arr' : Array Value} (harr' : arr' = (arr.toList.take (p * ob.sz) ++ news ++ arr.toList.drop (p * ob.sz + news.length)).toArray) :
  Ext C ⟨C.F, C.σ.set l { ob with nl := nl', pure := ob.pure && pu, rows := putR ob.rows p new, spare := sp }, C.bs.set l b, C.w.setRow b arr'⟩ ∧
  Inv ⟨C.F, C.σ.set l { ob with nl := nl', pure := ob.pure && pu, rows := putR ob.rows p new, spare := sp }, C.bs.set l b, C.w.setRow b arr'⟩ ∧ (C.w.setRow b arr').heap[b]? = some (.cells arr' e (0, 0)) ∧ arr'.size = arr.size := by
 have hO := hi.ob l ob b hob hb
 obtain ⟨hF, arr0, e0, q0, g1, g2, g3, g4, g5, g6⟩ := hO.block hreal
 rw [harr] at g1; cases g1
 have hpos := hO.pos
 have hq0 : q = q0 := Nat.eq_of_mul_eq_mul_right hpos (hq.symm.trans g2)
 subst hq0
 have hfit : p * ob.sz + news.length ≤ arr.size := by rw [hnl, hq, ← Nat.add_mul]; exact Nat.mul_le_mul_right _ hpm
 obtain ⟨f1, f2, f3, f4, f5, f6⟩ := setRow_facts C.w b arr arr' e harr
 have hsz2 : arr'.size = arr.size := by rw [harr']; simp; omega
 have hlenr := putR_length (new := new) hp
 have hget : ∀ x, arr'[x]? = if x < p * ob.sz then arr[x]? else if x < p * ob.sz + news.length then news[x - p * ob.sz]? else arr[x]? := by
  intro x
  rw [harr']
  simp only [List.getElem?_toArray]
  rw [List.append_assoc]
  by_cases h1 : x < p * ob.sz
  ·rw [if_pos h1, List.getElem?_append_left (by simp; omega), List.getElem?_take, if_pos h1]; simp
  ·rw [if_neg h1, List.getElem?_append_right (by simp; omega), List.length_take, Nat.min_eq_left (by simp; omega)]
   by_cases h2 : x < p * ob.sz + news.length
   ·rw [if_pos h2, List.getElem?_append_left (by omega)]
   ·rw [if_neg h2, List.getElem?_append_right (by omega), List.getElem?_drop, show p * ob.sz + news.length + (x - p * ob.sz - news.length) = x by omega]; simp
 have hT := turnOb hi hob hb { ob with nl := nl', pure := ob.pure && pu, rows := putR ob.rows p new, spare := sp } b (w' := C.w.setRow b arr') ⟨f1, f2, f3⟩ f4 (fun k _ hkb => f5 k (hkb hreal)) hfz hfz rfl
  (fun r hr => (putR_mem hr).elim (hO.sz r) (hnsz r)) (fun r hr d hd => (putR_mem hr).elim (fun h => hO.one r h d hd) (fun h => hncell r h d hd)) (fun h => by rw [hreal] at h; cases h)
  (fun hpu r hr d hd => by
   simp only [Bool.and_eq_true] at hpu
   exact (putR_mem hr).elim (fun h => hO.pure hpu.1 r h d hd) (fun h => hnpure hpu.2 r h d hd))
  (by show _ ≤ (putR ob.rows p new).length; omega) (fun he => ⟨rfl, rfl, by
   rcases hnl' with h | h
   ·exact h
   ·rw [show ({ ob with nl := nl', pure := ob.pure && pu, rows := putR ob.rows p new, spare := sp } : Ob).rows.length = _ from hlenr] at he; omega⟩) (fun _ => .inl ⟨hreal, rfl⟩)
  (fun _ arr2 e2 h2 => by rw [harr] at h2; cases h2; exact ⟨arr', f6, hsz2⟩)
  (fun _ => ⟨arr', e, q, f6, by rw [hsz2]; exact hq, by show (putR ob.rows p new).length ≤ q; omega, hqm, hsp, fun j i r d hj hi' => by
   have hil : i < ob.sz := by
    have h1 := (List.getElem?_eq_some_iff.1 hi').1
    rcases putR_mem (List.mem_of_getElem? hj) with h | h
    ·rw [hO.sz r h] at h1; exact h1
    ·rw [hnsz r h] at h1; exact h1
   show ∃ v, arr'[j * ob.sz + i]? = some v ∧ Rep C d v
   rw [hget]
   rcases putR_get hp hj with ⟨h1, h2⟩ | ⟨h1, h2, h3⟩ | ⟨h1, h2⟩
   ·rw [if_pos (mul_bound h1 hil (Nat.le_refl _))]
    exact g6 j i r d h2 hi'
   ·obtain ⟨v, hv, hrep⟩ := hnrow _ i r d h3 hi'
    have e1 : j * ob.sz = (j - p) * ob.sz + p * ob.sz := by rw [← Nat.add_mul]; congr 1; omega
    have h4 : (j - p) * ob.sz + i < news.length := (List.getElem?_eq_some_iff.1 hv).1
    rw [if_neg (by omega), if_pos (by omega), show j * ob.sz + i - p * ob.sz = (j - p) * ob.sz + i by omega]
    exact ⟨v, hv, hrep⟩
   ·have e1 : (p + new.length) * ob.sz ≤ j * ob.sz := Nat.mul_le_mul_right _ h1
    rw [Nat.add_mul, ← hnl] at e1
    rw [if_neg (by omega), if_neg (by omega)]
    exact g6 j i r d h2 hi'⟩)
 exact ⟨hT.1, hT.2, f6, hsz2⟩
theorem grow_new {t u e ty : TypeId} {inf : TypeInfo} {z : Value} {xv : Value} {m : Nat} {news : List Value} {w : World} (hS : SrcR P t u xv inf e z m news w) (hzs : z.cells.size = inf.size) {A : Option Addr} {n cap : Nat} {olds : List Value}
  (hlo : olds.length = n * inf.size) (hA : A = none → n = 0) (holds : ∀ ad, A = some ad → ∀ (j : Nat) v, olds[j]? = some v → w.cell? (ad.add j) = some v) (hg : cap < n + m) (h63 : n + m ≤ 9223372036854775807) (hby : (n + m) * inf.bytes ≤ 140737488355328) :
  ∃ g cap' cur w', (Builtin.append_ #[t, u] ty #[.slice A n cap, xv]).run P w = .ok (.slice (some ⟨g, 0, none⟩) (n + m) cap') w' ∧ Below w.heap.size w w' ∧ w.heap.size ≤ g ∧ w'.heap[g]? = some (.cells cur e (0, 0)) ∧ n + m ≤ cap' ∧ cap' ≤ maxLen ∧
   cur.size = cap' * inf.size ∧ cur.toList.take ((n + m) * inf.size) = olds ++ news := by
 have hge := grownCap_ge w (n + m) cap e
 have hcm : grownCap w (n + m) cap e ≤ maxLen := grownCap_le_maxLen w (n + m) cap e (by simp only [maxLen]; omega)
 refine ⟨w.heap.size, grownCap w (n + m) cap e, _, _, hS.grow ty A n cap olds hlo hA holds hg h63 hby, ((Below.refl _ w).drew).alloc (Nat.le_refl _) _, Nat.le_refl _, heap_alloc_new w.drew _, hge, hcm, ?_, ?_⟩
 ·simp only [Array.size_append, List.size_toArray, size_zeroCells, hzs, hlo, hS.len, ← Nat.add_mul]
  congr 1
  omega
 ·have hlen : (olds ++ news).length = (n + m) * inf.size := by rw [List.length_append, hlo, hS.len, Nat.add_mul]
  simp only [Array.toList_append, List.append_assoc]
  rw [← List.append_assoc, ← hlen]
  exact List.take_left
end
section
variable {P : Program} {o : Oper} {k : LK} {C : Ctx} {a : Act} {ρ : LO → D} {K : D → List Ob → Prop}
theorem putR_end {rows new : List (List D)} : putR rows rows.length new = rows ++ new := by
 simp [putR]
theorem app_core {t u e ty : TypeId} {inf : TypeInfo} {z : Value} {sv xv : Value} {sD : D} {new : List (List D)} {pu : Bool} {news : List Value} (hzs : z.cells.size = inf.size) (hi : Inv C) (rs : Rep C sD sv)
  (hS : SrcR P t u xv inf e z new.length news C.w) (run : ∀ r w', (Builtin.append_ #[t, u] ty #[sv, xv]).run P C.w = .ok r w' → (execOp a.eval o).run P C.w = .ok (.value r) w')
  (hnrow : ∀ (j i : Nat) r d, new[j]? = some r → r[i]? = some d → ∃ v, news[j * inf.size + i]? = some v ∧ Rep C d v) (hnone : ∀ r ∈ new, ∀ d ∈ r, d.one = true) (hnpure : pu = true → ∀ r ∈ new, ∀ d ∈ r, d.pt1 = true)
  (h : appRun inf.size inf.bytes new pu sD C.σ K) : Done P o a C K := by
 obtain ⟨hnsz, hpos, h⟩ := h
 have hnl := hS.len
 have hncell : ∀ r ∈ new, ∀ d ∈ r, d.cell = true := fun r hr d hd => D.one_cell (hnone r hr d hd)
 have emp : new = [] → news = [] := fun e => by subst e; exact List.eq_nil_of_length_eq_zero (by simpa using hnl)
 split at h
 ·-- a slice without cells
  rename_i b
  obtain ⟨hby, h63, hk⟩ := h
  obtain ⟨A, cap, szs, hv, q1, q2, q3, q4, q5, q9, q6, q7⟩ := rep_list rs
  have hcap : cap = 0 := by simpa using q4 rfl
  subst hcap
  subst hv
  by_cases hne : new = []
  ·subst hne
   obtain ⟨hx', hi'⟩ := newOb hi (Below.refl _ C.w) ⟨false, b && true, pu, false, inf.size, [], none⟩ 0 rfl hpos (by simp) (by simp) (by simp) (by simp) (by simp)
   refine .mk (C' := ⟨C.F, C.σ ++ [⟨false, b && true, pu, false, inf.size, [], none⟩], C.bs ++ [0], C.w⟩) (v := .slice A 0 0) (run _ _ (hS.none rfl ty A 0 0 (Nat.le_refl _))) hx' hi' ?_ hk
   have hl := hi.len
   exact .own C.σ.length 0 0 0 inf.size none A 0 ⟨false, b && true, pu, false, inf.size, [], none⟩ 0 (by simp) (by rw [← hl]; simp) (by simp) (by simp) rfl (fun _ => rfl) (by simp) (fun _ h => by cases h) (fun _ _ => ⟨rfl, rfl, by simp [q1 b rfl]⟩)
  ·have hpos' := List.length_pos_iff.2 hne
   obtain ⟨g, cap', cur, w', hrun, hB, hgb, hgc, h2, h3, h4, h5⟩ := grow_new (ty := ty) hS hzs (A := A) (n := 0) (cap := 0) (olds := []) (by simp) (fun _ => rfl) (by simp) (by omega) (by omega) (by simpa using hby)
   have hemp : new.isEmpty = false := by simpa using hne
   simp only [Nat.zero_add] at hrun h2 h5
   have hrows := rows_append (C := C) (rows := []) (olds := []) (arr := cur) (by simp) hnsz (by simp) hnl (by simp) hnrow (by simpa using h5)
   obtain ⟨hx', hi'⟩ := newOb hi hB ⟨true, false, pu, false, inf.size, new, none⟩ g rfl hpos hnsz hncell (by simp) hnpure (fun _ => ⟨hgb, cur, e, cap', hgc, h4, h2, h3, by simp, by simpa using hrows⟩)
   refine .mk (C' := ⟨C.F, C.σ ++ [⟨true, false, pu, false, inf.size, new, none⟩], C.bs ++ [g], w'⟩) (v := .slice (some ⟨g, 0, none⟩) new.length cap') (run _ _ hrun) hx' hi' ?_ (by simpa [hemp] using hk)
   have hl := hi.len
   exact .own C.σ.length 0 new.length new.length inf.size none _ cap' ⟨true, false, pu, false, inf.size, new, none⟩ g (by simp) (by rw [← hl]; simp) (by simp) (by simp) rfl (by simp) h2
    (fun _ _ => ⟨⟨_, rfl, fun _ => by simp⟩, h2, h3, by simp, cur, e, hgc, by simp [h4], fun _ => by simp [h4]⟩) (fun _ h => by cases h)
 ·-- an object of the call's own
  rename_i l i k n zz cl
  obtain ⟨rfl, h⟩ := h
  split at h
  case h_2 => exact h.elim
  rename_i ob hob
  obtain ⟨hn, hby, h63, h⟩ := h
  obtain ⟨A, cap, ob', b, rfl, q1, q2, q3, q3', q4, q5, q5', q6, q7⟩ := rep_own rs
  rw [hob] at q1; cases q1
  have hO := hi.ob l ob b hob q2
  have hosz := q4
  obtain ⟨olds, hol, hoc, horow⟩ := own_cells hi rs hob hn
  rw [hosz] at hol horow
  have hwl := winD_length (i := i) (k := k) hn q3'
  have hwsz : ∀ r ∈ winD i k n ob.rows, r.length = inf.size := fun r hr => by rw [← hosz]; exact hO.sz r (winD_mem hr)
  have nothing : new = [] → K (.own l i k n inf.size cl) C.σ → Done P o a C K := fun e hk => by
   subst e
   exact .mk (C' := C) (v := .slice A k cap) (run _ _ (hS.none rfl ty A k cap q5')) (.refl C) hi rs hk
  have inplace : ∀ (nl' : Bool) (sp : Option Nat) (N : Nat) (cl' : Option Nat), new ≠ [] → ob.real = true → ob.fz = false → k + new.length ≤ cap → (nl' = ob.nl ∨ ob.rows.length < i + k + new.length) → N = max n (i + k + new.length) →
    (∀ c, sp = some c → ∀ q, (∃ arr e', C.w.heap[b]? = some (.cells arr e' (0, 0)) ∧ arr.size = q * ob.sz) → q = N + c) → (cl' = cl) →
    K (.own l i (k + new.length) N inf.size cl') (C.σ.set l { ob with nl := nl', pure := ob.pure && pu, rows := putR ob.rows (i + k) new, spare := sp }) → Done P o a C K := by
   intro nl' sp N cl' hne hreal hfz hroom hnl' hN hsp hcl hk
   subst hcl
   have hpos' := List.length_pos_iff.2 hne
   obtain ⟨⟨ad, rfl, r1⟩, r2, r3, r4, arr, e', r5, r6, r7⟩ := q6 hn hreal
   have had := r1 (by omega)
   subst had
   obtain ⟨hF, arr0, e0, q, g1, g2, g3, g4, g5, g6⟩ := hO.block hreal
   rw [r5] at g1; cases g1
   have hposO := hO.pos
   have hicq : i + cap ≤ q := by
    rw [g2] at r6
    exact Nat.le_of_mul_le_mul_right r6 hposO
   have hplen := putR_length (rows := ob.rows) (new := new) (p := i + k) (by omega)
   obtain ⟨x1, x2, x3, x4⟩ := put_rows hi hob q2 hreal hfz r5 g2 (p := i + k) (new := new) (news := news) (pu := pu) (by omega) (by omega) g4 (by rw [hosz]; exact hnsz) (by rw [hosz]; exact hnl) hncell hnpure (by rw [hosz]; exact hnrow)
    nl' hnl' sp (fun c hc => by rw [hplen, hsp c hc q ⟨arr, e', r5, g2⟩]; omega) rfl
   refine .mk (C' := ⟨C.F, C.σ.set l { ob with nl := nl', pure := ob.pure && pu, rows := putR ob.rows (i + k) new, spare := sp }, C.bs.set l b, _⟩) (v := .slice (some ⟨b, i * ob.sz, none⟩) (k + new.length) cap) (run _ _ ?_) x1 x2 ?_ hk
   ·rw [hS.room ty b (i * ob.sz) k cap arr e' hroom r5 (by
     rw [hnl, ← hosz, ← Nat.add_mul, ← Nat.add_mul]
     refine Nat.le_trans (Nat.mul_le_mul_right _ ?_) r6; omega)]
    rw [← hosz, ← Nat.add_mul]
   ·refine .own l i (k + new.length) N inf.size cl' _ cap { ob with nl := nl', pure := ob.pure && pu, rows := putR ob.rows (i + k) new, spare := sp } b (List.getElem?_set_self (List.getElem?_eq_some_iff.1 hob).1) (List.getElem?_set_self (List.getElem?_eq_some_iff.1 q2).1)
     (by show N ≤ (putR ob.rows (i + k) new).length; omega) (by omega) q4 (by simp) hroom (fun _ _ => ⟨⟨_, rfl, fun _ => rfl⟩, hroom, r3, r4, _, e', x3, by rw [x4]; exact r6, fun h => by rw [x4]; exact r7 h⟩) (fun _ h => by rw [show ({ ob with nl := nl', pure := ob.pure && pu, rows := putR ob.rows (i + k) new, spare := sp } : Ob).real = ob.real from rfl, hreal] at h; cases h)
  unfold appOwn at h
  split at h
  ·rename_i hc
   obtain ⟨rfl, rfl, rfl⟩ := hc
   obtain ⟨hfz, hk⟩ := h
   by_cases hne : new = []
   ·subst hne
    have e1 : ({ ob with real := ob.real || !([] : List (List D)).isEmpty, nl := ob.nl && ([] : List (List D)).isEmpty, pure := ob.pure && pu, rows := ob.rows ++ [], spare := none } : Ob) = { ob with pure := ob.pure && pu, spare := none } := by
     cases ob; simp
    rw [e1] at hk
    have hnb : C.bs.set l b = C.bs := set_same q2
    obtain ⟨hx', hi'⟩ := turnOb hi hob q2 { ob with pure := ob.pure && pu, spare := none } b (w' := C.w) ⟨rfl, rfl, rfl⟩ (Nat.le_refl _) (fun _ _ _ => rfl) hfz hfz rfl hO.sz hO.one hO.rows
     (fun hpu r hr d hd => by simp only [Bool.and_eq_true] at hpu; exact hO.pure hpu.1 r hr d hd) (Nat.le_refl _) (fun _ => ⟨rfl, rfl, rfl⟩) (fun hr => .inl ⟨hr, rfl⟩) (fun _ arr e h => ⟨arr, h, rfl⟩)
     (fun hr => by
      obtain ⟨hF, arr0, e0, q, g1, g2, g3, g4, g5, g6⟩ := hO.block hr
      exact ⟨arr0, e0, q, g1, g2, g3, g4, by simp, g6⟩)
    exact .mk (C' := ⟨C.F, C.σ.set l { ob with pure := ob.pure && pu, spare := none }, C.bs.set l b, C.w⟩) (v := .slice A k cap) (run _ _ (hS.none rfl ty A k cap q5')) hx' hi' (rs.ext hx') hk
   ·have hpos' := List.length_pos_iff.2 hne
    have hemp : new.isEmpty = false := by simpa using hne
    simp only [hemp, Bool.not_false, Bool.or_true, Bool.and_false] at hk
    have hwin : winD 0 k k ob.rows = ob.rows := by simp [winD]
    rw [hwin] at horow hwsz
    have hputR : putR ob.rows (0 + k) new = ob.rows ++ new := by rw [Nat.zero_add, ← hn]; exact putR_end
    by_cases hroom : ob.real = true ∧ k + new.length ≤ cap
    ·obtain ⟨hreal, hroom⟩ := hroom
     refine inplace false none (k + new.length) none hne hreal hfz hroom (.inr (by omega)) (by omega) (by simp) rfl ?_
     rw [hputR]
     have : ({ ob with real := true, nl := false, pure := ob.pure && pu, rows := ob.rows ++ new, spare := none } : Ob) = { ob with nl := false, pure := ob.pure && pu, rows := ob.rows ++ new, spare := none } := by rw [← hreal]
     rw [← this]; exact hk
    ·have hcap : cap < k + new.length := by
      by_cases hreal : ob.real = true
      ·exact Nat.lt_of_not_le fun h => hroom ⟨hreal, h⟩
      ·have := (q7 hn (by simpa using hreal)).2.1; omega
     obtain ⟨g, cap', cur, w', hrun, hB, hgb, hgc, h2, h3, h4, h5⟩ := grow_new (ty := ty) hS hzs hol q5 hoc hcap h63 hby
     have hrows := rows_append (C := C) (rows := ob.rows) (olds := olds) (arr := cur) hwsz hnsz (by rw [hn]; exact hol) hnl horow hnrow (by rw [hn]; exact h5)
     have hsz' : ∀ r, r ∈ ob.rows ++ new → r.length = ob.sz := fun r hr' => by
      rw [q4]
      exact (List.mem_append.1 hr').elim (hwsz r) (hnsz r)
     have hlenr : (ob.rows ++ new).length = k + new.length := by simp [hn]
     obtain ⟨hx', hi'⟩ := turnOb hi hob q2 { ob with real := true, nl := false, pure := ob.pure && pu, rows := ob.rows ++ new, spare := none } g (w' := w') ⟨hB.os, hB.tape, hB.output⟩ hB.size (fun k hk _ => hB.block k hk) hfz hfz rfl hsz'
      (fun r hr d hd => (List.mem_append.1 hr).elim (fun h => hO.one r h d hd) (fun h => hncell r h d hd)) (by simp)
      (fun hpu r hr d hd => by
       simp only [Bool.and_eq_true] at hpu
       exact (List.mem_append.1 hr).elim (fun h => hO.pure hpu.1 r h d hd) (fun h => hnpure hpu.2 r h d hd)) (by simp)
      (fun he => by simp at he; exact absurd he hne) (fun _ => .inr hgb)
      (fun hreal arr e' harr => ⟨arr, by rw [hB.block b (hi.lt hob q2 hreal)]; exact harr, rfl⟩)
      (fun _ => ⟨cur, e, cap', hgc, by rw [q4]; exact h4, by rw [hlenr]; exact h2, h3, by simp, by rw [q4]; exact hrows⟩)
     refine .mk (C' := ⟨C.F, C.σ.set l { ob with real := true, nl := false, pure := ob.pure && pu, rows := ob.rows ++ new, spare := none }, C.bs.set l g, w'⟩) (v := .slice (some ⟨g, 0, none⟩) (k + new.length) cap') (run _ _ hrun) hx' hi' ?_ hk
     exact .own l 0 (k + new.length) (k + new.length) inf.size none _ cap' { ob with real := true, nl := false, pure := ob.pure && pu, rows := ob.rows ++ new, spare := none } g (List.getElem?_set_self (List.getElem?_eq_some_iff.1 hob).1) (List.getElem?_set_self (List.getElem?_eq_some_iff.1 q2).1)
      (by rw [hlenr]; exact Nat.le_refl _) (by omega) q4 (by simp) h2 (fun _ _ => ⟨⟨_, rfl, fun _ => by simp⟩, h2, h3, by simp, cur, e, hgc, by simp [h4, q4], fun _ => by simp [h4, q4]⟩) (fun _ h => by cases h)
  ·rename_i hnacc
   rcases h with ⟨hfz, hfit, hcl, hk⟩ | ⟨hne, hk⟩ | ⟨hfz, hreal, hcl, hlt, ⟨c, hc, hle⟩, hk⟩ | ⟨hpos', hreal, hfull, hall, hk⟩
   ·-- in the midst of its rows
    by_cases hne : new = []
    ·subst hne
     obtain ⟨hx', hi'⟩ := turnOb hi hob q2 { ob with pure := ob.pure && pu, rows := ob.rows.take (i + k) ++ [] ++ ob.rows.drop (i + k + 0) } b (w' := C.w) ⟨rfl, rfl, rfl⟩ (Nat.le_refl _) (fun _ _ _ => rfl) hfz hfz rfl (by simpa using hO.sz) (by simpa using hO.one) (by simpa using hO.rows)
      (fun hpu r hr d hd => by simp only [Bool.and_eq_true] at hpu; exact hO.pure hpu.1 r (by simpa using hr) d hd) (by simp) (fun _ => ⟨rfl, rfl, rfl⟩) (fun hr => .inl ⟨hr, rfl⟩) (fun _ arr e h => ⟨arr, h, rfl⟩)
      (fun hr => by
       obtain ⟨hF, arr0, e0, q, g1, g2, g3, g4, g5, g6⟩ := hO.block hr
       exact ⟨arr0, e0, q, g1, g2, by simpa using g3, g4, by simpa using g5, by simpa using g6⟩)
     exact .mk (C' := ⟨C.F, C.σ.set l _, C.bs.set l b, C.w⟩) (v := .slice A k cap) (run _ _ (hS.none rfl ty A k cap q5')) hx' hi' (rs.ext hx') hk
    ·have hpos' := List.length_pos_iff.2 hne
     have hreal : ob.real = true := by
      rcases Bool.eq_false_or_eq_true ob.real with h | h
      ·exact h
      ·have := hO.rows h; rw [this] at hn; simp at hn; omega
     obtain ⟨_, r2, r3, r4, arr, e', r5, r6, r7⟩ := q6 hn hreal
     obtain ⟨hF, arr0, e0, q, g1, g2, g3, g4, g5, g6⟩ := hO.block hreal
     rw [r5] at g1; cases g1
     have hroom : k + new.length ≤ cap := by
      cases cl with
      | none =>
       have := r7 rfl
       rw [g2] at this
       have := Nat.eq_of_mul_eq_mul_right hO.pos this
       omega
      | some m => have := hcl m rfl; have := r4 m rfl; omega
     refine inplace ob.nl ob.spare n cl hne hreal hfz hroom (.inl rfl) (by omega) (fun c hc q' hq' => ?_) rfl (by unfold putR; exact hk)
     obtain ⟨arr1, e1, w1, w2⟩ := hq'
     rw [r5] at w1; cases w1
     have e2 := Nat.eq_of_mul_eq_mul_right hO.pos (w2.symm.trans g2)
     rw [e2, g5 c hc, hn]
   ·exact nothing hne hk
   ·-- behind its rows
    have hne : new ≠ [] := by rintro rfl; simp at hlt; omega
    obtain ⟨_, r2, r3, r4, arr, e', r5, r6, r7⟩ := q6 hn hreal
    obtain ⟨hF, arr0, e0, q, g1, g2, g3, g4, g5, g6⟩ := hO.block hreal
    rw [r5] at g1; cases g1
    have hicq : i + cap = q := by
     have := r7 hcl
     rw [g2] at this
     exact (Nat.eq_of_mul_eq_mul_right hO.pos this).symm
    have hqc := g5 c hc
    have hdrop : putR ob.rows (i + k) new = ob.rows.take (i + k) ++ new := by
     unfold putR
     rw [List.drop_of_length_le (by omega), List.append_nil]
    refine inplace ob.nl (some (n + c - (i + k + new.length))) (i + k + new.length) cl hne hreal hfz (by omega) (.inl rfl) (by omega) (fun c' hc' q' hq' => ?_) rfl (by rw [hdrop, hcl]; rw [hc] at hk; exact hk)
    cases hc'
    obtain ⟨arr1, e1, w1, w2⟩ := hq'
    rw [r5] at w1; cases w1
    have e2 := Nat.eq_of_mul_eq_mul_right hO.pos (w2.symm.trans g2)
    omega
   ·-- into a new block
    have hne : new ≠ [] := List.length_pos_iff.1 hpos'
    obtain ⟨_, r2, r3, r4, arr, e', r5, r6, r7⟩ := q6 hn hreal
    obtain ⟨hF, arr0, e0, q, g1, g2, g3, g4, g5, g6⟩ := hO.block hreal
    rw [r5] at g1; cases g1
    have hcap : cap < k + new.length := by
     rcases hfull with ⟨m, hm, hlt⟩ | ⟨hcl, c, hc, hlt⟩
     ·have := r4 m hm; omega
     ·have hicq : i + cap = q := by
       have := r7 hcl
       rw [g2] at this
       exact (Nat.eq_of_mul_eq_mul_right hO.pos this).symm
      have := g5 c hc
      omega
    obtain ⟨g, cap', cur, w', hrun, hB, hgb, hgc, h2, h3, h4, h5⟩ := grow_new (ty := ty) hS hzs hol q5 hoc hcap h63 hby
    have hrows := rows_append (C := C) (rows := winD i k n ob.rows) (olds := olds) (arr := cur) hwsz hnsz (by rw [hwl]; exact hol) hnl horow hnrow (by rw [hwl]; exact h5)
    have hlenr : (winD i k n ob.rows ++ new).length = k + new.length := by simp [hwl]
    obtain ⟨hx', hi'⟩ := newOb hi hB ⟨true, false, ob.pure && pu, false, inf.size, winD i k n ob.rows ++ new, none⟩ g rfl hpos (fun r hr => (List.mem_append.1 hr).elim (hwsz r) (hnsz r))
     (fun r hr d hd => (List.mem_append.1 hr).elim (fun h => hO.one r (winD_mem h) d hd) (fun h => hncell r h d hd)) (by simp)
     (fun hpu r hr d hd => by
       simp only [Bool.and_eq_true] at hpu
       exact (List.mem_append.1 hr).elim (fun h => hO.pure hpu.1 r (winD_mem h) d hd) (fun h => hnpure hpu.2 r h d hd))
     (fun _ => ⟨hgb, cur, e, cap', hgc, h4, by rw [hlenr]; exact h2, h3, by simp, hrows⟩)
    refine .mk (C' := ⟨C.F, C.σ ++ [⟨true, false, ob.pure && pu, false, inf.size, winD i k n ob.rows ++ new, none⟩], C.bs ++ [g], w'⟩) (v := .slice (some ⟨g, 0, none⟩) (k + new.length) cap') (run _ _ hrun) hx' hi' ?_ hk
    have hl := hi.len
    exact .own C.σ.length 0 (k + new.length) (k + new.length) inf.size none _ cap' ⟨true, false, ob.pure && pu, false, inf.size, winD i k n ob.rows ++ new, none⟩ g (by simp) (by rw [← hl]; simp) (by rw [hlenr]; exact Nat.le_refl _) (by omega) rfl (by simp) h2
     (fun _ _ => ⟨⟨_, rfl, fun _ => by simp⟩, h2, h3, by simp, cur, e, hgc, by simp [h4], fun _ => by simp [h4]⟩) (fun _ h => by cases h)
 ·exact h.elim
end
end Go.Vi
