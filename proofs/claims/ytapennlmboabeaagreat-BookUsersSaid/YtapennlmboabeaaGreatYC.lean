import Derived.Test.YtapennlmboabeaaGreatYB
import Derived.Test.YtapennlmboabeaaGreatYA
import Derived.Test.YtapennlmboabeaaGreatVi33
import Derived.Test.YtapennlmboabeaaGreatVi24
set_option linter.unusedVariables false
set_option linter.unusedSimpArgs false
set_option linter.unnecessarySimpa false
namespace Go.Proofs.YtapennlmboabeaaGreat
open Go Go.Vi
theorem pw_step {α : Type} {R : α → α → Prop} (tr : ∀ a b c, R a b → R b c → R a c) {l : List α} {i : Nat} {x y : α} (h : (l.take (i + 1)).Pairwise R) (hx : l[i]? = some x) (hy : l[i + 1]? = some y) (hxy : R x y) : (l.take (i + 1 + 1)).Pairwise R := by
 have e1 : l.take (i + 1 + 1) = l.take (i + 1) ++ [y] := by rw [List.take_add_one (i := i + 1), hy]; rfl
 have e2 : l.take (i + 1) = l.take i ++ [x] := by rw [List.take_add_one, hx]; rfl
 rw [e1, List.pairwise_append]
 refine ⟨h, by simp, fun a ha b hb => ?_⟩
 simp at hb; subst hb
 rw [e2] at ha h
 rcases List.mem_append.1 ha with h' | h'
 ·exact tr _ _ _ ((List.pairwise_append.1 h).2.2 a h' x (by simp)) hxy
 ·simp at h'; subst h'; exact hxy
theorem pw_no {α : Type} {R : α → α → Prop} {l : List α} {i : Nat} {x y : α} (hx : l[i]? = some x) (hy : l[i + 1]? = some y) (hxy : ¬ R x y) : ¬ l.Pairwise R := fun h => by
 obtain ⟨h1, rfl⟩ := List.getElem?_eq_some_iff.1 hx
 obtain ⟨h2, rfl⟩ := List.getElem?_eq_some_iff.1 hy
 exact hxy (List.pairwise_iff_getElem.1 h i (i + 1) h1 h2 (Nat.lt_succ_self i))
theorem all_step {α : Type} {f : α → Bool} {l : List α} {i : Nat} {x : α} (h : (l.take i).all f = true) (hx : l[i]? = some x) (hf : f x = true) : (l.take (i + 1)).all f = true := by
 rw [List.take_add_one, hx]
 simp only [List.all_append, h, Option.toList_some, List.all_cons, hf, List.all_nil, Bool.and_self]
theorem all_no {α : Type} {f : α → Bool} {l : List α} {i : Nat} {x : α} (hx : l[i]? = some x) (hf : f x = false) : l.all f = false := by
 rw [List.all_eq_false]
 exact ⟨x, List.mem_of_getElem? hx, by simp [hf]⟩
def stampB (n : Int) : Bool := decide (0 ≤ n ∧ n < 158310720)
def risB (l : List Int) : Bool := decide (l.Pairwise fun a b => a < b)
def rowB (l : List Int) : Bool := (l.all stampB && risB l) && decide (l.length ≤ 50)
def chB1 (c : Int × Int × Int) : Bool := stampB c.2.1 && decide (0 ≤ c.2.2 ∧ c.2.2 ≤ 10080)
def chB (l : List (Int × Int × Int)) : Bool := l.all chB1 && rowB (l.map fun c => c.1)
end Go.Proofs.YtapennlmboabeaaGreat

namespace Go.Proofs.YtapennlmboabeaaGreat
open Go Go.Vi
def ltD (a b : Int × Int) : Prop := a.1 < b.1 ∨ a.1 = b.1 ∧ a.2 < b.2
instance (a b : Int × Int) : Decidable (ltD a b) := inferInstanceAs (Decidable (_ ∨ _))
def risD (l : List (Int × Int)) : Bool := decide (l.Pairwise ltD)
def numB (most : Int) (below : Bool) (n : Int) : Bool := decide (n ≠ 0 ∧ n ≤ most ∧ -most ≤ n) && (below || decide (0 ≤ n))
def rrowB (most : Int) (below : Bool) (l : List Int) : Bool := l.all (numB most below) && risB l
def nthB (r : Ru) : Bool := decide (r.freq = 3 ∨ r.freq = 4 ∧ 0 < r.bm.length)
def dayB (nth : Bool) (d : Int × Int) : Bool := decide (0 ≤ d.2 ∧ d.2 ≤ 6 ∧ -5 ≤ d.1 ∧ d.1 ≤ 5) && (nth || decide (d.1 = 0))
def daysB (r : Ru) : Bool := r.bd.all (dayB (nthB r)) && risD r.bd
def endsB (r : Ru) : Bool := decide (0 ≤ r.count ∧ r.count ≤ 5000) && decide (r.til = -1 ∨ 0 ≤ r.til ∧ r.til < 158310720 ∧ r.count = 0)
def mayR (r : Ru) : Bool := decide (1 ≤ r.freq ∧ r.freq ≤ 4 ∧ 1 ≤ r.interval ∧ r.interval ≤ 999) && (endsB r && (rrowB 12 false r.bm && (rrowB 31 true r.bmd && (decide (r.freq ≠ 2 ∨ r.bmd.length = 0) && (daysB r && (rrowB 366 true r.bsp && decide ((0 < r.bm.length + r.bmd.length + r.bd.length ∨ r.bsp.length = 0) ∧ 0 ≤ r.start ∧ r.start ≤ 6)))))))
end Go.Proofs.YtapennlmboabeaaGreat

namespace Go.Proofs.YtapennlmboabeaaGreat
open Go Go.Vi
def zRu : Ru := ⟨0, 0, 0, 0, [], [], [], [], 0⟩
def mayE (e : Ev) : Bool := stampB e.start && (decide (1 ≤ e.long ∧ e.long ≤ 10080) && if e.again then !e.world && (mayR e.rule && (rowB e.ex && (rowB e.plus && chB e.ch))) else decide (e.rule = zRu) && decide (e.ex.length + e.plus.length + e.ch.length = 0))
end Go.Proofs.YtapennlmboabeaaGreat

namespace Go.Proofs.YtapennlmboabeaaGreat
open Go Go.Vi
def putEv (l : List En) (id : Int) (e : Ev) : List En := (l.filter fun x => decide (x.id < id)) ++ ⟨id, e⟩ :: l.filter fun x => decide (id < x.id)
theorem set_rep (u' : Us) : ∀ (l : List Us) (k : Nat) (u : Us), (l.Pairwise fun a b => a.id < b.id) → l[k]? = some u → u'.id = u.id → l.set k u' = l.map (rep u')
 | [], k, u, _, h, _ => by simp at h
 | x :: l, 0, u, hs, h, hid => by
  obtain ⟨h1, h2⟩ := List.pairwise_cons.1 hs
  simp at h; subst h
  rw [List.set_cons_zero, List.map_cons, map_rep_none u' l fun y hy => by have := h1 y hy; omega]
  simp [rep, hid]
 | x :: l, k + 1, u, hs, h, hid => by
  obtain ⟨h1, h2⟩ := List.pairwise_cons.1 hs
  have hm : l[k]? = some u := by simpa using h
  have := h1 u (List.mem_of_getElem? hm)
  have hx : ¬ x.id = u'.id := by omega
  rw [List.set_cons_succ, List.map_cons, set_rep u' l k u h2 hm hid]
  simp [rep, hx]
theorem exYGU : type_of% (an @row1_len (an @row2_len (an @row3_len (an @rowsE_len (an @rowsU_len (an @rowsP_len @rowsD_len)))))) := (an @row1_len (an @row2_len (an @row3_len (an @rowsE_len (an @rowsU_len (an @rowsP_len @rowsD_len))))))
theorem with_1 (t : Int) (us : List Us) (ps : List Po) (ds : List Dn) (k : Nat) (u : Us) (hk : k < us.length) (hl : us.length ≤ 400000000000) : PureD Tryz.prog 32 [St t us ps ds, .int .i64 k, .bool true, .agg u.row] (St t (us.set k u) ps ds) := by
 refine pureV Tryz.func32 low32 (by simp [c32]) ?_
 have hune : rowsU us ≠ [] := by
  cases us with
  | nil => simp at hk
  | cons => simp [rowsU]
 have cu := clU_ne false (rowsU us) hune (sz_rows us) (by rw [rowsU_len]; omega)
 rw [rowsU_len] at cu
 obtain ⟨x, hx⟩ : ∃ x, us[k]? = some x := ⟨_, List.getElem?_eq_getElem hk⟩
 have hr := rowsU_get hx
 have hs : (rowsU us).set k u.row = rowsU (us.set k u) := by simp [rowsU, List.map_set]
 simp only [c32, St, Us.row] at hs ⊢
 have hie : (rowsU us).isEmpty = false := by simpa using hune
 exact wk0 [40] [] (an exYGU (an hr (an hs (an hie @Us.row.eq_1))))
end Go.Proofs.YtapennlmboabeaaGreat

namespace Go.Proofs.YtapennlmboabeaaGreat
open Go Go.Vi
def findE (l : List En) (id : Int) : Option En := l.find? fun x => x.id == id
def putU (u : Us) (id : Int) (e : Ev) : Us := { u with ver := IntKind.u64.wrap (u.ver + 1), evs := putEv u.evs id e }
theorem u_at {us : List Us} {user : Int} {u : Us} (hs : us.Pairwise fun a b => a.id < b.id) (h : findU us user = some u) : us[lowB Us.id us user]? = some u ∧ isAtB Us.id us (lowB Us.id us user) user = true ∧ lowB Us.id us user < us.length ∧ u.id = user := by
 have hf := findB_low Us.id us user hs
 have hff : findU us user = us.find? fun u => u.id == user := rfl
 rw [← hff, h] at hf
 by_cases hat : isAtB Us.id us (lowB Us.id us user) user = true
 ·rw [if_pos hat] at hf
  exact ⟨hf.symm, hat, (List.getElem?_eq_some_iff.1 hf.symm).1, (findU_some h).2⟩
 ·rw [if_neg hat] at hf
  cases hf
theorem u_no {us : List Us} {user : Int} (hs : us.Pairwise fun a b => a.id < b.id) (h : findU us user = none) : isAtB Us.id us (lowB Us.id us user) user = false := by
 have hf := findB_low Us.id us user hs
 have hff : findU us user = us.find? fun u => u.id == user := rfl
 rw [← hff, h] at hf
 by_cases hat : isAtB Us.id us (lowB Us.id us user) user = true
 ·rw [if_pos hat] at hf
  obtain ⟨u, hu, _⟩ := isAt_some hat
  rw [hu] at hf
  cases hf
 ·simpa using hat
section
variable (t : Int) (us : List Us) (ps : List Po) (ds : List Dn) (user id : Int) (e : Ev) (u : Us)
end
end Go.Proofs.YtapennlmboabeaaGreat

namespace Go.Proofs.YtapennlmboabeaaGreat
open Go Go.Vi
def Wel (us : List Us) (n : Nat) : Prop := us.length ≤ 1000000 ∧ (us.Pairwise fun a b => a.id < b.id) ∧ ∀ u ∈ us, u.fit ∧ (u.evs.Pairwise fun a b => a.id < b.id) ∧ u.evs.length ≤ n
def putF (us : List Us) (user id : Int) (e : Ev) : List Us × Int × Int := match findU us user with
 | none => (us, 0, 4)
 | some u => if id = 0 ∨ mayE e = false then (us, 0, 2) else if (findE u.evs id).isSome = false ∧ 64 ≤ u.evs.length then (us, 0, 6) else (us.map (rep (putU u id e)), IntKind.u64.wrap (u.ver + 1), 0)
theorem filt_len {α : Type} (p q : α → Bool) (h : ∀ x, p x = true → q x = false) : ∀ l : List α, (l.filter p).length + (l.filter q).length ≤ l.length
 | [] => by simp
 | x :: l => by
  have ih := filt_len p q h l
  have hx := h x
  by_cases hp : p x = true
  ·have hq := hx hp
   simp [List.filter_cons, hp, hq]; omega
  ·by_cases hq : q x = true
   ·simp [List.filter_cons, hp, hq]; omega
   ·simp [List.filter_cons, hp, hq]; omega
theorem putEv_len (l : List En) (id : Int) (e : Ev) : (putEv l id e).length ≤ l.length + 1 := by
 have := filt_len (fun x : En => decide (x.id < id)) (fun x => decide (id < x.id)) (fun x => by simp; omega) l
 unfold putEv
 simp only [List.length_append, List.length_cons]
 omega
theorem putEv_mem {l : List En} {id : Int} {e : Ev} {x : En} (h : x ∈ putEv l id e) : x ∈ l ∨ x = ⟨id, e⟩ := by
 unfold putEv at h
 simp only [List.mem_append, List.mem_filter, List.mem_cons] at h
 rcases h with h | h | h
 ·exact .inl h.1
 ·exact .inr h
 ·exact .inl h.1
theorem putEv_sorted {l : List En} (id : Int) (e : Ev) (hs : l.Pairwise fun a b => a.id < b.id) : (putEv l id e).Pairwise fun a b => a.id < b.id := by
 unfold putEv
 rw [List.pairwise_append]
 refine ⟨hs.filter _, List.pairwise_cons.2 ⟨fun x hx => ?_, hs.filter _⟩, fun x hx y hy => ?_⟩
 ·simpa using (List.mem_filter.1 hx).2
 ·have h1 : x.id < id := by simpa using (List.mem_filter.1 hx).2
  rcases List.mem_cons.1 hy with rfl | hy
  ·exact h1
  ·have h2 : id < y.id := by simpa using (List.mem_filter.1 hy).2
   omega
theorem putU_fit {u : Us} {id : Int} {e : Ev} (hu : u.fit) (hl : u.evs.length ≤ 1000000) (he : e.fits) : (putU u id e).fit := by
 obtain ⟨h1, h2, h3⟩ := hu
 refine ⟨h1, ?_, fun x hx => ?_⟩
 ·have := putEv_len u.evs id e
  show (putEv u.evs id e).length ≤ _
  omega
 ·rcases putEv_mem (show x ∈ putEv u.evs id e from hx) with h | h
  ·exact h3 x h
  ·rw [h]; exact he
theorem rep_mem {us : List Us} {u' x : Us} (h : x ∈ us.map (rep u')) : x = u' ∨ x ∈ us := by
 obtain ⟨y, hy, rfl⟩ := List.mem_map.1 h
 unfold rep
 split
 ·exact .inl rfl
 ·exact .inr hy
theorem rep_sorted {us : List Us} (u' : Us) (hs : us.Pairwise fun a b => a.id < b.id) : (us.map (rep u')).Pairwise fun a b => a.id < b.id := by
 rw [List.pairwise_map]
 exact hs.imp fun h => by rw [rep_id, rep_id]; exact h
theorem Wel.rep {us : List Us} {n m : Nat} {u' : Us} (hw : Wel us n) (hm : n ≤ m) (h1 : u'.fit) (h2 : u'.evs.Pairwise fun a b => a.id < b.id) (h3 : u'.evs.length ≤ m) : Wel (us.map (YtapennlmboabeaaGreat.rep u')) m := by
 obtain ⟨w1, w2, w3⟩ := hw
 refine ⟨by simpa using w1, rep_sorted u' w2, fun x hx => ?_⟩
 rcases rep_mem hx with rfl | hx
 ·exact ⟨h1, h2, h3⟩
 ·obtain ⟨a, b, c⟩ := w3 x hx
  exact ⟨a, b, by omega⟩
theorem Wel.put {us : List Us} {n : Nat} (user id : Int) {e : Ev} (hw : Wel us n) (hn : n ≤ 999999) (he : e.fits) : Wel (putF us user id e).1 (n + 1) := by
 have hw0 := hw
 obtain ⟨w1, w2, w3⟩ := hw
 have hw' : Wel us (n + 1) := ⟨w1, w2, fun u hu => ⟨(w3 u hu).1, (w3 u hu).2.1, by have := (w3 u hu).2.2; omega⟩⟩
 unfold putF
 cases hu : findU us user with
 | none => exact hw'
 | some u =>
  obtain ⟨h0, h1, h2⟩ := w3 u (findU_some hu).1
  dsimp only
  split
  ·exact hw'
  ·split
   ·exact hw'
   ·refine hw0.rep (by omega) (putU_fit h0 (by omega) he) (putEv_sorted id e h1) ?_
    have := putEv_len u.evs id e
    show (putEv u.evs id e).length ≤ _
    omega
end Go.Proofs.YtapennlmboabeaaGreat
