import Derived.Test.YtoleaiaeghbffaaCMC
import Derived.Test.YtoleaiaeghbffaaVi25
set_option linter.unusedVariables false
set_option linter.unusedSimpArgs false
set_option linter.unnecessarySimpa false
namespace Go.Proofs.Ytoleaiaeghbffaa
open Go Go.Vi


theorem low_take {α : Type} (f : α → Int) (id : Int) : ∀ l : List α, (l.Pairwise fun a b => f a < f b) → l.take (lowB f l id) = l.filter fun x => decide (f x < id)
 | [], _ => by simp [lowB]
 | x :: l, hs => by
  obtain ⟨h1, h2⟩ := List.pairwise_cons.1 hs
  unfold lowB
  split
  ·rename_i h
   rw [List.take_succ_cons, low_take f id l h2]; simp [h]
  ·rename_i h
   rw [List.take_zero, eq_comm, List.filter_eq_nil_iff]
   intro y hy
   rcases List.mem_cons.1 hy with rfl | hy
   ·simpa using h
   ·have := h1 y hy; simp; omega
theorem low_no {α : Type} (f : α → Int) (id : Int) : ∀ l : List α, (l.Pairwise fun a b => f a < f b) → isAtB f l (lowB f l id) id = false → l.drop (lowB f l id) = l.filter fun x => decide (id < f x)
 | [], _, _ => by simp
 | x :: l, hs, ha => by
  obtain ⟨h1, h2⟩ := List.pairwise_cons.1 hs
  unfold lowB at ha ⊢
  split
  ·rename_i h
   rw [if_pos h] at ha
   have ha' : isAtB f l (lowB f l id) id = false := by simpa [isAtB] using ha
   rw [List.drop_succ_cons, low_no f id l h2 ha']
   have : ¬ id < f x := by omega
   simp [this]
  ·rename_i h
   rw [if_neg h] at ha
   have ha' : ¬ f x = id := by simpa [isAtB] using ha
   rw [List.drop_zero, eq_comm, List.filter_eq_self]
   intro y hy
   rcases List.mem_cons.1 hy with rfl | hy
   ·simp; omega
   ·have := h1 y hy; simp; omega
theorem low_at {α : Type} (f : α → Int) (id : Int) : ∀ l : List α, (l.Pairwise fun a b => f a < f b) → isAtB f l (lowB f l id) id = true → ∃ x, f x = id ∧ l[lowB f l id]? = some x ∧ l.drop (lowB f l id + 1) = l.filter fun x => decide (id < f x)
 | [], _, ha => by simp [isAtB] at ha
 | x :: l, hs, ha => by
  obtain ⟨h1, h2⟩ := List.pairwise_cons.1 hs
  unfold lowB at ha ⊢
  split
  ·rename_i h
   rw [if_pos h] at ha
   have ha' : isAtB f l (lowB f l id) id = true := by simpa [isAtB] using ha
   obtain ⟨y, hy1, hy2, hy3⟩ := low_at f id l h2 ha'
   refine ⟨y, hy1, by simpa using hy2, ?_⟩
   rw [List.drop_succ_cons, hy3]
   have : ¬ id < f x := by omega
   simp [this]
  ·rename_i h
   rw [if_neg h] at ha
   have ha' : f x = id := by simpa [isAtB] using ha
   refine ⟨x, ha', by simp, ?_⟩
   have : ¬ id < f x := by omega
   rw [List.drop_succ_cons, List.drop_zero, List.filter_cons_of_neg (by simp; omega), eq_comm, List.filter_eq_self]
   intro y hy
   have := h1 y hy; simp; omega
/-- An event put among others. -/
def putEv (l : List En) (id : Int) (e : Ev) : List En := (l.filter fun x => decide (x.id < id)) ++ ⟨id, e⟩ :: l.filter fun x => decide (id < x.id)
def delEv (l : List En) (id : Int) : List En := (l.filter fun x => decide (x.id < id)) ++ l.filter fun x => decide (id < x.id)
theorem set_put {l : List En} {id : Int} (e : Ev) (hs : l.Pairwise fun a b => a.id < b.id) (ha : isAtB En.id l (lowB En.id l id) id = true) : l.set (lowB En.id l id) ⟨id, e⟩ = putEv l id e := by
 obtain ⟨x, h1, h2, h3⟩ := low_at En.id id l hs ha
 have ht := low_take En.id id l hs
 have hlt := (List.getElem?_eq_some_iff.1 h2).1
 unfold putEv
 rw [← ht, ← h3, List.set_eq_take_append_cons_drop, if_pos hlt]
theorem ins_put {l : List En} {id : Int} (e : Ev) (hs : l.Pairwise fun a b => a.id < b.id) (ha : isAtB En.id l (lowB En.id l id) id = false) : l.take (lowB En.id l id) ++ ⟨id, e⟩ :: l.drop (lowB En.id l id) = putEv l id e := by
 unfold putEv
 rw [← low_take En.id id l hs, ← low_no En.id id l hs ha]
theorem del_put {l : List En} {id : Int} (hs : l.Pairwise fun a b => a.id < b.id) (ha : isAtB En.id l (lowB En.id l id) id = true) : l.take (lowB En.id l id) ++ l.drop (lowB En.id l id + 1) = delEv l id := by
 obtain ⟨x, h1, h2, h3⟩ := low_at En.id id l hs ha
 unfold delEv
 rw [← low_take En.id id l hs, ← h3]
theorem set_rep (u' : Us) : ∀ (l : List Us) (k : Nat) (u : Us), (l.Pairwise fun a b => a.id < b.id) → l[k]? = some u → u'.id = u.id → l.set k u' = l.map (rep u')
 | [], k, u, _, h, _ => by simp at h
 | x :: l, 0, u, hs, h, hid => by
  obtain ⟨h1, h2⟩ := List.pairwise_cons.1 hs
  simp at h; subst h
  rw [List.set_cons_zero, List.map_cons, map_rep_none u' l fun y hy => by have := h1 y hy; omega]
  simp [rep, hid]
 | x :: l, k + 1, u, hs, h, hid => by
  obtain ⟨h1, h2⟩ := List.pairwise_cons.1 hs
  have hm : l[k]? = some u := by simpa using h
  have := h1 u (List.mem_of_getElem? hm)
  have hx : ¬ x.id = u'.id := by omega
  rw [List.set_cons_succ, List.map_cons, set_rep u' l k u h2 hm hid]
  simp [rep, hx]
theorem with_1 (t : Int) (us : List Us) (ps : List Po) (ds : List Dn) (k : Nat) (u : Us) (hk : k < us.length) (hl : us.length ≤ 400000000000) : PureD Try.prog 46 [St t us ps ds, .int .i64 k, .bool true, .agg u.row] (St t (us.set k u) ps ds) := by
 refine pureV Try.func46 low46 (by simp [c46]) ?_
 have hune : rowsU us ≠ [] := by
  cases us with
  | nil => simp at hk
  | cons => simp [rowsU]
 have cu := clU_ne false (rowsU us) hune (sz_rows us) (by rw [rowsU_len]; omega)
 rw [rowsU_len] at cu
 obtain ⟨x, hx⟩ : ∃ x, us[k]? = some x := ⟨_, List.getElem?_eq_getElem hk⟩
 have hr := rowsU_get hx
 have hs : (rowsU us).set k u.row = rowsU (us.set k u) := by simp [rowsU, List.map_set]
 simp only [c46, St, Us.row] at hs ⊢
 have hie : (rowsU us).isEmpty = false := by simpa using hune
 repeat' ((first | apply Run_seq | apply Run_ret | apply Run_nil | apply Run_condK | apply Run_ops mixed | with_reducible refine PostV_open ?_ | with_reducible refine ro_callA (f := .c (.fn 48 [])) ?_ | with_reducible refine ro_callA' (f := .c (.fn 48 [])) ?_ | with_reducible refine ro_callV ?_ | with_reducible refine CallE_use (cu) (by simp) ?_ | (refine CondK_split ?_ ?_ <;> intro hc <;> (try simp only [hc]) <;> try simp at hc) | (with_reducible refine And.intro ?_ ?_; (focus ((repeat' (with_reducible refine And.intro ?_ ?_)) <;> first | exact trivial | assumption | (simp; done) | (simp only [List.length_map] at *; omega) | omega | (simp [D.cells, D.ok, D.one, D.pt, D.pt1]; done)))) | (with_reducible intro x hx) | omega) <;> (try simp only [rowsU_len, hr, hs, hie, Us.row, Nat.reduceBEq, argEnv, reduceIte, Nat.reduceAdd, Nat.reduceLeDiff, reduceCtorEq, faddrD, loadD, splice, D.cells, D.ok, D.one, D.pt1, D.pt0, D.norm1, ne_eq, view, view2, view1, view0, mapO, pull, pull2, pull1, pull0, pullσ, Go.Vi.freeze, capt, reachL, merge, mset, renOb, fr, D.ren, ofRes, fw]))
end Go.Proofs.Ytoleaiaeghbffaa

namespace Go.Proofs.Ytoleaiaeghbffaa
open Go Go.Vi


def findE (l : List En) (id : Int) : Option En := l.find? fun x => x.id == id
def putU (u : Us) (id : Int) (e : Ev) : Us := { u with ver := IntKind.u64.wrap (u.ver + 1), evs := putEv u.evs id e }
def delU (u : Us) (id : Int) : Us := { u with ver := IntKind.u64.wrap (u.ver + 1), evs := delEv u.evs id }
theorem szE_rows (l : List En) : ∀ r ∈ rowsE l, r.length = 17 := by simp [rowsE, En.row]
theorem ptE_rows (l : List En) : ((rowsE l).all fun r => r.all D.pt1) = true := by simp [rowsE, En.row, D.pt1]
theorem rowsE_nil : rowsE [] = [] := rfl
theorem u_at {us : List Us} {user : Int} {u : Us} (hs : us.Pairwise fun a b => a.id < b.id) (h : findU us user = some u) : us[lowB Us.id us user]? = some u ∧ isAtB Us.id us (lowB Us.id us user) user = true ∧ lowB Us.id us user < us.length ∧ u.id = user := by
 have hf := findB_low Us.id us user hs
 have hff : findU us user = us.find? fun u => u.id == user := rfl
 rw [← hff, h] at hf
 by_cases hat : isAtB Us.id us (lowB Us.id us user) user = true
 ·rw [if_pos hat] at hf
  exact ⟨hf.symm, hat, (List.getElem?_eq_some_iff.1 hf.symm).1, (findU_some h).2⟩
 ·rw [if_neg hat] at hf
  cases hf
theorem u_no {us : List Us} {user : Int} (hs : us.Pairwise fun a b => a.id < b.id) (h : findU us user = none) : isAtB Us.id us (lowB Us.id us user) user = false := by
 have hf := findB_low Us.id us user hs
 have hff : findU us user = us.find? fun u => u.id == user := rfl
 rw [← hff, h] at hf
 by_cases hat : isAtB Us.id us (lowB Us.id us user) user = true
 ·rw [if_pos hat] at hf
  obtain ⟨u, hu, _⟩ := isAt_some hat
  rw [hu] at hf
  cases hf
 ·simpa using hat
theorem findE_at {l : List En} {id : Int} (hs : l.Pairwise fun a b => a.id < b.id) : (findE l id).isSome = isAtB En.id l (lowB En.id l id) id := by
 have hf := findB_low En.id l id hs
 have hff : findE l id = l.find? fun u => u.id == id := rfl
 rw [← hff] at hf
 rw [hf]
 by_cases hat : isAtB En.id l (lowB En.id l id) id = true
 ·rw [if_pos hat, hat]
  unfold isAtB at hat
  split at hat
  ·rename_i hx; rw [hx]; rfl
  ·cases hat
 ·rw [if_neg hat]; simpa using hat
section
variable (t : Int) (us : List Us) (ps : List Po) (ds : List Dn) (user id : Int) (e : Ev) (u : Us)
theorem pe_none (hl : us.length ≤ 400000000000) (hs : us.Pairwise fun a b => a.id < b.id) (hu : findU us user = none) :
  PureD Try.prog 25 [St t us ps ds, .int .u32 user, .int .u32 id, .agg e.cells] (.tup [St t us ps ds, .int .u64 0, .int .i64 4]) := by
 have pl := placeU_p t us ps ds user (by omega) hs
 rw [u_no hs hu] at pl
 refine pureV Try.func25 low25 (by simp [c25]) ?_
 simp only [c25, St, Ev.cells] at pl ⊢
 repeat' ((first | apply Run_seq | apply Run_skip | apply Run_block | apply Run_blk | refine Run_exit rfl ?_ | apply Run_ret | apply Run_nil | apply Run_condK | apply Run_ops mixed | apply Run_opsX mixed | with_reducible refine PostV_open ?_ | with_reducible refine ro_callV ?_ | with_reducible refine ro_callVX ?_ | refine CallV_pure (pl) ?_ ?_ | simp (disch := omega) only [w64, wu64, wu32, wu16, wu8, Int.tdiv_eq_ediv_of_nonneg, Int.tmod_eq_emod_of_nonneg] | ((first | refine GuardK_split ?_ ?_ | refine CondK_split ?_ ?_) <;> intro hc <;> (try simp only [hc]) <;> try simp at hc) | (with_reducible refine And.intro ?_ ?_; (focus ((repeat' (with_reducible refine And.intro ?_ ?_)) <;> first | exact trivial | assumption | (simp; done) | (simp only [List.length_map] at *; omega) | omega | (simp [D.cells, D.ok, D.one, D.pt, D.pt1]; done)))) | (with_reducible intro x hx) | omega) <;> (try simp only [Nat.reduceBEq, argEnv, reduceIte, Nat.reduceAdd, reduceCtorEq, okD, unD, extD, loadD, splice, D.cells, D.ok, D.one, D.pt, D.pt1, D.pt0, D.norm1, ne_eq, view, view2, view1, view0, mapO, D.sc, D.sc1, D.sc2, ofRes, fw]))
theorem pe_arg (hl : us.length ≤ 400000000000) (hs : us.Pairwise fun a b => a.id < b.id) (hu : findU us user = some u) (hle : u.evs.length ≤ 140737488351232) (hse : u.evs.Pairwise fun a b => a.id < b.id)
  (he : e.fits) (hc : e.ch.length ≤ 14073748835123) (h : id = 0 ∨ mayE e = false) :
  PureD Try.prog 25 [St t us ps ds, .int .u32 user, .int .u32 id, .agg e.cells] (.tup [St t us ps ds, .int .u64 0, .int .i64 2]) := by
 obtain ⟨h1, h2, h3, h4⟩ := u_at hs hu
 have pl := placeU_p t us ps ds user (by omega) hs
 rw [h2] at pl
 have en := entry_p u id hle hse
 have hr := rowsU_get h1
 have me := mayE_p e he hc
 generalize lowB Us.id us user = k at pl hr h3
 generalize isAtB En.id u.evs (lowB En.id u.evs id) id = x at en
 refine pureV Try.func25 low25 (by simp [c25]) ?_
 simp only [c25, St, Ev.cells, Us.row] at pl en me ⊢
 by_cases hi : id = 0
 ·have c1 : (id == 0) = true := by simpa using hi
  repeat' ((first | apply Run_seq | apply Run_skip | apply Run_block | apply Run_blk | refine Run_exit rfl ?_ | apply Run_ret | apply Run_nil | apply Run_condK | apply Run_ops mixed | apply Run_opsX mixed | with_reducible refine PostV_open ?_ | with_reducible refine ro_callV ?_ | with_reducible refine ro_callVX ?_ | refine CallV_pure (pl) ?_ ?_ | refine CallV_pure (en) ?_ ?_ | simp (disch := omega) only [w64, wu64, wu32, wu16, wu8, Int.tdiv_eq_ediv_of_nonneg, Int.tmod_eq_emod_of_nonneg] | ((first | refine GuardK_split ?_ ?_ | refine CondK_split ?_ ?_) <;> intro hc <;> (try simp only [hc]) <;> try simp at hc) | (with_reducible refine And.intro ?_ ?_; (focus ((repeat' (with_reducible refine And.intro ?_ ?_)) <;> first | exact trivial | assumption | (simp; done) | (simp only [List.length_map] at *; omega) | omega | (simp [D.cells, D.ok, D.one, D.pt, D.pt1]; done)))) | (with_reducible intro x hx) | omega) <;> (try simp only [rowsU_len, c1, hr, Us.row, Nat.reduceBEq, argEnv, reduceIte, Nat.reduceAdd, reduceCtorEq, binD, binInt, okD, unD, pickD, faddrD, extD, loadD, splice, D.cells, D.ok, D.one, D.pt, D.pt1, D.pt0, D.norm1, cond_true, ne_eq, view, view2, view1, view0, mapO, D.sc, D.sc1, D.sc2, ofRes, fw]))
 ·have c1 : (id == 0) = false := by simpa using hi
  rw [show mayE e = false from h.resolve_left hi] at me
  repeat' ((first | apply Run_seq | apply Run_skip | apply Run_block | apply Run_blk | refine Run_exit rfl ?_ | apply Run_ret | apply Run_nil | apply Run_condK | apply Run_ops mixed | apply Run_opsX mixed | with_reducible refine PostV_open ?_ | with_reducible refine ro_callV ?_ | with_reducible refine ro_callVX ?_ | refine CallV_pure (pl) ?_ ?_ | refine CallV_pure (en) ?_ ?_ | refine CallV_pure (me) ?_ ?_ | simp (disch := omega) only [w64, wu64, wu32, wu16, wu8, Int.tdiv_eq_ediv_of_nonneg, Int.tmod_eq_emod_of_nonneg] | ((first | refine GuardK_split ?_ ?_ | refine CondK_split ?_ ?_) <;> intro hc <;> (try simp only [hc]) <;> try simp at hc) | (with_reducible refine And.intro ?_ ?_; (focus ((repeat' (with_reducible refine And.intro ?_ ?_)) <;> first | exact trivial | assumption | (simp; done) | (simp only [List.length_map] at *; omega) | omega | (simp [D.cells, D.ok, D.one, D.pt, D.pt1]; done)))) | (with_reducible intro x hx) | omega) <;> (try simp only [rowsU_len, c1, hr, Us.row, Nat.reduceBEq, argEnv, reduceIte, Nat.reduceAdd, reduceCtorEq, binD, binInt, okD, unD, pickD, faddrD, extD, loadD, splice, D.cells, D.ok, D.one, D.pt, D.pt1, D.pt0, D.norm1, cond_false, ne_eq, view, view2, view1, view0, mapO, D.sc, D.sc1, D.sc2, ofRes, fw]))
theorem pe_quota (hl : us.length ≤ 400000000000) (hs : us.Pairwise fun a b => a.id < b.id) (hu : findU us user = some u) (hle : u.evs.length ≤ 140737488351232) (hse : u.evs.Pairwise fun a b => a.id < b.id)
  (he : e.fits) (hc : e.ch.length ≤ 14073748835123) (hi : id ≠ 0) (hm : mayE e = true) (hn : findE u.evs id = none) (hq : 64 ≤ u.evs.length) :
  PureD Try.prog 25 [St t us ps ds, .int .u32 user, .int .u32 id, .agg e.cells] (.tup [St t us ps ds, .int .u64 0, .int .i64 6]) := by
 obtain ⟨h1, h2, h3, h4⟩ := u_at hs hu
 have pl := placeU_p t us ps ds user (by omega) hs
 rw [h2] at pl
 have en := entry_p u id hle hse
 have hfe := findE_at (id := id) hse
 rw [hn] at hfe
 rw [← hfe] at en
 have hr := rowsU_get h1
 have me := mayE_p e he hc
 rw [hm] at me
 generalize lowB Us.id us user = k at pl hr h3
 have c1 : (id == 0) = false := by simpa using hi
 have c2 : ((u.evs.length : Int) ≥ 64) = True := by simp; omega
 refine pureV Try.func25 low25 (by simp [c25]) ?_
 simp only [c25, St, Ev.cells, Us.row, Option.isSome_none] at pl en me ⊢
 repeat' ((first | apply Run_seq | apply Run_skip | apply Run_block | apply Run_blk | refine Run_exit rfl ?_ | apply Run_ret | apply Run_nil | apply Run_condK | apply Run_ops mixed | apply Run_opsX mixed | with_reducible refine PostV_open ?_ | with_reducible refine ro_callV ?_ | with_reducible refine ro_callVX ?_ | refine CallV_pure (pl) ?_ ?_ | refine CallV_pure (en) ?_ ?_ | refine CallV_pure (me) ?_ ?_ | simp (disch := omega) only [w64, wu64, wu32, wu16, wu8, Int.tdiv_eq_ediv_of_nonneg, Int.tmod_eq_emod_of_nonneg] | ((first | refine GuardK_split ?_ ?_ | refine CondK_split ?_ ?_) <;> intro hc <;> (try simp only [hc]) <;> try simp at hc) | (with_reducible refine And.intro ?_ ?_; (focus ((repeat' (with_reducible refine And.intro ?_ ?_)) <;> first | exact trivial | assumption | (simp; done) | (simp only [List.length_map] at *; omega) | omega | (simp [D.cells, D.ok, D.one, D.pt, D.pt1]; done)))) | (with_reducible intro x hx) | omega) <;> (try simp only [rowsE_len, rowsU_len, c1, c2, hr, Us.row, Nat.reduceBEq, argEnv, reduceIte, Nat.reduceAdd, reduceCtorEq, binD, binInt, okD, unD, pickD, faddrD, extD, lenD, loadD, splice, D.cells, D.ok, D.one, D.pt, D.pt1, D.pt0, D.norm1, cond_true, cond_false, ne_eq, view, view2, view1, view0, mapO, D.sc, D.sc1, D.sc2, ofRes, fw]))
set_option maxHeartbeats 4000000 in
theorem pe_ok (hl : us.length ≤ 400000000000) (hs : us.Pairwise fun a b => a.id < b.id) (hu : findU us user = some u) (hle : u.evs.length ≤ 400000000000) (hse : u.evs.Pairwise fun a b => a.id < b.id)
  (he : e.fits) (hc : e.ch.length ≤ 14073748835123) (hi : id ≠ 0) (hm : mayE e = true) (hq : (findE u.evs id).isSome = true ∨ u.evs.length < 64) :
  PureD Try.prog 25 [St t us ps ds, .int .u32 user, .int .u32 id, .agg e.cells] (.tup [St t (us.map (rep (putU u id e))) ps ds, .int .u64 (IntKind.u64.wrap (u.ver + 1)), .int .i64 0]) := by
 obtain ⟨h1, h2, h3, h4⟩ := u_at hs hu
 have pl := placeU_p t us ps ds user (by omega) hs
 rw [h2] at pl
 have en := entry_p u id (by omega) hse
 have hfe := findE_at (id := id) hse
 have hr := rowsU_get h1
 have me := mayE_p e he hc
 rw [hm] at me
 have w1 := with_1 t us ps ds (lowB Us.id us user) (putU u id e) h3 hl
 rw [set_rep (putU u id e) us _ u hs h1 rfl] at w1
 generalize us.map (rep (putU u id e)) = us' at w1 ⊢
 generalize lowB Us.id us user = k at pl hr h3 w1
 have c1 : (id == 0) = false := by simpa using hi
 refine pureV Try.func25 low25 (by simp [c25]) ?_
 simp only [c25, St, Ev.cells, Us.row, putU] at pl en me w1 ⊢
 cases hat : isAtB En.id u.evs (lowB En.id u.evs id) id with
 | true =>
  have sp := set_put e hse hat
  rw [hat] at en
  obtain ⟨x, hx, hxi⟩ : ∃ x, u.evs[lowB En.id u.evs id]? = some x ∧ x.id = id := by
   obtain ⟨x, q1, q2, _⟩ := low_at En.id id u.evs hse hat
   exact ⟨x, q2, q1⟩
  have hlt := (List.getElem?_eq_some_iff.1 hx).1
  rw [← sp] at w1
  generalize lowB En.id u.evs id = j at en w1 hx hlt
  have hrx := rowsE_get hx
  have hne : rowsE u.evs ≠ [] := by
   cases hh : u.evs with
   | nil => rw [hh] at hlt; simp at hlt
   | cons => simp [rowsE]
  have ce := clE_ne false (rowsE u.evs) hne (szE_rows u.evs) (by rw [rowsE_len]; omega)
  rw [rowsE_len] at ce
  have hie : (rowsE u.evs).isEmpty = false := by simpa using hne
  have hse2 : (rowsE u.evs).set j (En.row ⟨id, e⟩) = rowsE (u.evs.set j ⟨id, e⟩) := by simp [rowsE, List.map_set]
  rw [← hxi] at hse2
  simp only [En.row] at hse2
  rw [← hxi] at w1
  have w2 := w1.toG rfl rfl
  repeat' ((first | apply Run_seq | apply Run_skip | apply Run_block | apply Run_blk | refine Run_exit rfl ?_ | apply Run_ret | apply Run_nil | apply Run_condK | apply Run_ops mixed | apply Run_opsX mixed | with_reducible refine PostV_open ?_ | with_reducible refine ro_callA (f := .c (.fn 54 [])) ?_ | with_reducible refine ro_callA' (f := .c (.fn 54 [])) ?_ | with_reducible refine ro_callE (f := .c (.fn 46 [])) (z := [4]) (q := []) ?_ | with_reducible refine ro_callE' (f := .c (.fn 46 [])) (z := [4]) (q := []) ?_ | with_reducible refine ro_callV ?_ | with_reducible refine ro_callVX ?_ | refine CallV_pure (pl) ?_ ?_ | refine CallV_pure (en) ?_ ?_ | refine CallV_pure (me) ?_ ?_ | with_reducible refine CallE_use (ce) (by simp) ?_ | with_reducible refine CallE_use (w2) (by simp) ?_ | simp (disch := omega) only [w64, wu64, wu32, wu16, wu8, Int.tdiv_eq_ediv_of_nonneg, Int.tmod_eq_emod_of_nonneg] | ((first | refine GuardK_split ?_ ?_ | refine CondK_split ?_ ?_) <;> intro hc <;> (try simp only [hc]) <;> try simp at hc) | (with_reducible refine And.intro ?_ ?_; (focus ((repeat' (with_reducible refine And.intro ?_ ?_)) <;> first | exact trivial | assumption | (simp; done) | (simp only [List.length_map] at *; omega) | omega | (simp [D.cells, D.ok, D.one, D.pt, D.pt1]; done)))) | (with_reducible intro x hx) | omega) <;> (try simp only [rowsE_len, rowsU_len, c1, hr, hrx, hie, hse2, Us.row, En.row, D.names, Nat.reduceBEq, argEnv, reduceIte, Nat.reduceAdd, Nat.reduceLeDiff, reduceCtorEq, binD, binInt, okD, unD, pickD, faddrD, extD, loadD, splice, D.cells, D.ok, D.one, D.pt, D.pt1, D.pt0, D.norm1, cond_false, ne_eq, view, view2, view1, view0, mapO, D.sc, D.sc1, D.sc2, pull, pull2, pull1, pull0, gate, pullσ, Go.Vi.freeze, Go.Vi.freeze1, capt, reachL, merge, mset, renOb, fr, D.ren, D.renL, ofRes, fw]))
 | false =>
  have sp := ins_put e hse hat
  rw [hat] at en hfe
  have hq' : u.evs.length < 64 := by
   rcases hq with h | h
   ·rw [hfe] at h; cases h
   ·exact h
  have c2 : ((u.evs.length : Int) ≥ 64) = False := by simp; omega
  rw [← sp] at w1
  have hjl := lowB_le En.id u.evs id
  generalize lowB En.id u.evs id = j at en w1 hjl
  cases hev : u.evs with
  | nil =>
   have hj : j = 0 := by rw [hev] at hjl; simpa using hjl
   subst hj
   have hev' : rowsE u.evs = [] := by rw [hev]; rfl
   have ie := inE_any (En.row ⟨id, e⟩) rfl true (some false)
   rw [hev] at w1
   rw [hev'] at en
   simp only [rowsE, List.map_nil, List.take_nil, List.drop_nil, List.nil_append, List.map_cons, En.row] at w1 ie
   have w2 := w1.toG rfl rfl
   have c3 : (((0 : Nat) : Int) ≥ 64) = False := by simp
   have c4 : ((0 : Int) ≥ 64) = False := by simp
   repeat' ((first | apply Run_seq | apply Run_skip | apply Run_block | apply Run_blk | refine Run_exit rfl ?_ | apply Run_ret | apply Run_nil | apply Run_condK | apply Run_ops mixed | apply Run_opsX mixed | with_reducible refine PostV_open ?_ | with_reducible refine ro_callA (f := .c (.fn 54 [])) ?_ | with_reducible refine ro_callA' (f := .c (.fn 54 [])) ?_ | with_reducible refine ro_callA (f := .c (.fn 55 [])) ?_ | with_reducible refine ro_callA' (f := .c (.fn 55 [])) ?_ | with_reducible refine ro_callE (f := .c (.fn 46 [])) (z := [4]) (q := []) ?_ | with_reducible refine ro_callE' (f := .c (.fn 46 [])) (z := [4]) (q := []) ?_ | with_reducible refine ro_callV ?_ | with_reducible refine ro_callVX ?_ | refine CallV_pure (pl) ?_ ?_ | refine CallV_pure (en) ?_ ?_ | refine CallV_pure (me) ?_ ?_ | with_reducible refine CallE_use (clE_any _) (by simp) ?_ | with_reducible refine CallE_use (ie) (by simp) ?_ | with_reducible refine CallE_use (w2) (by simp) ?_ | simp (disch := omega) only [w64, wu64, wu32, wu16, wu8, Int.tdiv_eq_ediv_of_nonneg, Int.tmod_eq_emod_of_nonneg] | ((first | refine GuardK_split ?_ ?_ | refine CondK_split ?_ ?_) <;> intro hc <;> (try simp only [hc]) <;> try simp at hc) | (with_reducible refine And.intro ?_ ?_; (focus ((repeat' (with_reducible refine And.intro ?_ ?_)) <;> first | exact trivial | assumption | (simp; done) | (simp only [List.length_map] at *; omega) | omega | (simp [D.one]; done)))) | (with_reducible intro x hx) | omega) <;> (try simp only [rowsU_len, c1, c3, hr, hev', Us.row, D.names, Nat.reduceBEq, argEnv, reduceIte, Nat.reduceAdd, Nat.reduceLeDiff, reduceCtorEq, binD, binInt, okD, aggD, unD, pickD, faddrD, extD, lenD, loadD, fillD, splice, D.cells, D.ok, D.one, D.pt, D.pt1, D.pt0, D.norm1, cond_true, cond_false, ne_eq, view, view2, view1, view0, mapO, D.sc, D.sc1, D.sc2, pull, pull2, pull1, pull0, gate, pullσ, Go.Vi.freeze, Go.Vi.freeze1, capt, reachL, merge, mset, renOb, fr, D.ren, D.renL, ofRes, fw]))
  | cons y ys =>
   have hne : rowsE u.evs ≠ [] := by rw [hev]; simp [rowsE]
   have ce := clE_ne false (rowsE u.evs) hne (szE_rows u.evs) (by rw [rowsE_len]; omega)
   have ie := inE_p (rowsE u.evs) j (En.row ⟨id, e⟩) true (some false) hne (szE_rows u.evs) rfl (ptE_rows u.evs) (by simp [En.row, D.pt1]) (by rw [rowsE_len]; omega) (by rw [rowsE_len]; exact hjl)
   rw [rowsE_len] at ce ie
   have hrw : List.take j (rowsE u.evs) ++ En.row ⟨id, e⟩ :: List.drop j (rowsE u.evs) = rowsE (u.evs.take j ++ ⟨id, e⟩ :: u.evs.drop j) := by simp [rowsE, List.map_take, List.map_drop]
   rw [hrw] at ie
   have hll : (u.evs.take j ++ ⟨id, e⟩ :: u.evs.drop j).length = u.evs.length + 1 := by simp; omega
   generalize u.evs.take j ++ ⟨id, e⟩ :: u.evs.drop j = evs' at ie w1 hll
   simp only [En.row] at ie
   have w2 := w1.toG rfl rfl
   repeat' ((first | apply Run_seq | apply Run_skip | apply Run_block | apply Run_blk | refine Run_exit rfl ?_ | apply Run_ret | apply Run_nil | apply Run_condK | apply Run_ops mixed | apply Run_opsX mixed | with_reducible refine PostV_open ?_ | with_reducible refine ro_callA (f := .c (.fn 54 [])) ?_ | with_reducible refine ro_callA' (f := .c (.fn 54 [])) ?_ | with_reducible refine ro_callA (f := .c (.fn 55 [])) ?_ | with_reducible refine ro_callA' (f := .c (.fn 55 [])) ?_ | with_reducible refine ro_callE (f := .c (.fn 46 [])) (z := [4]) (q := []) ?_ | with_reducible refine ro_callE' (f := .c (.fn 46 [])) (z := [4]) (q := []) ?_ | with_reducible refine ro_callV ?_ | with_reducible refine ro_callVX ?_ | refine CallV_pure (pl) ?_ ?_ | refine CallV_pure (en) ?_ ?_ | refine CallV_pure (me) ?_ ?_ | with_reducible refine CallE_use (ce) (by simp) ?_ | with_reducible refine CallE_use (ie) (by simp) ?_ | with_reducible refine CallE_use (w2) (by simp) ?_ | simp (disch := omega) only [w64, wu64, wu32, wu16, wu8, Int.tdiv_eq_ediv_of_nonneg, Int.tmod_eq_emod_of_nonneg] | ((first | refine GuardK_split ?_ ?_ | refine CondK_split ?_ ?_) <;> intro hc <;> (try simp only [hc]) <;> try simp at hc) | (with_reducible refine And.intro ?_ ?_; (focus ((repeat' (with_reducible refine And.intro ?_ ?_)) <;> first | exact trivial | assumption | (simp; done) | (simp only [List.length_map] at *; omega) | omega | (simp [D.one]; done)))) | (with_reducible intro x hx) | omega) <;> (try simp only [rowsE_len, rowsU_len, c1, c2, hr, hll, Us.row, D.names, Nat.reduceBEq, argEnv, reduceIte, Nat.reduceAdd, Nat.reduceSub, Nat.reduceLeDiff, reduceCtorEq, binD, binInt, okD, aggD, unD, pickD, faddrD, extD, lenD, loadD, fillD, splice, D.cells, D.ok, D.one, D.pt, D.pt1, D.pt0, D.norm1, cond_true, cond_false, ne_eq, view, view2, view1, view0, mapO, D.sc, D.sc1, D.sc2, pull, pull2, pull1, pull0, gate, pullσ, pullOb, Go.Vi.freeze, Go.Vi.freeze1, capt, reachL, reachO, isin, merge, mset, renOb, fr, D.ren, D.renL, ofRes, fw]))
   skip
end
end Go.Proofs.Ytoleaiaeghbffaa

namespace Go.Proofs.Ytoleaiaeghbffaa
open Go Go.Vi


theorem outE_win (l : List En) (k : Nat) (z : List D) (hk : k < l.length) : winD 0 (l.length - 1) l.length (List.take k (rowsE l) ++ List.drop (k + 1) (rowsE l) ++ [z]) = rowsE (l.take k ++ l.drop (k + 1)) := by
 unfold winD
 rw [if_neg (by omega), List.drop_zero, List.take_left' (by simp only [List.length_append, List.length_take, List.length_drop, rowsE_len]; omega)]
 simp [rowsE, List.map_take, List.map_drop]
section
variable (t : Int) (us : List Us) (ps : List Po) (ds : List Dn) (user id : Int) (u : Us)
theorem ca_none (hl : us.length ≤ 400000000000) (hs : us.Pairwise fun a b => a.id < b.id) (hu : findU us user = none) :
  PureD Try.prog 26 [St t us ps ds, .int .u32 user, .int .u32 id] (.tup [St t us ps ds, .int .u64 0, .int .i64 4]) := by
 have pl := placeU_p t us ps ds user (by omega) hs
 rw [u_no hs hu] at pl
 refine pureV Try.func26 low26 (by simp [c26]) ?_
 simp only [c26, St] at pl ⊢
 repeat' ((first | apply Run_seq | apply Run_skip | apply Run_ret | apply Run_nil | apply Run_condK | apply Run_ops mixed | apply Run_opsX mixed | with_reducible refine PostV_open ?_ | with_reducible refine ro_callV ?_ | with_reducible refine ro_callVX ?_ | refine CallV_pure (pl) ?_ ?_ | simp (disch := omega) only [w64, wu64, wu32, wu16, wu8, Int.tdiv_eq_ediv_of_nonneg, Int.tmod_eq_emod_of_nonneg] | (refine CondK_split ?_ ?_ <;> intro hc <;> (try simp only [hc]) <;> try simp at hc) | (with_reducible refine And.intro ?_ ?_; (focus ((repeat' (with_reducible refine And.intro ?_ ?_)) <;> first | exact trivial | assumption | (simp; done) | (simp only [List.length_map] at *; omega) | omega | (simp [D.cells, D.ok, D.one, D.pt, D.pt1]; done)))) | (with_reducible intro x hx) | omega) <;> (try simp only [Nat.reduceBEq, argEnv, reduceIte, Nat.reduceAdd, reduceCtorEq, okD, unD, extD, loadD, splice, D.cells, D.ok, D.one, D.pt, D.pt1, D.pt0, D.norm1, ne_eq, view, view2, view1, view0, mapO, D.sc, D.sc1, D.sc2, ofRes, fw]))
theorem ca_no (hl : us.length ≤ 400000000000) (hs : us.Pairwise fun a b => a.id < b.id) (hu : findU us user = some u) (hle : u.evs.length ≤ 140737488351232) (hse : u.evs.Pairwise fun a b => a.id < b.id) (hn : findE u.evs id = none) :
  PureD Try.prog 26 [St t us ps ds, .int .u32 user, .int .u32 id] (.tup [St t us ps ds, .int .u64 0, .int .i64 4]) := by
 obtain ⟨h1, h2, h3, h4⟩ := u_at hs hu
 have pl := placeU_p t us ps ds user (by omega) hs
 rw [h2] at pl
 have en := entry_p u id hle hse
 have hfe := findE_at (id := id) hse
 rw [hn] at hfe
 rw [← hfe] at en
 have hr := rowsU_get h1
 generalize lowB Us.id us user = k at pl hr h3
 refine pureV Try.func26 low26 (by simp [c26]) ?_
 simp only [c26, St, Us.row, Option.isSome_none] at pl en ⊢
 repeat' ((first | apply Run_seq | apply Run_skip | apply Run_ret | apply Run_nil | apply Run_condK | apply Run_ops mixed | apply Run_opsX mixed | with_reducible refine PostV_open ?_ | with_reducible refine ro_callV ?_ | with_reducible refine ro_callVX ?_ | refine CallV_pure (pl) ?_ ?_ | refine CallV_pure (en) ?_ ?_ | simp (disch := omega) only [w64, wu64, wu32, wu16, wu8, Int.tdiv_eq_ediv_of_nonneg, Int.tmod_eq_emod_of_nonneg] | (refine CondK_split ?_ ?_ <;> intro hc <;> (try simp only [hc]) <;> try simp at hc) | (with_reducible refine And.intro ?_ ?_; (focus ((repeat' (with_reducible refine And.intro ?_ ?_)) <;> first | exact trivial | assumption | (simp; done) | (simp only [List.length_map] at *; omega) | omega | (simp [D.cells, D.ok, D.one, D.pt, D.pt1]; done)))) | (with_reducible intro x hx) | omega) <;> (try simp only [rowsU_len, hr, Us.row, Nat.reduceBEq, argEnv, reduceIte, Nat.reduceAdd, reduceCtorEq, okD, unD, faddrD, extD, loadD, splice, D.cells, D.ok, D.one, D.pt, D.pt1, D.pt0, D.norm1, ne_eq, view, view2, view1, view0, mapO, D.sc, D.sc1, D.sc2, ofRes, fw]))
set_option maxHeartbeats 4000000 in
theorem ca_ok (hl : us.length ≤ 400000000000) (hs : us.Pairwise fun a b => a.id < b.id) (hu : findU us user = some u) (hle : u.evs.length ≤ 400000000000) (hse : u.evs.Pairwise fun a b => a.id < b.id) (hq : (findE u.evs id).isSome = true) :
  PureD Try.prog 26 [St t us ps ds, .int .u32 user, .int .u32 id] (.tup [St t (us.map (rep (delU u id))) ps ds, .int .u64 (IntKind.u64.wrap (u.ver + 1)), .int .i64 0]) := by
 obtain ⟨h1, h2, h3, h4⟩ := u_at hs hu
 have pl := placeU_p t us ps ds user (by omega) hs
 rw [h2] at pl
 have en := entry_p u id (by omega) hse
 have hat := findE_at (id := id) hse
 rw [hq] at hat
 have hat := hat.symm
 have hr := rowsU_get h1
 have w1 := with_1 t us ps ds (lowB Us.id us user) (delU u id) h3 hl
 rw [set_rep (delU u id) us _ u hs h1 rfl] at w1
 generalize us.map (rep (delU u id)) = us' at w1 ⊢
 generalize lowB Us.id us user = k at pl hr h3 w1
 refine pureV Try.func26 low26 (by simp [c26]) ?_
 simp only [c26, St, Us.row, delU] at pl en w1 ⊢
 have sp := del_put hse hat
 rw [hat] at en
 have hlt : lowB En.id u.evs id < u.evs.length := by
  obtain ⟨x, _, q2, _⟩ := low_at En.id id u.evs hse hat
  exact (List.getElem?_eq_some_iff.1 q2).1
 rw [← sp] at w1
 generalize lowB En.id u.evs id = j at en w1 hlt
 have hne : rowsE u.evs ≠ [] := by
  cases hh : u.evs with
  | nil => rw [hh] at hlt; simp at hlt
  | cons => simp [rowsE]
 have ce := clE_ne false (rowsE u.evs) hne (szE_rows u.evs) (by rw [rowsE_len]; omega)
 have de := delE_p (rowsE u.evs) j (szE_rows u.evs) (ptE_rows u.evs) (by rw [rowsE_len]; omega) (by rw [rowsE_len]; omega)
 have ow := outE_win u.evs j zrE hlt
 have oe : (List.take j (rowsE u.evs) ++ List.drop (j + 1) (rowsE u.evs) ++ [zrE]).length = u.evs.length := by simp only [List.length_append, List.length_take, List.length_drop, rowsE_len, List.length_cons, List.length_nil]; omega
 rw [rowsE_len] at ce de
 generalize List.take j (rowsE u.evs) ++ List.drop (j + 1) (rowsE u.evs) ++ [zrE] = M at de ow oe
 generalize u.evs.take j ++ u.evs.drop (j + 1) = evs' at ow w1
 have w2 := w1.toG rfl rfl
 repeat' ((first | apply Run_seq | apply Run_skip | apply Run_ret | apply Run_nil | apply Run_condK | apply Run_ops mixed | apply Run_opsX mixed | with_reducible refine PostV_open ?_ | with_reducible refine ro_callA (f := .c (.fn 54 [])) ?_ | with_reducible refine ro_callA' (f := .c (.fn 54 [])) ?_ | with_reducible refine ro_callA (f := .c (.fn 56 [])) ?_ | with_reducible refine ro_callA' (f := .c (.fn 56 [])) ?_ | with_reducible refine ro_callE (f := .c (.fn 46 [])) (z := [3]) (q := []) ?_ | with_reducible refine ro_callE' (f := .c (.fn 46 [])) (z := [3]) (q := []) ?_ | with_reducible refine ro_callV ?_ | with_reducible refine ro_callVX ?_ | refine CallV_pure (pl) ?_ ?_ | refine CallV_pure (en) ?_ ?_ | with_reducible refine CallE_use (ce) (by simp) ?_ | with_reducible refine CallE_use (de) (by simp) ?_ | with_reducible refine CallE_use (w2) (by simp) ?_ | simp (disch := omega) only [w64] | (refine CondK_split ?_ ?_ <;> intro hc <;> (try simp only [hc]) <;> try simp at hc) | (with_reducible refine And.intro ?_ ?_; (focus ((repeat' (with_reducible refine And.intro ?_ ?_)) <;> first | exact trivial | assumption | (simp; done) | (simp only [List.length_map] at *; omega) | omega | (simp [D.cells, D.ok, D.one, D.pt, D.pt1]; done)))) | (with_reducible intro x hx) | omega) <;> (try simp only [rowsU_len, hr, oe, ow, Us.row, D.names, Nat.reduceBEq, argEnv, reduceIte, Nat.reduceAdd, Nat.reduceSub, Nat.reduceLeDiff, reduceCtorEq, binD, binInt, okD, unD, faddrD, extD, loadD, splice, D.cells, D.ok, D.one, D.pt, D.pt1, D.pt0, D.norm1, ne_eq, view, view2, view1, view0, mapO, D.sc, D.sc1, D.sc2, pull, pull2, pull1, pull0, gate, pullσ, pullOb, Go.Vi.freeze, Go.Vi.freeze1, capt, reachL, reachO, isin, merge, mset, renOb, fr, D.ren, D.renL, ofRes, fw]))
def zE : Ev := ⟨0, 0, false, false, ⟨0, 0, 0, 0, [], [], [], [], 0⟩, [], [], []⟩
def findER (us : List Us) (user id : Int) : D := .tup [.agg (((findE ((findU us user).getD zU).evs id).map En.ev).getD zE).cells, .bool (findE ((findU us user).getD zU).evs id).isSome]
end
end Go.Proofs.Ytoleaiaeghbffaa

namespace Go.Proofs.Ytoleaiaeghbffaa
open Go Go.Vi
/-- Users that rise, and whose events rise. -/
def Wel (us : List Us) (n : Nat) : Prop := us.length ≤ 1000000 ∧ (us.Pairwise fun a b => a.id < b.id) ∧ ∀ u ∈ us, u.fit ∧ (u.evs.Pairwise fun a b => a.id < b.id) ∧ u.evs.length ≤ n
def putF (us : List Us) (user id : Int) (e : Ev) : List Us × Int × Int := match findU us user with
 | none => (us, 0, 4)
 | some u => if id = 0 ∨ mayE e = false then (us, 0, 2) else if (findE u.evs id).isSome = false ∧ 64 ≤ u.evs.length then (us, 0, 6) else (us.map (rep (putU u id e)), IntKind.u64.wrap (u.ver + 1), 0)
theorem putF_p (t : Int) {us : List Us} (ps : List Po) (ds : List Dn) (user id : Int) {e : Ev} {n : Nat} (hw : Wel us n) (hn : n ≤ 1000000) (he : e.fits) (hc : e.ch.length ≤ 14073748835123) :
  PureD Try.prog 25 [St t us ps ds, .int .u32 user, .int .u32 id, .agg e.cells] (.tup [St t (putF us user id e).1 ps ds, .int .u64 (putF us user id e).2.1, .int .i64 (putF us user id e).2.2]) := by
 obtain ⟨w1, w2, w3⟩ := hw
 unfold putF
 cases hu : findU us user with
 | none => exact pe_none t us ps ds user id e (by omega) w2 hu
 | some u =>
  obtain ⟨_, h1, h2⟩ := w3 u (findU_some hu).1
  dsimp only
  by_cases h : id = 0 ∨ mayE e = false
  ·rw [if_pos h]
   exact pe_arg t us ps ds user id e u (by omega) w2 hu (by omega) h1 he hc h
  ·rw [if_neg h]
   have hi : id ≠ 0 := fun hh => h (.inl hh)
   have hm : mayE e = true := by
    cases hh : mayE e with
    | true => rfl
    | false => exact absurd (.inr hh) h
   by_cases hq : (findE u.evs id).isSome = false ∧ 64 ≤ u.evs.length
   ·rw [if_pos hq]
    have : findE u.evs id = none := by simpa using hq.1
    exact pe_quota t us ps ds user id e u (by omega) w2 hu (by omega) h1 he hc hi hm this hq.2
   ·rw [if_neg hq]
    refine pe_ok t us ps ds user id e u (by omega) w2 hu (by omega) h1 he hc hi hm ?_
    cases hh : (findE u.evs id).isSome with
    | true => exact .inl rfl
    | false => exact .inr (by
     have : ¬ 64 ≤ u.evs.length := fun h64 => hq ⟨hh, h64⟩
     omega)
theorem filt_len {α : Type} (p q : α → Bool) (h : ∀ x, p x = true → q x = false) : ∀ l : List α, (l.filter p).length + (l.filter q).length ≤ l.length
 | [] => by simp
 | x :: l => by
  have ih := filt_len p q h l
  have hx := h x
  by_cases hp : p x = true
  ·have hq := hx hp
   simp [hp, hq]; omega
  ·by_cases hq : q x = true
   ·simp [hp, hq]; omega
   ·simp [hp, hq]; omega
theorem putEv_len (l : List En) (id : Int) (e : Ev) : (putEv l id e).length ≤ l.length + 1 := by
 have := filt_len (fun x : En => decide (x.id < id)) (fun x => decide (id < x.id)) (fun x => by simp; omega) l
 unfold putEv
 simp only [List.length_append, List.length_cons]
 omega
theorem delEv_len (l : List En) (id : Int) : (delEv l id).length ≤ l.length := by
 have := filt_len (fun x : En => decide (x.id < id)) (fun x => decide (id < x.id)) (fun x => by simp; omega) l
 unfold delEv
 simp only [List.length_append]
 omega
theorem putEv_mem {l : List En} {id : Int} {e : Ev} {x : En} (h : x ∈ putEv l id e) : x ∈ l ∨ x = ⟨id, e⟩ := by
 unfold putEv at h
 simp only [List.mem_append, List.mem_filter, List.mem_cons] at h
 rcases h with h | h | h
 ·exact .inl h.1
 ·exact .inr h
 ·exact .inl h.1
theorem delEv_mem {l : List En} {id : Int} {x : En} (h : x ∈ delEv l id) : x ∈ l ∧ x.id ≠ id := by
 unfold delEv at h
 simp only [List.mem_append, List.mem_filter, decide_eq_true_eq] at h
 rcases h with h | h
 ·exact ⟨h.1, by omega⟩
 ·exact ⟨h.1, by omega⟩
theorem putEv_sorted {l : List En} (id : Int) (e : Ev) (hs : l.Pairwise fun a b => a.id < b.id) : (putEv l id e).Pairwise fun a b => a.id < b.id := by
 unfold putEv
 rw [List.pairwise_append]
 refine ⟨hs.filter _, List.pairwise_cons.2 ⟨fun x hx => ?_, hs.filter _⟩, fun x hx y hy => ?_⟩
 ·simpa using (List.mem_filter.1 hx).2
 ·have h1 : x.id < id := by simpa using (List.mem_filter.1 hx).2
  rcases List.mem_cons.1 hy with rfl | hy
  ·exact h1
  ·have h2 : id < y.id := by simpa using (List.mem_filter.1 hy).2
   omega
theorem delEv_sorted {l : List En} (id : Int) (hs : l.Pairwise fun a b => a.id < b.id) : (delEv l id).Pairwise fun a b => a.id < b.id := by
 unfold delEv
 rw [List.pairwise_append]
 refine ⟨hs.filter _, hs.filter _, fun x hx y hy => ?_⟩
 have h1 : x.id < id := by simpa using (List.mem_filter.1 hx).2
 have h2 : id < y.id := by simpa using (List.mem_filter.1 hy).2
 omega
theorem putU_fit {u : Us} {id : Int} {e : Ev} (hu : u.fit) (hl : u.evs.length ≤ 1000000) (he : e.fits) : (putU u id e).fit := by
 obtain ⟨h1, h2, h3⟩ := hu
 refine ⟨h1, ?_, fun x hx => ?_⟩
 ·have := putEv_len u.evs id e
  show (putEv u.evs id e).length ≤ _
  omega
 ·rcases putEv_mem (show x ∈ putEv u.evs id e from hx) with h | h
  ·exact h3 x h
  ·rw [h]; exact he
theorem delU_fit {u : Us} {id : Int} (hu : u.fit) : (delU u id).fit := by
 obtain ⟨h1, h2, h3⟩ := hu
 refine ⟨h1, ?_, fun x hx => h3 x (delEv_mem (show x ∈ delEv u.evs id from hx)).1⟩
 have := delEv_len u.evs id
 show (delEv u.evs id).length ≤ _
 omega
theorem rep_mem {us : List Us} {u' x : Us} (h : x ∈ us.map (rep u')) : x = u' ∨ x ∈ us := by
 obtain ⟨y, hy, rfl⟩ := List.mem_map.1 h
 unfold rep
 split
 ·exact .inl rfl
 ·exact .inr hy
theorem rep_sorted {us : List Us} (u' : Us) (hs : us.Pairwise fun a b => a.id < b.id) : (us.map (rep u')).Pairwise fun a b => a.id < b.id := by
 rw [List.pairwise_map]
 exact hs.imp fun h => by rw [rep_id, rep_id]; exact h
theorem Wel.rep {us : List Us} {n m : Nat} {u' : Us} (hw : Wel us n) (hm : n ≤ m) (h1 : u'.fit) (h2 : u'.evs.Pairwise fun a b => a.id < b.id) (h3 : u'.evs.length ≤ m) : Wel (us.map (Ytoleaiaeghbffaa.rep u')) m := by
 obtain ⟨w1, w2, w3⟩ := hw
 refine ⟨by simpa using w1, rep_sorted u' w2, fun x hx => ?_⟩
 rcases rep_mem hx with rfl | hx
 ·exact ⟨h1, h2, h3⟩
 ·obtain ⟨a, b, c⟩ := w3 x hx
  exact ⟨a, b, by omega⟩
theorem Wel.put {us : List Us} {n : Nat} (user id : Int) {e : Ev} (hw : Wel us n) (hn : n ≤ 999999) (he : e.fits) : Wel (putF us user id e).1 (n + 1) := by
 have hw0 := hw
 obtain ⟨w1, w2, w3⟩ := hw
 have hw' : Wel us (n + 1) := ⟨w1, w2, fun u hu => ⟨(w3 u hu).1, (w3 u hu).2.1, by have := (w3 u hu).2.2; omega⟩⟩
 unfold putF
 cases hu : findU us user with
 | none => exact hw'
 | some u =>
  obtain ⟨h0, h1, h2⟩ := w3 u (findU_some hu).1
  dsimp only
  split
  ·exact hw'
  ·split
   ·exact hw'
   ·refine hw0.rep (by omega) (putU_fit h0 (by omega) he) (putEv_sorted id e h1) ?_
    have := putEv_len u.evs id e
    show (putEv u.evs id e).length ≤ _
    omega
theorem findU_id {us : List Us} {user : Int} {u : Us} (h : findU us user = some u) : u.id = user := (findU_some h).2
end Go.Proofs.Ytoleaiaeghbffaa

namespace Go.Proofs.Ytoleaiaeghbffaa
open Go Go.Vi


theorem wel_of {t : Int} {us : List Us} {ps : List Po} {ds : List Dn} (hfs : Sta.fits ⟨t, us, ps, ds⟩) (g1 : greatSt us ps ds = false) (g2 : risU us = true) : Wel us 10 := by
 have h2 := risU_iff.1 g2
 have hl : us.length ≤ 12 := by
  have : ¬ 12 < us.length := fun h => by simp [greatSt, h] at g1
  omega
 have hu : ∀ u ∈ us, u.great = false := by
  simp only [greatSt, Bool.or_eq_false_iff] at g1
  intro u hu
  have := List.any_eq_false.1 g1.1.2 u hu
  simpa using this
 refine ⟨by omega, h2.1, fun u hm => ⟨hfs.2.2.2.1 u hm, h2.2 u hm, ?_⟩⟩
 have := hu u hm
 simp only [Us.great, Bool.or_eq_false_iff, decide_eq_false_iff_not] at this
 omega
theorem fits_put {t : Int} {us us' : List Us} {ps : List Po} {ds : List Dn} {n : Nat} (hfs : Sta.fits ⟨t, us, ps, ds⟩) (hw : Wel us' n) : Sta.fits ⟨t, us', ps, ds⟩ :=
 ⟨Nat.le_trans hw.1 (by omega), hfs.2.1, hfs.2.2.1, fun u hu => (hw.2.2 u hu).1, hfs.2.2.2.2⟩
theorem great_ch {e : Ev} (h : e.great = false) : e.ch.length ≤ 14073748835123 := by
 simp only [Ev.great, Bool.or_eq_false_iff, decide_eq_false_iff_not] at h
 omega
theorem zU_fit : zU.fit := by simp [zU, Us.fit, Se.fits]
theorem putF_cases (us : List Us) (user id : Int) (e : Ev) : ((putF us user id e).2.2 ≠ 0 ∧ (putF us user id e).1 = us ∧ (putF us user id e).2.1 = 0) ∨ ∃ u, findU us user = some u ∧ putF us user id e = (us.map (rep (putU u id e)), IntKind.u64.wrap (u.ver + 1), 0) := by
 unfold putF
 cases hu : findU us user with
 | none => exact .inl ⟨by simp, rfl, rfl⟩
 | some u =>
  dsimp only
  split
  ·exact .inl ⟨by simp, rfl, rfl⟩
  ·split
   ·exact .inl ⟨by simp, rfl, rfl⟩
   ·exact .inr ⟨u, rfl, rfl⟩
end Go.Proofs.Ytoleaiaeghbffaa
