import Derived.Test.YtoleaiaeghbffaaCGS6
import Derived.Test.YtoleaiaeghbffaaVi25
set_option linter.unusedVariables false
set_option linter.unusedSimpArgs false
set_option linter.unnecessarySimpa false
namespace Go.Proofs.Ytoleaiaeghbffaa
open Go Go.Vi


/-- A request. -/
structure As where
 kind : Int
 caller : Int
 number : Int
 user : Int
 id : Int
 se : Se
 ev : Ev
 qu : Qu
 cursor : ByteArray
 count : Int
 poll : Int
 slot : Int
 yes : Bool
 til : Int
def As.cells (a : As) : List D := [.int .i64 a.kind, .int .u32 a.caller, .int .u64 a.number, .int .u32 a.user, .int .u32 a.id, .int .i64 a.se.base, L (row2 .i64 .i64 a.se.turns), L (row3 a.se.shifts), L (row1 .i64 a.se.off), .int .i64 a.se.before, .int .i64 a.se.after, .int .i64 a.ev.start, .int .i64 a.ev.long, .bool a.ev.world, .bool a.ev.again, .int .i64 a.ev.rule.freq, .int .i64 a.ev.rule.interval, .int .i64 a.ev.rule.count, .int .i64 a.ev.rule.til, L (row1 .i64 a.ev.rule.bm), L (row1 .i64 a.ev.rule.bmd), L (row2 .i64 .i64 a.ev.rule.bd), L (row1 .i64 a.ev.rule.bsp), .int .i64 a.ev.rule.start, L (row1 .i64 a.ev.ex), L (row1 .i64 a.ev.plus), L (row3 a.ev.ch), .int .i64 a.qu.a, .int .i64 a.qu.b, .int .i64 a.qu.long, .int .i64 a.qu.grid, L (row1 .u32 a.qu.must), L (row2 .u32 .i64 a.qu.may), .int .i64 a.qu.seats, L (row2 .u32 .u32 a.qu.apart), L (row3 a.qu.prefer), .str a.cursor, .int .i64 a.count, .int .u32 a.poll, .int .i64 a.slot, .bool a.yes, .int .i64 a.til]
def As.great (a : As) : Bool := a.se.great || a.ev.great || a.qu.great || decide (200 < a.cursor.size)
theorem greatAs_p (a : As) : PureD Try.prog 21 [.agg a.cells] (.bool a.great) := by
 refine pureV Try.func21 low21 (by simp [c21]) ?_
 simp only [c21, As.cells]
 have h1 := greatSe_p a.se
 have h2 := greatEv_p a.ev
 have h3 := greatQu_p a.qu
 simp only [Se.cells, Ev.cells, Qu.cells] at h1 h2 h3
 repeat' ((first | apply Run_seq | apply Run_ret | apply Run_nil | apply Run_ops mixed | with_reducible refine PostV_open ?_ | with_reducible refine ro_callV ?_ | refine CallV_pure (h1) ?_ ?_ | refine CallV_pure (h2) ?_ ?_ | refine CallV_pure (h3) ?_ ?_ | (refine GuardK_split ?_ ?_ <;> intro hc <;> (try simp only [hc]) <;> try simp at hc) | (with_reducible refine And.intro ?_ ?_; (focus ((repeat' (with_reducible refine And.intro ?_ ?_)) <;> first | exact trivial | assumption | (simp; done) | (simp only [List.length_map] at *; omega) | omega | (simp [D.cells, D.ok, D.one, D.pt, D.pt1]; done)))) | (with_reducible intro x hx) | omega) <;> (try simp only [Nat.reduceBEq, argEnv, reduceIte, Nat.reduceAdd, Nat.reduceLeDiff, reduceCtorEq, binD, binInt, pickD, faddrD, lenD, loadD, D.cells, D.ok, D.one, D.pt, D.pt1, D.pt0, D.norm1, cond_true, cond_false, ne_eq, view, view2, view1, view0, mapO, D.sc, D.sc1, D.sc2, ofRes, fw]))
 all_goals (unfold As.great; rw [Bool.eq_iff_iff]; simp [*]; try omega)
def Srt (l : List Dn) : Prop := l.Pairwise fun a b => a.c < b.c
instance (l : List Dn) : Decidable (Srt l) := by unfold Srt; infer_instance
theorem rowsD_get {l : List Dn} {i : Nat} {x : Dn} (h : l[i]? = some x) : (rowsD l)[i]? = some [.int .u32 x.c, .int .u64 x.n, .int .u64 x.v] := by simp [rowsD, Dn.row, h]
theorem rises_b (t : Int) (us : List Us) (ps : List Po) (ds : List Dn) (hl : us.length ≤ 1407374883512) (hd : ds.length ≤ 140737488351) (hle : ∀ u ∈ us, u.evs.length ≤ 140737488351232) : PureD Try.prog 9 [St t us ps ds] (.bool (decide (Srt ds) && risU us)) := by
 have r17 := rises17_p t us ps ds hl hle
 refine pureV Try.func9 low9 (by simp [c9]) ?_
 simp only [c9, St] at r17 ⊢
 repeat' ((first | apply Run_seq | apply Run_skip | apply Run_block | apply Run_blk | refine Run_exit rfl ?_ | apply Run_ret | apply Run_nil | apply Run_condK | apply Run_ops mixed | apply Run_opsX mixed | with_reducible refine PostV_open ?_ | with_reducible refine ro_callV ?_ | simp (disch := omega) only [w64, wu64, wu32, wu16, wu8, Int.tdiv_eq_ediv_of_nonneg, Int.tmod_eq_emod_of_nonneg] | ((first | refine GuardK_split ?_ ?_ | refine CondK_split ?_ ?_) <;> intro hc <;> (try simp only [hc]) <;> try simp at hc) | (with_reducible refine And.intro ?_ ?_; (focus ((repeat' (with_reducible refine And.intro ?_ ?_)) <;> first | exact trivial | assumption | (simp; done) | (simp only [List.length_map] at *; omega) | omega | (simp [D.cells, D.ok, D.one, D.pt, D.pt1]; done)))) | (with_reducible intro x hx) | omega) <;> (try simp only [rowsD_len, Nat.reduceBEq, argEnv, Nat.reduceAdd, reduceCtorEq, faddrD, lenD, loadD, D.cells, D.ok, D.one, D.pt1, ne_eq, fw]))
 refine Run_loop (ι := {i : Nat // i ≤ ds.length ∧ Srt (ds.take i)}) (fun i => ([(1, .ptr 0 0 0 1), (6, .int .i64 ds.length), (7, .int .i64 i.1)], [⟨true, false, true, false, 4, [[.int .i64 t, L (rowsU us), L (rowsP ps), L (rowsD ds)]], some 0⟩])) (fun i => ds.length - i.1) ⟨0, by simp, by simp [Srt]⟩ ?_ ?_
 ·refine Ent_gc [0] (by rfl) (by simp) (by simp [keptW, ObKW, ObW, imp_self, pullOb, or_false]) (by simp [lk_hit, lk_miss, D.pt0, viewS_own', pull, pull2, pull1, pull0, idx_hit, gate, List.mem_cons, or_false, view0])
 rintro ⟨i, hi, hp⟩ hk
 dsimp only at hk ⊢
 by_cases hlt : i < ds.length
 ·have c1 : ((i : Int) < (ds.length : Int)) = True := by simp; omega
  obtain ⟨d, hd'⟩ : ∃ d, ds[i]? = some d := ⟨_, List.getElem?_eq_getElem hlt⟩
  have hr := rowsD_get hd'
  cases i with
  | zero =>
   repeat' ((first | apply Run_seq | apply Run_skip | apply Run_block | apply Run_blk | refine Run_exit rfl ?_ | apply Run_ret | apply Run_nil | apply Run_condK | apply Run_ops mixed | apply Run_opsX mixed | with_reducible refine PostV_open ?_ | with_reducible refine ro_callV ?_ | simp (disch := omega) only [w64] | ((first | refine GuardK_split ?_ ?_ | refine CondK_split ?_ ?_) <;> intro hc <;> (try simp only [hc]) <;> try simp at hc) | (with_reducible refine And.intro ?_ ?_; (focus ((repeat' (with_reducible refine And.intro ?_ ?_)) <;> first | exact trivial | assumption | (simp; done) | (simp only [List.length_map] at *; omega) | omega | (simp [D.cells, D.ok, D.one, D.pt, D.pt1]; done)))) | (with_reducible intro x hx) | omega) <;> (try simp only [c1, Nat.reduceBEq, reduceIte, binD, binInt, binStr, pickD, cond_false, fw]))
   refine hk ⟨1, by omega, by rw [List.take_add_one, hd']; simp [Srt]⟩ _ _ (by dsimp only; omega) ?_
   dsimp only
   refine Ent_gc [0] (by rfl) (by simp) (by simp [keptW, ObKW, ObW, imp_self, pullOb, or_false]) (by simp [lk_hit, lk_miss, D.pt0, viewS_own', pull, pull2, pull1, pull0, idx_hit, gate, List.mem_cons, or_false, view0])
  | succ i =>
   obtain ⟨e, he⟩ : ∃ e, ds[i]? = some e := ⟨_, List.getElem?_eq_getElem (by omega)⟩
   have hr2 := rowsD_get he
   have c2 : (((i + 1 : Nat) : Int) > 0) = True := by rw [eq_iff_iff]; exact ⟨fun _ => trivial, fun _ => by omega⟩
   have e1 : (((i + 1 : Nat) : Int) - 1) = (i : Int) := by omega
   by_cases hlt2 : e.c < d.c
   ·have c3 : (e.c ≥ d.c) = False := by simp; omega
    repeat' ((first | apply Run_seq | apply Run_skip | apply Run_block | apply Run_blk | refine Run_exit rfl ?_ | apply Run_ret | apply Run_nil | apply Run_condK | apply Run_ops mixed | apply Run_opsX mixed | with_reducible refine PostV_open ?_ | with_reducible refine ro_callV ?_ | simp (disch := omega) only [w64] | ((first | refine GuardK_split ?_ ?_ | refine CondK_split ?_ ?_) <;> intro hc <;> (try simp only [hc]) <;> try simp at hc) | (with_reducible refine And.intro ?_ ?_; (focus ((repeat' (with_reducible refine And.intro ?_ ?_)) <;> first | exact trivial | assumption | (simp; done) | (simp only [List.length_map] at *; omega) | omega | (simp [D.cells, D.ok, D.one, D.pt, D.pt1]; done)))) | (with_reducible intro x hx) | omega) <;> (try simp only [rowsD_len, c1, c2, c3, e1, hr, hr2, Nat.reduceBEq, reduceIte, Nat.reduceAdd, binD, binInt, binStr, pickD, faddrD, loadD, cond_true, fw]))
    refine hk ⟨i + 1 + 1, by omega, ris_step (f := Dn.c) hp he hd' hlt2⟩ _ _ (by dsimp only; omega) ?_
    dsimp only
    refine Ent_gc [0] (by rfl) (by simp) (by simp [keptW, ObKW, ObW, imp_self, pullOb, or_false]) (by simp [lk_hit, lk_miss, D.pt0, viewS_own', pull, pull2, pull1, pull0, idx_hit, gate, List.mem_cons, or_false, view0])
   ·have c3 : (e.c ≥ d.c) = True := by simp; omega
    have hs : ¬ Srt ds := ris_no (f := Dn.c) he hd' hlt2
    rw [decide_eq_false hs, Bool.false_and]
    repeat' ((first | apply Run_seq | apply Run_skip | apply Run_block | apply Run_blk | refine Run_exit rfl ?_ | apply Run_ret | apply Run_nil | apply Run_condK | apply Run_ops mixed | apply Run_opsX mixed | with_reducible refine PostV_open ?_ | with_reducible refine ro_callV ?_ | simp (disch := omega) only [w64] | ((first | refine GuardK_split ?_ ?_ | refine CondK_split ?_ ?_) <;> intro hc <;> (try simp only [hc]) <;> try simp at hc) | (with_reducible refine And.intro ?_ ?_; (focus ((repeat' (with_reducible refine And.intro ?_ ?_)) <;> first | exact trivial | assumption | (simp; done) | (simp only [List.length_map] at *; omega) | omega | (simp [D.cells, D.ok, D.one, D.pt, D.pt1]; done)))) | (with_reducible intro x hx) | omega) <;> (try simp only [rowsD_len, c1, c2, c3, e1, hr, hr2, Nat.reduceBEq, reduceIte, Nat.reduceAdd, binD, binInt, binStr, pickD, faddrD, loadD, D.pt0, D.norm1, cond_true, view, view2, view1, view0, ofRes, fw]))
 ·have c1 : ((i : Int) < (ds.length : Int)) = False := by simp; omega
  rw [List.take_of_length_le (by omega)] at hp
  rw [decide_eq_true hp, Bool.true_and]
  repeat' ((first | apply Run_seq | apply Run_skip | apply Run_block | apply Run_blk | refine Run_exit rfl ?_ | apply Run_ret | apply Run_nil | apply Run_condK | apply Run_ops mixed | apply Run_opsX mixed | with_reducible refine PostV_open ?_ | with_reducible refine ro_callV ?_ | refine CallV_pure (r17) ?_ ?_ | simp (disch := omega) only [w64, wu64, wu32, wu16, wu8, Int.tdiv_eq_ediv_of_nonneg, Int.tmod_eq_emod_of_nonneg] | ((first | refine GuardK_split ?_ ?_ | refine CondK_split ?_ ?_) <;> intro hc <;> (try simp only [hc]) <;> try simp at hc) | (with_reducible refine And.intro ?_ ?_; (focus ((repeat' (with_reducible refine And.intro ?_ ?_)) <;> first | exact trivial | assumption | (simp; done) | (simp only [List.length_map] at *; omega) | omega | (simp [D.cells, D.ok, D.one, D.pt, D.pt1]; done)))) | (with_reducible intro x hx) | omega) <;> (try simp only [c1, Nat.reduceBEq, reduceIte, Nat.reduceAdd, binD, binInt, loadD, D.pt, D.pt1, D.pt0, D.norm1, view, view2, view1, view0, mapO, D.sc, D.sc1, D.sc2, ofRes, fw]))
theorem great18_p (t : Int) (us : List Us) (ps : List Po) (ds : List Dn) (a : As) (hf : fits us ps ds) : PureD Try.prog 10 [St t us ps ds, .agg a.cells] (.bool (greatSt us ps ds || (a.great || !(decide (Srt ds) && risU us)))) := by
 refine pureV Try.func10 low10 (by simp [c10]) ?_
 have h1 := greatSt_p t us ps ds hf
 have h2 := greatAs_p a
 obtain ⟨f1, f2, f3, f4⟩ := hf
 simp only [c10, St, As.cells] at h1 h2 ⊢
 by_cases hg : greatSt us ps ds = true
 ·rw [hg] at h1 ⊢
  repeat' ((first | apply Run_seq | apply Run_ret | apply Run_nil | apply Run_ops mixed | with_reducible refine PostV_open ?_ | with_reducible refine ro_callV ?_ | refine CallV_pure (h1) ?_ ?_ | (refine GuardK_split ?_ ?_ <;> intro hc <;> (try simp only [hc]) <;> try simp at hc) | (with_reducible refine And.intro ?_ ?_; (focus ((repeat' (with_reducible refine And.intro ?_ ?_)) <;> first | exact trivial | assumption | (simp; done) | (simp only [List.length_map] at *; omega) | omega | (simp [D.cells, D.ok, D.one, D.pt, D.pt1]; done)))) | (with_reducible intro x hx) | omega) <;> (try simp only [Nat.reduceBEq, argEnv, reduceIte, Nat.reduceAdd, reduceCtorEq, pickD, loadD, D.cells, D.ok, D.one, D.pt, D.pt1, D.pt0, D.norm1, cond_true, ne_eq, view, view2, view1, view0, mapO, D.sc, D.sc1, D.sc2, ofRes, fw]))
 have hg' : greatSt us ps ds = false := by simpa using hg
 have h3 := rises_b t us ps ds (by omega) (by
  have : ¬ 100 < ds.length := fun h => by simp [greatSt, h] at hg'
  omega) f4
 simp only [St] at h3
 rw [hg'] at h1 ⊢
 by_cases ha : a.great = true
 ·rw [ha] at h2 ⊢
  repeat' ((first | apply Run_seq | apply Run_ret | apply Run_nil | apply Run_ops mixed | with_reducible refine PostV_open ?_ | with_reducible refine ro_callV ?_ | refine CallV_pure (h1) ?_ ?_ | refine CallV_pure (h2) ?_ ?_ | (refine GuardK_split ?_ ?_ <;> intro hc <;> (try simp only [hc]) <;> try simp at hc) | (with_reducible refine And.intro ?_ ?_; (focus ((repeat' (with_reducible refine And.intro ?_ ?_)) <;> first | exact trivial | assumption | (simp; done) | (simp only [List.length_map] at *; omega) | omega | (simp [D.cells, D.ok, D.one, D.pt, D.pt1]; done)))) | (with_reducible intro x hx) | omega) <;> (try simp only [Nat.reduceBEq, argEnv, reduceIte, Nat.reduceAdd, reduceCtorEq, pickD, loadD, D.cells, D.ok, D.one, D.pt, D.pt1, D.pt0, D.norm1, cond_true, cond_false, ne_eq, view, view2, view1, view0, mapO, D.sc, D.sc1, D.sc2, ofRes, fw]))
 have ha' : a.great = false := by simpa using ha
 rw [ha'] at h2 ⊢
 repeat' ((first | apply Run_seq | apply Run_ret | apply Run_nil | apply Run_ops mixed | with_reducible refine PostV_open ?_ | with_reducible refine ro_callV ?_ | refine CallV_pure (h1) ?_ ?_ | refine CallV_pure (h2) ?_ ?_ | refine CallV_pure (h3) ?_ ?_ | (refine GuardK_split ?_ ?_ <;> intro hc <;> (try simp only [hc]) <;> try simp at hc) | (with_reducible refine And.intro ?_ ?_; (focus ((repeat' (with_reducible refine And.intro ?_ ?_)) <;> first | exact trivial | assumption | (simp; done) | (simp only [List.length_map] at *; omega) | omega | (simp [D.cells, D.ok, D.one, D.pt, D.pt1]; done)))) | (with_reducible intro x hx) | omega) <;> (try simp only [Nat.reduceBEq, argEnv, reduceIte, Nat.reduceAdd, reduceCtorEq, okD, unD, pickD, loadD, D.cells, D.ok, D.one, D.pt, D.pt1, D.pt0, D.norm1, cond_false, ne_eq, view, view2, view1, view0, mapO, D.sc, D.sc1, D.sc2, ofRes, fw]))
/-- What a request does to a calendar: users, polls, the version, the error. -/
def calF (us : List Us) (ps : List Po) (a : As) : List Us × List Po × Int × Int :=
 if a.user = a.caller then
  if a.kind = 1 then ((putUF us a.user a.se).1, ps, (putUF us a.user a.se).2.1, (putUF us a.user a.se).2.2)
  else if a.kind = 2 then if (findU us a.user).isSome then (outU a.user us, keepP a.user ps, 0, 0) else (us, ps, 0, 4)
  else if a.kind = 3 then ((putF us a.user a.id a.ev).1, ps, (putF us a.user a.id a.ev).2.1, (putF us a.user a.id a.ev).2.2)
  else if a.kind = 4 then match findU us a.user with
   | none => (us, ps, 0, 4)
   | some u => if (findE u.evs a.id).isSome = true then (us.map (rep (delU u a.id)), ps, IntKind.u64.wrap (u.ver + 1), 0) else (us, ps, 0, 4)
  else (us, ps, 0, 2)
 else (us, ps, 0, 5)
theorem withR_mem {us : List Us} {u x : Us} (hx : x ∈ us) (hne : x.id ≠ u.id) : x ∈ withR us u := by
 have key : ∀ (l : List Us) (s : List Us × Bool), (x ∈ l ∨ x ∈ s.1) → x ∈ (l.foldl (withS u) s).1 := by
  intro l
  induction l with
  | nil => intro s h; simpa using h
  | cons y l ih =>
   intro s h
   rw [List.foldl_cons]
   refine ih _ ?_
   rcases h with h | h
   ·rcases List.mem_cons.1 h with rfl | h
    ·right
     unfold withS
     dsimp only
     rw [if_neg hne]
     simp
    ·exact .inl h
   ·right
    unfold withS
    dsimp only
    (repeat' split) <;> simp [h]
 have h := key us ([], false) (.inl hx)
 have hg : withG u us = us.foldl (withS u) ([], false) := rfl
 unfold withR
 rw [hg]
 split
 ·exact h
 ·exact List.mem_append_left _ h
theorem cal_mem {us : List Us} {ps : List Po} {a : As} {x : Us} (hx : x ∈ us) : x.id = a.caller ∨ x ∈ (calF us ps a).1 := by
 by_cases hc : x.id = a.caller
 ·exact .inl hc
 refine .inr ?_
 unfold calF
 split
 ·rename_i hu
  have hne : x.id ≠ a.user := by rw [hu]; exact hc
  split
  ·dsimp only
   unfold putUF
   split
   ·exact hx
   ·split
    ·exact hx
    ·exact withR_mem hx hne
  ·split
   ·split
    ·refine List.mem_filter.2 ⟨hx, by simpa using hne⟩
    ·exact hx
   ·split
    ·dsimp only
     unfold putF
     cases hf : findU us a.user with
     | none => exact hx
     | some u =>
      dsimp only
      split
      ·exact hx
      ·split
       ·exact hx
       ·refine List.mem_map.2 ⟨x, hx, ?_⟩
        have : ¬ x.id = u.id := by rw [findU_id hf]; exact hne
        simp [rep, putU, this]
    ·split
     ·cases hf : findU us a.user with
      | none => exact hx
      | some u =>
       dsimp only
       split
       ·refine List.mem_map.2 ⟨x, hx, ?_⟩
        have : ¬ x.id = u.id := by rw [findU_id hf]; exact hne
        simp [rep, delU, this]
       ·exact hx
     ·exact hx
 ·exact hx
theorem cal_err (us : List Us) (ps : List Po) (a : As) : (calF us ps a).2.2.2 = 0 ∨ ((calF us ps a).1 = us ∧ (calF us ps a).2.1 = ps ∧ (calF us ps a).2.2.1 = 0) := by
 unfold calF
 split
 ·split
  ·dsimp only
   unfold putUF
   (repeat' split) <;> simp
  ·split
   ·split <;> simp
   ·split
    ·dsimp only
     rcases putF_cases us a.user a.id a.ev with ⟨_, h2, h3⟩ | ⟨u, _, h⟩
     ·exact .inr ⟨h2, rfl, h3⟩
     ·rw [h]; exact .inl rfl
    ·split
     ·cases findU us a.user with
      | none => simp
      | some u => dsimp only; split <;> simp
     ·simp
 ·simp
end Go.Proofs.Ytoleaiaeghbffaa

namespace Go.Proofs.Ytoleaiaeghbffaa
open Go Go.Vi


section
variable (t : Int) (us : List Us) (ps : List Po) (ds : List Dn) (a : As) (n : Nat)
set_option maxHeartbeats 8000000 in
theorem calendar_p (hw : Wel us n) (hn : n ≤ 1000000) (hp : ps.length ≤ 1000000) (hs : a.se.fits) (he : a.ev.fits) (hc : a.ev.ch.length ≤ 14073748835123) :
  PureD Try.prog 12 [St t us ps ds, .agg a.cells] (.tup [St t (calF us ps a).1 (calF us ps a).2.1 ds, .int .u64 (calF us ps a).2.2.1, .int .i64 (calF us ps a).2.2.2]) := by
 have hw' := hw
 obtain ⟨w1, w2, w3⟩ := hw
 refine pureV Try.func12 low12 (by simp [c12]) ?_
 unfold calF
 by_cases hu : a.user = a.caller
 case neg =>
  have c1 : (a.user == a.caller) = false := by simpa using hu
  rw [if_neg hu]
  simp only [c12, St, As.cells]
  repeat' ((first | apply Run_seq | apply Run_skip | apply Run_block | apply Run_blk | refine Run_exit rfl ?_ | apply Run_ret | apply Run_nil | apply Run_condK | apply Run_ops mixed | with_reducible refine PostV_open ?_ | with_reducible refine ro_callV ?_ | (refine CondK_split ?_ ?_ <;> intro hc <;> (try simp only [hc]) <;> try simp at hc) | (with_reducible refine And.intro ?_ ?_; (focus ((repeat' (with_reducible refine And.intro ?_ ?_)) <;> first | exact trivial | assumption | (simp; done) | (simp only [List.length_map] at *; omega) | omega | (simp [D.cells, D.ok, D.one, D.pt, D.pt1]; done)))) | (with_reducible intro x hx) | omega) <;> (try simp only [Nat.reduceBEq, argEnv, reduceIte, Nat.reduceAdd, Nat.reduceLeDiff, reduceCtorEq, binD, binInt, faddrD, loadD, splice, D.cells, D.ok, D.one, D.pt, D.pt1, D.pt0, D.norm1, ne_eq, Int.reduceEq, view, view2, view1, view0, mapO, ofRes, fw]))
 have c1 : (a.user == a.caller) = true := by simpa using hu
 rw [if_pos hu]
 by_cases h1 : a.kind = 1
 ·have k1 : (a.kind == 1) = true := by simpa using h1
  rw [if_pos h1]
  have pu := putUser_p t us ps ds a.user a.se (by omega) w2 hs
  generalize putUF us a.user a.se = r at pu ⊢
  simp only [c12, St, As.cells, Se.cells] at pu ⊢
  repeat' ((first | apply Run_seq | apply Run_skip | apply Run_block | apply Run_blk | refine Run_exit rfl ?_ | apply Run_ret | apply Run_nil | apply Run_condK | apply Run_ops mixed | with_reducible refine PostV_open ?_ | with_reducible refine ro_callV ?_ | refine CallV_pure (pu) ?_ ?_ | (refine CondK_split ?_ ?_ <;> intro hc <;> (try simp only [hc]) <;> try simp at hc) | (with_reducible refine And.intro ?_ ?_; (focus ((repeat' (with_reducible refine And.intro ?_ ?_)) <;> first | exact trivial | assumption | (simp; done) | (simp only [List.length_map] at *; omega) | omega | (simp [D.cells, D.ok, D.one, D.pt, D.pt1]; done)))) | (with_reducible intro x hx) | omega) <;> (try simp only [k1, Nat.reduceBEq, argEnv, reduceIte, Nat.reduceAdd, Nat.reduceLeDiff, reduceCtorEq, binD, binInt, faddrD, extD, loadD, splice, D.cells, D.ok, D.one, D.pt, D.pt1, D.pt0, D.norm1, ne_eq, view, view2, view1, view0, mapO, D.sc, D.sc1, D.sc2, ofRes, fw]))
 have k1 : (a.kind == 1) = false := by simpa using h1
 rw [if_neg h1]
 by_cases h2 : a.kind = 2
 ·have k2 : (a.kind == 2) = true := by simpa using h2
  rw [if_pos h2]
  have lv := leave_p t us ps ds a.user (by omega) (by omega) w2
  cases hf : (findU us a.user).isSome with
  | true =>
   rw [hf] at lv
   simp only [if_true] at lv ⊢
   generalize outU a.user us = us' at lv ⊢
   generalize keepP a.user ps = ps' at lv ⊢
   simp only [c12, St, As.cells] at lv ⊢
   repeat' ((first | apply Run_seq | apply Run_skip | apply Run_block | apply Run_blk | refine Run_exit rfl ?_ | apply Run_ret | apply Run_nil | apply Run_condK | apply Run_ops mixed | with_reducible refine PostV_open ?_ | with_reducible refine ro_callV ?_ | refine CallV_pure (lv) ?_ ?_ | (refine CondK_split ?_ ?_ <;> intro hc <;> (try simp only [hc]) <;> try simp at hc) | (with_reducible refine And.intro ?_ ?_; (focus ((repeat' (with_reducible refine And.intro ?_ ?_)) <;> first | exact trivial | assumption | (simp; done) | (simp only [List.length_map] at *; omega) | omega | (simp [D.cells, D.ok, D.one, D.pt, D.pt1]; done)))) | (with_reducible intro x hx) | omega) <;> (try simp only [k1, k2, Nat.reduceBEq, argEnv, reduceIte, Nat.reduceAdd, reduceCtorEq, binD, binInt, faddrD, extD, loadD, splice, D.cells, D.ok, D.one, D.pt, D.pt1, D.pt0, D.norm1, ne_eq, Int.reduceEq, view, view2, view1, view0, mapO, D.sc, D.sc1, D.sc2, ofRes, fw]))
  | false =>
   rw [hf] at lv
   simp only [Bool.false_eq_true, if_false] at lv ⊢
   simp only [c12, St, As.cells] at lv ⊢
   repeat' ((first | apply Run_seq | apply Run_skip | apply Run_block | apply Run_blk | refine Run_exit rfl ?_ | apply Run_ret | apply Run_nil | apply Run_condK | apply Run_ops mixed | with_reducible refine PostV_open ?_ | with_reducible refine ro_callV ?_ | refine CallV_pure (lv) ?_ ?_ | (refine CondK_split ?_ ?_ <;> intro hc <;> (try simp only [hc]) <;> try simp at hc) | (with_reducible refine And.intro ?_ ?_; (focus ((repeat' (with_reducible refine And.intro ?_ ?_)) <;> first | exact trivial | assumption | (simp; done) | (simp only [List.length_map] at *; omega) | omega | (simp [D.cells, D.ok, D.one, D.pt, D.pt1]; done)))) | (with_reducible intro x hx) | omega) <;> (try simp only [k1, k2, Nat.reduceBEq, argEnv, reduceIte, Nat.reduceAdd, reduceCtorEq, binD, binInt, faddrD, extD, loadD, splice, D.cells, D.ok, D.one, D.pt, D.pt1, D.pt0, D.norm1, ne_eq, Int.reduceEq, view, view2, view1, view0, mapO, D.sc, D.sc1, D.sc2, ofRes, fw]))
 have k2 : (a.kind == 2) = false := by simpa using h2
 rw [if_neg h2]
 by_cases h3 : a.kind = 3
 ·have k3 : (a.kind == 3) = true := by simpa using h3
  rw [if_pos h3]
  have pu := putF_p t ps ds a.user a.id hw' hn he hc
  generalize putF us a.user a.id a.ev = r at pu ⊢
  simp only [c12, St, As.cells, Ev.cells] at pu ⊢
  repeat' ((first | apply Run_seq | apply Run_skip | apply Run_block | apply Run_blk | refine Run_exit rfl ?_ | apply Run_ret | apply Run_nil | apply Run_condK | apply Run_ops mixed | with_reducible refine PostV_open ?_ | with_reducible refine ro_callV ?_ | refine CallV_pure (pu) ?_ ?_ | (refine CondK_split ?_ ?_ <;> intro hc <;> (try simp only [hc]) <;> try simp at hc) | (with_reducible refine And.intro ?_ ?_; (focus ((repeat' (with_reducible refine And.intro ?_ ?_)) <;> first | exact trivial | assumption | (simp; done) | (simp only [List.length_map] at *; omega) | omega | (simp [D.cells, D.ok, D.one, D.pt, D.pt1]; done)))) | (with_reducible intro x hx) | omega) <;> (try simp only [k1, k2, k3, Nat.reduceBEq, argEnv, reduceIte, Nat.reduceAdd, Nat.reduceLeDiff, reduceCtorEq, binD, binInt, faddrD, extD, loadD, splice, D.cells, D.ok, D.one, D.pt, D.pt1, D.pt0, D.norm1, ne_eq, view, view2, view1, view0, mapO, D.sc, D.sc1, D.sc2, ofRes, fw]))
 have k3 : (a.kind == 3) = false := by simpa using h3
 rw [if_neg h3]
 by_cases h4 : a.kind = 4
 ·have k4 : (a.kind == 4) = true := by simpa using h4
  rw [if_pos h4]
  cases hf : findU us a.user with
  | none =>
   have ca := ca_none t us ps ds a.user a.id (by omega) w2 hf
   simp only [c12, St, As.cells] at ca ⊢
   repeat' ((first | apply Run_seq | apply Run_skip | apply Run_block | apply Run_blk | refine Run_exit rfl ?_ | apply Run_ret | apply Run_nil | apply Run_condK | apply Run_ops mixed | with_reducible refine PostV_open ?_ | with_reducible refine ro_callV ?_ | refine CallV_pure (ca) ?_ ?_ | (refine CondK_split ?_ ?_ <;> intro hc <;> (try simp only [hc]) <;> try simp at hc) | (with_reducible refine And.intro ?_ ?_; (focus ((repeat' (with_reducible refine And.intro ?_ ?_)) <;> first | exact trivial | assumption | (simp; done) | (simp only [List.length_map] at *; omega) | omega | (simp [D.cells, D.ok, D.one, D.pt, D.pt1]; done)))) | (with_reducible intro x hx) | omega) <;> (try simp only [k1, k2, k3, k4, Nat.reduceBEq, argEnv, reduceIte, Nat.reduceAdd, reduceCtorEq, binD, binInt, faddrD, extD, loadD, splice, D.cells, D.ok, D.one, D.pt, D.pt1, D.pt0, D.norm1, ne_eq, Int.reduceEq, view, view2, view1, view0, mapO, D.sc, D.sc1, D.sc2, ofRes, fw]))
  | some u =>
   obtain ⟨uf, us1, ul⟩ := w3 u (findU_some hf).1
   dsimp only
   by_cases hq : (findE u.evs a.id).isSome = true
   ·rw [if_pos hq]
    have ca := ca_ok t us ps ds a.user a.id u (by omega) w2 hf (by omega) us1 hq
    generalize us.map (rep (delU u a.id)) = us' at ca ⊢
    simp only [c12, St, As.cells] at ca ⊢
    repeat' ((first | apply Run_seq | apply Run_skip | apply Run_block | apply Run_blk | refine Run_exit rfl ?_ | apply Run_ret | apply Run_nil | apply Run_condK | apply Run_ops mixed | with_reducible refine PostV_open ?_ | with_reducible refine ro_callV ?_ | refine CallV_pure (ca) ?_ ?_ | (refine CondK_split ?_ ?_ <;> intro hc <;> (try simp only [hc]) <;> try simp at hc) | (with_reducible refine And.intro ?_ ?_; (focus ((repeat' (with_reducible refine And.intro ?_ ?_)) <;> first | exact trivial | assumption | (simp; done) | (simp only [List.length_map] at *; omega) | omega | (simp [D.cells, D.ok, D.one, D.pt, D.pt1]; done)))) | (with_reducible intro x hx) | omega) <;> (try simp only [k1, k2, k3, k4, Nat.reduceBEq, argEnv, reduceIte, Nat.reduceAdd, reduceCtorEq, binD, binInt, faddrD, extD, loadD, splice, D.cells, D.ok, D.one, D.pt, D.pt1, D.pt0, D.norm1, ne_eq, Int.reduceEq, view, view2, view1, view0, mapO, D.sc, D.sc1, D.sc2, ofRes, fw]))
   ·rw [if_neg hq]
    have ca := ca_no t us ps ds a.user a.id u (by omega) w2 hf (by omega) us1 (by simpa using hq)
    simp only [c12, St, As.cells] at ca ⊢
    repeat' ((first | apply Run_seq | apply Run_skip | apply Run_block | apply Run_blk | refine Run_exit rfl ?_ | apply Run_ret | apply Run_nil | apply Run_condK | apply Run_ops mixed | with_reducible refine PostV_open ?_ | with_reducible refine ro_callV ?_ | refine CallV_pure (ca) ?_ ?_ | (refine CondK_split ?_ ?_ <;> intro hc <;> (try simp only [hc]) <;> try simp at hc) | (with_reducible refine And.intro ?_ ?_; (focus ((repeat' (with_reducible refine And.intro ?_ ?_)) <;> first | exact trivial | assumption | (simp; done) | (simp only [List.length_map] at *; omega) | omega | (simp [D.cells, D.ok, D.one, D.pt, D.pt1]; done)))) | (with_reducible intro x hx) | omega) <;> (try simp only [k1, k2, k3, k4, Nat.reduceBEq, argEnv, reduceIte, Nat.reduceAdd, reduceCtorEq, binD, binInt, faddrD, extD, loadD, splice, D.cells, D.ok, D.one, D.pt, D.pt1, D.pt0, D.norm1, ne_eq, Int.reduceEq, view, view2, view1, view0, mapO, D.sc, D.sc1, D.sc2, ofRes, fw]))
 have k4 : (a.kind == 4) = false := by simpa using h4
 rw [if_neg h4]
 simp only [c12, St, As.cells]
 repeat' ((first | apply Run_seq | apply Run_skip | apply Run_block | apply Run_blk | refine Run_exit rfl ?_ | apply Run_ret | apply Run_nil | apply Run_condK | apply Run_ops mixed | with_reducible refine PostV_open ?_ | with_reducible refine ro_callV ?_ | (refine CondK_split ?_ ?_ <;> intro hc <;> (try simp only [hc]) <;> try simp at hc) | (with_reducible refine And.intro ?_ ?_; (focus ((repeat' (with_reducible refine And.intro ?_ ?_)) <;> first | exact trivial | assumption | (simp; done) | (simp only [List.length_map] at *; omega) | omega | (simp [D.cells, D.ok, D.one, D.pt, D.pt1]; done)))) | (with_reducible intro x hx) | omega) <;> (try simp only [k1, k2, k3, k4, Nat.reduceBEq, argEnv, reduceIte, Nat.reduceAdd, reduceCtorEq, binD, binInt, faddrD, loadD, splice, D.cells, D.ok, D.one, D.pt1, D.pt0, D.norm1, ne_eq, Int.reduceEq, view, view2, view1, view0, mapO, ofRes, fw]))
set_option maxHeartbeats 8000000 in
theorem refCalendar_p (hw : Wel us n) (hn : n ≤ 1000000) (hp : ps.length ≤ 1000000) (hs : a.se.fits) (he : a.ev.fits) :
  PureD Try.prog 13 [St t us ps ds, .agg a.cells] (Rr t (calF us ps a).1 (calF us ps a).2.1 ds (calF us ps a).2.2.1 (calF us ps a).2.2.2) := by
 have hw' := hw
 obtain ⟨w1, w2, w3⟩ := hw
 refine pureV Try.func13 low13 (by simp [c13]) ?_
 unfold calF
 by_cases hu : a.user = a.caller
 case neg =>
  have c1 : (a.user == a.caller) = false := by simpa using hu
  rw [if_neg hu]
  simp only [c13, St, Rr, As.cells]
  repeat' ((first | apply Run_seq | apply Run_skip | apply Run_block | apply Run_blk | refine Run_exit rfl ?_ | apply Run_ret | apply Run_nil | apply Run_condK | apply Run_ops mixed | with_reducible refine PostV_open ?_ | with_reducible refine ro_callV ?_ | (refine CondK_split ?_ ?_ <;> intro hc <;> (try simp only [hc]) <;> try simp at hc) | (with_reducible refine And.intro ?_ ?_; (focus ((repeat' (with_reducible refine And.intro ?_ ?_)) <;> first | exact trivial | assumption | (simp; done) | (simp only [List.length_map] at *; omega) | omega | (simp [D.cells, D.ok, D.one, D.pt, D.pt1]; done)))) | (with_reducible intro x hx) | omega) <;> (try simp only [Nat.reduceBEq, argEnv, reduceIte, Nat.reduceAdd, Nat.reduceLeDiff, reduceCtorEq, binD, binInt, aggD, faddrD, loadD, fillD, splice, D.cells, D.ok, D.one, D.pt, D.pt1, D.pt0, D.norm1, ne_eq, Int.reduceEq, view, view2, view1, view0, mapO, ofRes, fw]))
 have c1 : (a.user == a.caller) = true := by simpa using hu
 rw [if_pos hu]
 by_cases h1 : a.kind = 1
 ·have k1 : (a.kind == 1) = true := by simpa using h1
  rw [if_pos h1]
  have pu := refPutUser_p t us ps ds a.user a.se (by omega) hs
  generalize putUF us a.user a.se = r at pu ⊢
  simp only [c13, St, Rr, As.cells, Se.cells] at pu ⊢
  repeat' ((first | apply Run_seq | apply Run_skip | apply Run_block | apply Run_blk | refine Run_exit rfl ?_ | apply Run_ret | apply Run_nil | apply Run_condK | apply Run_ops mixed | with_reducible refine PostV_open ?_ | with_reducible refine ro_callV ?_ | refine CallV_pure (pu) ?_ ?_ | (refine CondK_split ?_ ?_ <;> intro hc <;> (try simp only [hc]) <;> try simp at hc) | (with_reducible refine And.intro ?_ ?_; (focus ((repeat' (with_reducible refine And.intro ?_ ?_)) <;> first | exact trivial | assumption | (simp; done) | (simp only [List.length_map] at *; omega) | omega | (simp [D.cells, D.ok, D.one, D.pt, D.pt1]; done)))) | (with_reducible intro x hx) | omega) <;> (try simp only [k1, Nat.reduceBEq, argEnv, reduceIte, Nat.reduceAdd, Nat.reduceLeDiff, reduceCtorEq, binD, binInt, aggD, faddrD, loadD, fillD, splice, D.cells, D.ok, D.one, D.pt, D.pt1, D.pt0, D.norm1, ne_eq, view, view2, view1, view0, mapO, D.sc, D.sc1, D.sc2, ofRes, fw]))
 have k1 : (a.kind == 1) = false := by simpa using h1
 rw [if_neg h1]
 by_cases h2 : a.kind = 2
 ·have k2 : (a.kind == 2) = true := by simpa using h2
  rw [if_pos h2]
  have lv := refLeave_p t us ps ds a.user (by omega) (by omega)
  cases hf : (findU us a.user).isSome with
  | true =>
   rw [hf] at lv
   simp only [if_true] at lv ⊢
   generalize outU a.user us = us' at lv ⊢
   generalize keepP a.user ps = ps' at lv ⊢
   simp only [c13, St, Rr, As.cells] at lv ⊢
   repeat' ((first | apply Run_seq | apply Run_skip | apply Run_block | apply Run_blk | refine Run_exit rfl ?_ | apply Run_ret | apply Run_nil | apply Run_condK | apply Run_ops mixed | with_reducible refine PostV_open ?_ | with_reducible refine ro_callV ?_ | refine CallV_pure (lv) ?_ ?_ | (refine CondK_split ?_ ?_ <;> intro hc <;> (try simp only [hc]) <;> try simp at hc) | (with_reducible refine And.intro ?_ ?_; (focus ((repeat' (with_reducible refine And.intro ?_ ?_)) <;> first | exact trivial | assumption | (simp; done) | (simp only [List.length_map] at *; omega) | omega | (simp [D.cells, D.ok, D.one, D.pt, D.pt1]; done)))) | (with_reducible intro x hx) | omega) <;> (try simp only [k1, k2, Nat.reduceBEq, argEnv, reduceIte, Nat.reduceAdd, Nat.reduceLeDiff, reduceCtorEq, binD, binInt, aggD, faddrD, loadD, fillD, splice, D.cells, D.ok, D.one, D.pt, D.pt1, D.pt0, D.norm1, ne_eq, Int.reduceEq, view, view2, view1, view0, mapO, D.sc, D.sc1, D.sc2, ofRes, fw]))
  | false =>
   rw [hf] at lv
   simp only [Bool.false_eq_true, if_false] at lv ⊢
   simp only [c13, St, Rr, As.cells] at lv ⊢
   repeat' ((first | apply Run_seq | apply Run_skip | apply Run_block | apply Run_blk | refine Run_exit rfl ?_ | apply Run_ret | apply Run_nil | apply Run_condK | apply Run_ops mixed | with_reducible refine PostV_open ?_ | with_reducible refine ro_callV ?_ | refine CallV_pure (lv) ?_ ?_ | (refine CondK_split ?_ ?_ <;> intro hc <;> (try simp only [hc]) <;> try simp at hc) | (with_reducible refine And.intro ?_ ?_; (focus ((repeat' (with_reducible refine And.intro ?_ ?_)) <;> first | exact trivial | assumption | (simp; done) | (simp only [List.length_map] at *; omega) | omega | (simp [D.cells, D.ok, D.one, D.pt, D.pt1]; done)))) | (with_reducible intro x hx) | omega) <;> (try simp only [k1, k2, Nat.reduceBEq, argEnv, reduceIte, Nat.reduceAdd, Nat.reduceLeDiff, reduceCtorEq, binD, binInt, aggD, faddrD, loadD, fillD, splice, D.cells, D.ok, D.one, D.pt, D.pt1, D.pt0, D.norm1, ne_eq, Int.reduceEq, view, view2, view1, view0, mapO, D.sc, D.sc1, D.sc2, ofRes, fw]))
 have k2 : (a.kind == 2) = false := by simpa using h2
 rw [if_neg h2]
 by_cases h3 : a.kind = 3
 ·have k3 : (a.kind == 3) = true := by simpa using h3
  rw [if_pos h3]
  have pu := refPutEvent_p t us ps ds a.user a.id a.ev n hw' hn he
  generalize putF us a.user a.id a.ev = r at pu ⊢
  simp only [c13, St, Rr, As.cells, Ev.cells] at pu ⊢
  repeat' ((first | apply Run_seq | apply Run_skip | apply Run_block | apply Run_blk | refine Run_exit rfl ?_ | apply Run_ret | apply Run_nil | apply Run_condK | apply Run_ops mixed | with_reducible refine PostV_open ?_ | with_reducible refine ro_callV ?_ | refine CallV_pure (pu) ?_ ?_ | (refine CondK_split ?_ ?_ <;> intro hc <;> (try simp only [hc]) <;> try simp at hc) | (with_reducible refine And.intro ?_ ?_; (focus ((repeat' (with_reducible refine And.intro ?_ ?_)) <;> first | exact trivial | assumption | (simp; done) | (simp only [List.length_map] at *; omega) | omega | (simp [D.cells, D.ok, D.one, D.pt, D.pt1]; done)))) | (with_reducible intro x hx) | omega) <;> (try simp only [k1, k2, k3, Nat.reduceBEq, argEnv, reduceIte, Nat.reduceAdd, Nat.reduceLeDiff, reduceCtorEq, binD, binInt, aggD, faddrD, loadD, fillD, splice, D.cells, D.ok, D.one, D.pt, D.pt1, D.pt0, D.norm1, ne_eq, view, view2, view1, view0, mapO, D.sc, D.sc1, D.sc2, ofRes, fw]))
 have k3 : (a.kind == 3) = false := by simpa using h3
 rw [if_neg h3]
 by_cases h4 : a.kind = 4
 ·have k4 : (a.kind == 4) = true := by simpa using h4
  rw [if_pos h4]
  have ca := refCancel_p t us ps ds a.user a.id n hw' hn
  cases hf : findU us a.user with
  | none =>
   rw [hf] at ca
   simp only [c13, St, Rr, As.cells] at ca ⊢
   repeat' ((first | apply Run_seq | apply Run_skip | apply Run_block | apply Run_blk | refine Run_exit rfl ?_ | apply Run_ret | apply Run_nil | apply Run_condK | apply Run_ops mixed | with_reducible refine PostV_open ?_ | with_reducible refine ro_callV ?_ | refine CallV_pure (ca) ?_ ?_ | (refine CondK_split ?_ ?_ <;> intro hc <;> (try simp only [hc]) <;> try simp at hc) | (with_reducible refine And.intro ?_ ?_; (focus ((repeat' (with_reducible refine And.intro ?_ ?_)) <;> first | exact trivial | assumption | (simp; done) | (simp only [List.length_map] at *; omega) | omega | (simp [D.cells, D.ok, D.one, D.pt, D.pt1]; done)))) | (with_reducible intro x hx) | omega) <;> (try simp only [k1, k2, k3, k4, Nat.reduceBEq, argEnv, reduceIte, Nat.reduceAdd, Nat.reduceLeDiff, reduceCtorEq, binD, binInt, aggD, faddrD, loadD, fillD, splice, D.cells, D.ok, D.one, D.pt, D.pt1, D.pt0, D.norm1, ne_eq, Int.reduceEq, view, view2, view1, view0, mapO, D.sc, D.sc1, D.sc2, ofRes, fw]))
  | some u =>
   rw [hf] at ca
   dsimp only at ca ⊢
   by_cases hq : (findE u.evs a.id).isSome = true
   ·rw [if_pos hq] at ca ⊢
    generalize us.map (rep (delU u a.id)) = us' at ca ⊢
    simp only [c13, St, Rr, As.cells] at ca ⊢
    repeat' ((first | apply Run_seq | apply Run_skip | apply Run_block | apply Run_blk | refine Run_exit rfl ?_ | apply Run_ret | apply Run_nil | apply Run_condK | apply Run_ops mixed | with_reducible refine PostV_open ?_ | with_reducible refine ro_callV ?_ | refine CallV_pure (ca) ?_ ?_ | (refine CondK_split ?_ ?_ <;> intro hc <;> (try simp only [hc]) <;> try simp at hc) | (with_reducible refine And.intro ?_ ?_; (focus ((repeat' (with_reducible refine And.intro ?_ ?_)) <;> first | exact trivial | assumption | (simp; done) | (simp only [List.length_map] at *; omega) | omega | (simp [D.cells, D.ok, D.one, D.pt, D.pt1]; done)))) | (with_reducible intro x hx) | omega) <;> (try simp only [k1, k2, k3, k4, Nat.reduceBEq, argEnv, reduceIte, Nat.reduceAdd, Nat.reduceLeDiff, reduceCtorEq, binD, binInt, aggD, faddrD, loadD, fillD, splice, D.cells, D.ok, D.one, D.pt, D.pt1, D.pt0, D.norm1, ne_eq, Int.reduceEq, view, view2, view1, view0, mapO, D.sc, D.sc1, D.sc2, ofRes, fw]))
   ·rw [if_neg hq] at ca ⊢
    simp only [c13, St, Rr, As.cells] at ca ⊢
    repeat' ((first | apply Run_seq | apply Run_skip | apply Run_block | apply Run_blk | refine Run_exit rfl ?_ | apply Run_ret | apply Run_nil | apply Run_condK | apply Run_ops mixed | with_reducible refine PostV_open ?_ | with_reducible refine ro_callV ?_ | refine CallV_pure (ca) ?_ ?_ | (refine CondK_split ?_ ?_ <;> intro hc <;> (try simp only [hc]) <;> try simp at hc) | (with_reducible refine And.intro ?_ ?_; (focus ((repeat' (with_reducible refine And.intro ?_ ?_)) <;> first | exact trivial | assumption | (simp; done) | (simp only [List.length_map] at *; omega) | omega | (simp [D.cells, D.ok, D.one, D.pt, D.pt1]; done)))) | (with_reducible intro x hx) | omega) <;> (try simp only [k1, k2, k3, k4, Nat.reduceBEq, argEnv, reduceIte, Nat.reduceAdd, Nat.reduceLeDiff, reduceCtorEq, binD, binInt, aggD, faddrD, loadD, fillD, splice, D.cells, D.ok, D.one, D.pt, D.pt1, D.pt0, D.norm1, ne_eq, Int.reduceEq, view, view2, view1, view0, mapO, D.sc, D.sc1, D.sc2, ofRes, fw]))
 have k4 : (a.kind == 4) = false := by simpa using h4
 rw [if_neg h4]
 simp only [c13, St, Rr, As.cells]
 repeat' ((first | apply Run_seq | apply Run_skip | apply Run_block | apply Run_blk | refine Run_exit rfl ?_ | apply Run_ret | apply Run_nil | apply Run_condK | apply Run_ops mixed | with_reducible refine PostV_open ?_ | with_reducible refine ro_callV ?_ | (refine CondK_split ?_ ?_ <;> intro hc <;> (try simp only [hc]) <;> try simp at hc) | (with_reducible refine And.intro ?_ ?_; (focus ((repeat' (with_reducible refine And.intro ?_ ?_)) <;> first | exact trivial | assumption | (simp; done) | (simp only [List.length_map] at *; omega) | omega | (simp [D.cells, D.ok, D.one, D.pt, D.pt1]; done)))) | (with_reducible intro x hx) | omega) <;> (try simp only [k1, k2, k3, k4, Nat.reduceBEq, argEnv, reduceIte, Nat.reduceAdd, Nat.reduceLeDiff, reduceCtorEq, binD, binInt, aggD, faddrD, loadD, fillD, splice, D.cells, D.ok, D.one, D.pt1, D.pt0, D.norm1, ne_eq, Int.reduceEq, view, view2, view1, view0, mapO, ofRes, fw]))
end
end Go.Proofs.Ytoleaiaeghbffaa

namespace Go.Proofs.Ytoleaiaeghbffaa
open Go Go.Vi


theorem binD0_p : PureD Try.prog 33 [L [], .int .u32 0, .fn 34 []] (.tup [.int .i64 0, .bool false]) := by
 refine pureV Try.func33 low33 (by simp [c33]) ?_
 simp only [c33]
 repeat' ((first | apply Run_seq | apply Run_skip | apply Run_block | apply Run_blk | refine Run_exit rfl ?_ | apply Run_ret | apply Run_nil | apply Run_condK | apply Run_ops mixed | with_reducible refine PostV_open ?_ | with_reducible refine ro_callV ?_ | simp (disch := omega) only [w64, wu64, wu32, wu16, wu8, Int.tdiv_eq_ediv_of_nonneg, Int.tmod_eq_emod_of_nonneg] | ((first | refine GuardK_split ?_ ?_ | refine CondK_split ?_ ?_) <;> intro hc <;> (try simp only [hc]) <;> try simp at hc) | (with_reducible refine And.intro ?_ ?_; (focus ((repeat' (with_reducible refine And.intro ?_ ?_)) <;> first | exact trivial | assumption | (simp; done) | (simp only [List.length_map] at *; omega) | omega | (simp [D.cells, D.ok, D.one, D.pt, D.pt1]; done)))) | (with_reducible intro x hx) | omega) <;> (try simp only [Nat.reduceBEq, argEnv, Nat.reduceAdd, lenD, fw]))
 refine Run_loop (ι := Unit) (fun _ => ([(0, L []), (1, .int .u32 0), (2, .fn 34 []), (8, .int .i64 0), (9, .int .i64 0), (10, .int .i64 0)], [])) (fun _ => 0) () ?_ ?_
 ·refine Ent_gc [] (by rfl) (by simp) (by simp [keptW]) (by simp [lk_hit, lk_miss, D.pt0, viewS_own', pull, pull2, pull1, pull0, idx_nil, gate, List.mem_cons, or_false, view0, mapO])
 rintro ⟨⟩ hk
 dsimp only
 repeat' ((first | apply Run_seq | apply Run_skip | apply Run_block | apply Run_blk | refine Run_exit rfl ?_ | apply Run_ret | apply Run_nil | apply Run_condK | apply Run_ops mixed | with_reducible refine PostV_open ?_ | with_reducible refine ro_callV ?_ | simp (disch := omega) only [w64, wu64, wu32, wu16, wu8, Int.tdiv_eq_ediv_of_nonneg, Int.tmod_eq_emod_of_nonneg] | ((first | refine GuardK_split ?_ ?_ | refine CondK_split ?_ ?_) <;> intro hc <;> (try simp only [hc]) <;> try simp at hc) | (with_reducible refine And.intro ?_ ?_; (focus ((repeat' (with_reducible refine And.intro ?_ ?_)) <;> first | exact trivial | assumption | (simp; done) | (simp only [List.length_map] at *; omega) | omega | (simp [D.cells, D.ok, D.one, D.pt, D.pt1]; done)))) | (with_reducible intro x hx) | omega) <;> (try simp only [Nat.reduceBEq, reduceIte, binD, binInt, pickD, D.pt0, D.norm1, cond_false, Int.reduceLT, view, view2, view1, view0, mapO, ofRes, fw]))
theorem placeD0_p : PureD Try.prog 16 [St 0 [] [] [], .int .u32 0] (.tup [.int .i64 0, .bool false]) := by
 refine pureV Try.func16 low16 (by simp [c16]) ?_
 simp only [c16, St, rowsU, rowsP, rowsD, List.map_nil]
 repeat' ((first | apply Run_seq | apply Run_ret | apply Run_nil | apply Run_ops mixed | with_reducible refine PostV_open ?_ | with_reducible refine ro_callV ?_ | refine CallV_pure (binD0_p) ?_ ?_ | (with_reducible refine And.intro ?_ ?_; (focus ((repeat' (with_reducible refine And.intro ?_ ?_)) <;> first | exact trivial | assumption | (simp; done) | (simp only [List.length_map] at *; omega) | omega | (simp [D.cells, D.ok, D.one, D.pt, D.pt1]; done)))) | (with_reducible intro x hx) | omega) <;> (try simp only [Nat.reduceBEq, argEnv, reduceIte, Nat.reduceAdd, reduceCtorEq, faddrD, extD, loadD, D.cells, D.ok, D.one, D.pt, D.pt1, D.pt0, D.norm1, ne_eq, view, view2, view1, view0, mapO, D.sc, D.sc1, D.sc2, ofRes, fw]))
def zAs : As := ⟨0, 0, 0, 0, 0, ⟨0, [], [], [], 0, 0⟩, ⟨0, 0, false, false, ⟨0, 0, 0, 0, [], [], [], [], 0⟩, [], [], []⟩, ⟨0, 0, 0, 0, [], [], 0, [], []⟩, ⟨#[]⟩, 0, 0, 0, false, 0⟩
theorem once0_p : PureD Try.prog 15 [St 0 [] [] [], .agg zAs.cells] (.tup [.int .u64 0, .int .i64 2, .bool true]) := by
 refine pureV Try.func15 low15 (by simp [c15]) ?_
 have pl := placeD0_p
 simp only [c15, St, rowsU, rowsP, rowsD, List.map_nil, As.cells, zAs, row1, row2, row3] at pl ⊢
 repeat' ((first | apply Run_seq | apply Run_skip | apply Run_block | apply Run_blk | refine Run_exit rfl ?_ | apply Run_ret | apply Run_nil | apply Run_condK | apply Run_ops mixed | apply Run_opsX mixed | with_reducible refine PostV_open ?_ | with_reducible refine ro_callV ?_ | refine CallV_pure (pl) ?_ ?_ | ((first | refine GuardK_split ?_ ?_ | refine CondK_split ?_ ?_) <;> intro hc <;> (try simp only [hc]) <;> try simp at hc) | (with_reducible refine And.intro ?_ ?_; (focus ((repeat' (with_reducible refine And.intro ?_ ?_)) <;> first | exact trivial | assumption | (simp; done) | (simp only [List.length_map] at *; omega) | omega | (simp [D.cells, D.ok, D.one, D.pt, D.pt1]; done)))) | (with_reducible intro x hx) | omega) <;> (try simp only [Nat.reduceBEq, argEnv, reduceIte, Nat.reduceAdd, reduceCtorEq, binD, binInt, faddrD, extD, loadD, D.cells, D.ok, D.one, D.pt, D.pt1, D.pt0, D.norm1, ne_eq, beq_self_eq_true, view, view2, view1, view0, mapO, D.sc, D.sc1, D.sc2, ofRes, fw]))
theorem fixed18_p : PureD Try.prog 6 [] (.bool true) := by
 refine pureV Try.func6 low6 (by simp [c6]) ?_
 have on := once0_p
 simp only [c6, St, rowsU, rowsP, rowsD, List.map_nil, As.cells, zAs, row1, row2, row3] at on ⊢
 repeat' ((first | apply Run_seq | apply Run_ret | apply Run_nil | apply Run_ops mixed | with_reducible refine PostV_open ?_ | with_reducible refine ro_callV ?_ | refine CallV_pure (on) ?_ ?_ | (refine GuardK_split ?_ ?_ <;> intro hc <;> (try simp only [hc]) <;> try simp at hc) | (with_reducible refine And.intro ?_ ?_; (focus ((repeat' (with_reducible refine And.intro ?_ ?_)) <;> first | exact trivial | assumption | (simp; done) | (simp only [List.length_map] at *; omega) | omega | (simp [D.cells, D.ok, D.one, D.pt, D.pt1]; done)))) | (with_reducible intro x hx) | omega) <;> (try simp only [Nat.reduceBEq, argEnv, reduceIte, binD, binInt, aggD, pickD, extD, fillD, D.pt, D.pt1, D.pt0, D.norm1, cond_true, beq_self_eq_true, view, view2, view1, view0, mapO, D.sc, D.sc1, D.sc2, ofRes, fw]))
 all_goals skip
theorem withR_sub {us : List Us} {u x : Us} (h : x ∈ withR us u) : x = u ∨ x ∈ us := by
 have key : ∀ (l : List Us) (s : List Us × Bool), (∀ y ∈ s.1, y = u ∨ y ∈ us) → (∀ y ∈ l, y ∈ us) → ∀ y ∈ (l.foldl (withS u) s).1, y = u ∨ y ∈ us := by
  intro l
  induction l with
  | nil => intro s h _; simpa using h
  | cons z l ih =>
   intro s h hl
   rw [List.foldl_cons]
   refine ih _ ?_ fun y hy => hl y (by simp [hy])
   intro y hy
   have hz := hl z (by simp)
   unfold withS at hy
   dsimp only at hy
   have hc : y ∈ s.1 ∨ y = u ∨ y = z := by
    split at hy <;> split at hy <;> (try simp only [List.mem_append, List.mem_singleton, or_assoc] at hy) <;> first | exact .inl hy | exact hy | exact hy.elim .inl (fun h => .inr (.inl h)) | exact hy.elim .inl (fun h => .inr (.inr h))
   rcases hc with hy | hy | hy
   ·exact h y hy
   ·exact .inl hy
   ·rw [hy]; exact .inr hz
 have hk := key us ([], false) (by simp) (fun y hy => hy)
 have hg : withG u us = us.foldl (withS u) ([], false) := rfl
 unfold withR at h
 rw [hg] at h
 split at h
 ·exact hk x h
 ·rcases List.mem_append.1 h with h | h
  ·exact hk x h
  ·exact .inl (by simpa using h)
theorem withR_len (us : List Us) (u : Us) : (withR us u).length ≤ 2 * us.length + 1 := by
 have := withG_len u us
 unfold withR
 split
 ·omega
 ·simp; omega
theorem cal_fits {t : Int} {us : List Us} {ps : List Po} {ds : List Dn} {a : As} (hfs : Sta.fits ⟨t, us, ps, ds⟩) (hw : Wel us 10) (hl : us.length ≤ 12) (hs : a.se.fits) (he : a.ev.fits) : Sta.fits ⟨t, (calF us ps a).1, (calF us ps a).2.1, ds⟩ := by
 obtain ⟨s1, s2, s3, s4, s5⟩ := hfs
 dsimp only at s1 s2 s3 s4 s5
 have h0 : Sta.fits ⟨t, us, ps, ds⟩ := ⟨s1, s2, s3, s4, s5⟩
 unfold calF
 split
 ·split
  ·dsimp only
   unfold putUF
   split
   ·exact h0
   ·split
    ·exact h0
    ·have := withR_len us (setU us a.user a.se)
     refine ⟨by dsimp only; omega, s2, s3, fun u hu => ?_, s5⟩
     rcases withR_sub hu with rfl | hu
     ·have hz : ((findU us a.user).getD zU).fit := by
       cases hf : findU us a.user with
       | none => exact zU_fit
       | some y => exact s4 y (findU_some hf).1
      exact ⟨hs, hz.2.1, hz.2.2⟩
     ·exact s4 u hu
  ·split
   ·split
    ·have h1 : (outU a.user us).length ≤ us.length := List.length_filter_le ..
     have h2 : (keepP a.user ps).length ≤ ps.length := List.length_filter_le ..
     exact ⟨by dsimp only; omega, by dsimp only; omega, s3, fun u hu => s4 u (List.mem_filter.1 hu).1, fun p hp => s5 p (List.mem_filter.1 hp).1⟩
    ·exact h0
   ·split
    ·exact fits_put h0 (hw.put a.user a.id (by omega) he)
    ·split
     ·cases hf : findU us a.user with
      | none => exact h0
      | some u =>
       dsimp only
       split
       ·obtain ⟨uf, us1, ul⟩ := hw.2.2 u (findU_some hf).1
        have hd := delEv_len u.evs a.id
        exact fits_put h0 (hw.rep (Nat.le_refl _) (delU_fit uf) (delEv_sorted a.id us1) (by show (delEv u.evs a.id).length ≤ _; omega))
       ·exact h0
     ·exact h0
 ·exact h0
theorem any_take {l : List Us} {j : Nat} {w : Us} (f : Us → Bool) (h : l[j]? = some w) : (l.take (j + 1)).any f = ((l.take j).any f || f w) := by
 rw [List.take_add_one, h]
 simp
set_option maxHeartbeats 16000000 in
theorem calLaw_p (t : Int) (us : List Us) (ps : List Po) (ds : List Dn) (a : As) (hf : fits us ps ds) (hfs : Sta.fits ⟨t, us, ps, ds⟩) (hs : a.se.fits) (he : a.ev.fits) :
  PureD Try.prog 5 [St t us ps ds, .agg a.cells] (.bool true) := by
 refine pureV Try.func5 low5 (by simp [c5]) ?_
 have h1 := great18_p t us ps ds a hf
 by_cases hg : (greatSt us ps ds || (a.great || !(decide (Srt ds) && risU us))) = true
 ·rw [hg] at h1
  simp only [c5, St, As.cells] at h1 ⊢
  repeat' ((first | apply Run_seq | apply Run_skip | apply Run_block | apply Run_blk | refine Run_exit rfl ?_ | apply Run_ret | apply Run_nil | apply Run_condK | apply Run_ops mixed | with_reducible refine PostV_open ?_ | with_reducible refine ro_callV ?_ | refine CallV_pure (h1) ?_ ?_ | refine CallV_pure (fixed18_p) ?_ ?_ | simp (disch := omega) only [w64, wu64, wu32, wu16, wu8, Int.tdiv_eq_ediv_of_nonneg, Int.tmod_eq_emod_of_nonneg] | ((first | refine GuardK_split ?_ ?_ | refine CondK_split ?_ ?_) <;> intro hc <;> (try simp only [hc]) <;> try simp at hc) | (with_reducible refine And.intro ?_ ?_; (focus ((repeat' (with_reducible refine And.intro ?_ ?_)) <;> first | exact trivial | assumption | (simp; done) | (simp only [List.length_map] at *; omega) | omega | (simp [D.cells, D.ok, D.one, D.pt, D.pt1]; done)))) | (with_reducible intro x hx) | omega) <;> (try simp only [Nat.reduceBEq, argEnv, reduceIte, Nat.reduceAdd, reduceCtorEq, loadD, D.cells, D.ok, D.one, D.pt, D.pt1, D.pt0, D.norm1, ne_eq, view, view2, view1, view0, mapO, D.sc, D.sc1, D.sc2, ofRes, fw]))
 have hg' : (greatSt us ps ds || (a.great || !(decide (Srt ds) && risU us))) = false := by simpa using hg
 rw [hg'] at h1
 simp only [Bool.or_eq_false_iff, Bool.not_eq_false', Bool.and_eq_true] at hg'
 obtain ⟨g1, g2, _, g4⟩ := hg'
 have hl : us.length ≤ 12 := by
  have : ¬ 12 < us.length := fun h => by simp [greatSt, h] at g1
  omega
 have hlp : ps.length ≤ 8 := by
  have : ¬ 8 < ps.length := fun h => by simp [greatSt, h] at g1
  omega
 have hch : a.ev.ch.length ≤ 14073748835123 := by
  simp only [As.great, Bool.or_eq_false_iff] at g2
  exact great_ch g2.1.1.2
 have w0 := wel_of hfs g1 g4
 have ca := calendar_p t us ps ds a 10 w0 (by omega) (by omega) hs he hch
 have rc := refCalendar_p t us ps ds a 10 w0 (by omega) (by omega) hs he
 have hmem : ∀ x ∈ us, x.id = a.caller ∨ x ∈ (calF us ps a).1 := fun x hx => cal_mem hx
 have herr := cal_err us ps a
 have hfit := cal_fits (a := a) hfs w0 hl hs he
 have hsf : ∀ u ∈ us, u.fit := fun u hu => (w0.2.2 u hu).1
 generalize calF us ps a = r at ca rc hmem herr hfit
 obtain ⟨us', ps', v, e⟩ := r
 dsimp only at ca rc hmem herr hfit
 have hl' : us'.length ≤ 1407374883512 := hfit.1
 have hsf' : ∀ u ∈ us', u.fit := hfit.2.2.2.1
 have ss := sameSt_p ⟨t, us', ps', ds⟩ ⟨t, us', ps', ds⟩ hfit hfit
 rw [decide_eq_true rfl] at ss
 simp only [c5, St, Rr, As.cells, Sta.cells] at h1 ca rc ss ⊢
 repeat' ((first | apply Run_seq | apply Run_skip | apply Run_block | apply Run_blk | refine Run_exit rfl ?_ | apply Run_ret | apply Run_nil | apply Run_condK | apply Run_ops mixed | with_reducible refine PostV_open ?_ | with_reducible refine ro_callV ?_ | refine CallV_pure (h1) ?_ ?_ | refine CallV_pure (ca) ?_ ?_ | refine CallV_pure (rc) ?_ ?_ | refine CallV_pure (ss) ?_ ?_ | simp (disch := omega) only [w64, wu64, wu32, wu16, wu8, Int.tdiv_eq_ediv_of_nonneg, Int.tmod_eq_emod_of_nonneg] | ((first | refine GuardK_split ?_ ?_ | refine CondK_split ?_ ?_) <;> intro hc <;> (try simp only [hc]) <;> try simp at hc) | (with_reducible refine And.intro ?_ ?_; (focus ((repeat' (with_reducible refine And.intro ?_ ?_)) <;> first | exact trivial | assumption | (simp; done) | (simp only [List.length_map] at *; omega) | omega | (simp [D.cells, D.ok, D.one, D.pt, D.pt1]; done)))) | (with_reducible intro x hx) | omega) <;> (try simp only [rowsU_len, Nat.reduceBEq, argEnv, reduceIte, Nat.reduceAdd, Nat.reduceLeDiff, reduceCtorEq, binD, binInt, okD, unD, pickD, faddrD, extD, lenD, loadD, splice, D.cells, D.ok, D.one, D.pt, D.pt1, D.pt0, D.norm1, cond_false, ne_eq, view, view2, view1, view0, mapO, D.sc, D.sc1, D.sc2, fw]))
 refine Run_loop (ι := {i : Nat // i ≤ us.length}) (fun i => ([(2, .ptr 0 0 0 1), (3, .ptr 1 0 0 1), (5, .ptr 2 0 0 1), (6, .int .u64 v), (7, .int .i64 e), (46, L (rowsU us)), (47, .int .i64 us.length), (48, .int .i64 i.1)],
  [⟨true, false, true, false, 4, [[.int .i64 t, L (rowsU us), L (rowsP ps), L (rowsD ds)]], some 0⟩, ⟨true, false, true, false, 42, [a.cells], some 0⟩, ⟨true, false, true, false, 4, [[.int .i64 t, L (rowsU us'), L (rowsP ps'), L (rowsD ds)]], some 0⟩])) (fun i => us.length - i.1) ⟨0, by simp⟩ ?_ ?_
 ·simp only [As.cells]
  refine Ent_gc [0, 1, 2] (by rfl) (by simp) (by simp [keptW, ObKW, ObW, imp_self, pullOb, or_false]) (by simp [lk_hit, lk_miss, D.pt0, viewS_own', pull, pull2, pull1, pull0, idx_hit, idx_miss, sucO_some, gate, List.mem_cons, or_false, view0])
 rintro ⟨i, hi⟩ hk
 dsimp only [As.cells] at hk ⊢
 by_cases hlt : i < us.length
 ·have c1 : ((i : Int) < (us.length : Int)) = True := by simp; omega
  obtain ⟨u, hu⟩ : ∃ u, us[i]? = some u := ⟨_, List.getElem?_eq_getElem hlt⟩
  have hr := rowsU_get hu
  have hum := List.mem_of_getElem? hu
  have hfound : ((u.id == a.caller) || us'.any fun w => decide (u = w)) = true := by
   rcases hmem u hum with h | h
   ·simp [h]
   ·rw [Bool.or_eq_true]; right; rw [List.any_eq_true]; exact ⟨u, h, by simp⟩
  obtain ⟨b0, hb0⟩ : ∃ b, (u.id == a.caller) = b := ⟨_, rfl⟩
  rw [hb0] at hfound
  have huf := hsf u hum
  repeat' ((first | apply Run_seq | apply Run_skip | apply Run_block | apply Run_blk | refine Run_exit rfl ?_ | apply Run_ret | apply Run_nil | apply Run_condK | apply Run_ops mixed | with_reducible refine PostV_open ?_ | with_reducible refine ro_callV ?_ | simp (disch := omega) only [w64, wu64, wu32, wu16, wu8, Int.tdiv_eq_ediv_of_nonneg, Int.tmod_eq_emod_of_nonneg] | ((first | refine GuardK_split ?_ ?_ | refine CondK_split ?_ ?_) <;> intro hc <;> (try simp only [hc]) <;> try simp at hc) | (with_reducible refine And.intro ?_ ?_; (focus ((repeat' (with_reducible refine And.intro ?_ ?_)) <;> first | exact trivial | assumption | (simp; done) | (simp only [List.length_map] at *; omega) | omega | (simp [D.cells, D.ok, D.one, D.pt, D.pt1]; done)))) | (with_reducible intro x hx) | omega) <;> (try simp only [rowsU_len, c1, hr, hb0, Us.row, Nat.reduceBEq, reduceIte, Nat.reduceAdd, reduceCtorEq, binD, binInt, faddrD, lenD, loadD, splice, D.cells, D.ok, D.one, D.pt1, ne_eq, fw]))
  refine Run_loop (ι := {j : Nat // j ≤ us'.length}) (fun j => ([(2, .ptr 0 0 0 1), (3, .ptr 1 0 0 1), (5, .ptr 2 0 0 1), (6, .int .u64 v), (7, .int .i64 e), (10, .ptr 3 0 0 1), (11, .bool (b0 || (us'.take j.1).any fun w => decide (u = w))), (46, L (rowsU us)), (47, .int .i64 us.length), (48, .int .i64 i), (58, L (rowsU us')), (59, .int .i64 us'.length), (60, .int .i64 j.1)],
   [⟨true, false, true, false, 4, [[.int .i64 t, L (rowsU us), L (rowsP ps), L (rowsD ds)]], some 0⟩, ⟨true, false, true, false, 42, [a.cells], some 0⟩, ⟨true, false, true, false, 4, [[.int .i64 t, L (rowsU us'), L (rowsP ps'), L (rowsD ds)]], some 0⟩, ⟨true, false, true, false, 9, [u.row], some 0⟩])) (fun j => us'.length - j.1) ⟨0, by simp⟩ ?_ ?_
  ·simp only [As.cells, Us.row, List.take_zero, List.any_nil, Bool.or_false]
   refine Ent_gc [0, 1, 2, 3] (by rfl) (by simp) (by simp [keptW, ObKW, ObW, imp_self, pullOb, or_false]) (by simp [lk_hit, lk_miss, D.pt0, viewS_own', pull, pull2, pull1, pull0, idx_hit, idx_miss, sucO_some, gate, List.mem_cons, or_false, view0])
  rintro ⟨j, hj⟩ hkj
  dsimp only [As.cells, Us.row] at hkj ⊢
  by_cases hltj : j < us'.length
  ·have c3 : ((j : Int) < (us'.length : Int)) = True := by simp; omega
   obtain ⟨w, hw⟩ : ∃ w, us'[j]? = some w := ⟨_, List.getElem?_eq_getElem hltj⟩
   have hrw := rowsU_get hw
   have hat := any_take (fun w => decide (u = w)) hw
   have su := sameUs_p u w huf (hsf' w (List.mem_of_getElem? hw))
   simp only [Us.row] at su
   have hat2 : (b0 || (us'.take (j + 1)).any fun w => decide (u = w)) = ((b0 || (us'.take j).any fun w => decide (u = w)) || decide (u = w)) := by rw [hat, Bool.or_assoc]
   generalize (b0 || (us'.take j).any fun w => decide (u = w)) = b1 at hat2 ⊢
   generalize decide (u = w) = b2 at hat2 su
   cases b1 with
   | true =>
    repeat' ((first | apply Run_seq | apply Run_skip | apply Run_block | apply Run_blk | refine Run_exit rfl ?_ | apply Run_ret | apply Run_nil | apply Run_condK | apply Run_ops mixed | with_reducible refine PostV_open ?_ | with_reducible refine ro_callV ?_ | simp (disch := omega) only [w64] | ((first | refine GuardK_split ?_ ?_ | refine CondK_split ?_ ?_) <;> intro hc <;> (try simp only [hc]) <;> try simp at hc) | (with_reducible refine And.intro ?_ ?_; (focus ((repeat' (with_reducible refine And.intro ?_ ?_)) <;> first | exact trivial | assumption | (simp; done) | (simp only [List.length_map] at *; omega) | omega | (simp [D.cells, D.ok, D.one, D.pt, D.pt1]; done)))) | (with_reducible intro x hx) | omega) <;> (try simp only [rowsU_len, c3, hrw, Us.row, Nat.reduceBEq, reduceIte, Nat.reduceAdd, reduceCtorEq, binD, binInt, pickD, loadD, splice, D.cells, D.ok, D.one, D.pt1, cond_true, ne_eq, fw]))
    refine hkj ⟨j + 1, by omega⟩ _ _ (by dsimp only; omega) ?_
    dsimp only [As.cells, Us.row]
    rw [hat2, Bool.true_or]
    refine Ent_gc [0, 1, 2, 3] (by rfl) (by simp) (by simp [keptW, ObKW, ObW, imp_self, pullOb, or_false]) (by simp [lk_hit, lk_miss, D.pt0, viewS_own', pull, pull2, pull1, pull0, idx_hit, idx_miss, sucO_some, gate, List.mem_cons, or_false, view0])
   | false =>
    repeat' ((first | apply Run_seq | apply Run_skip | apply Run_block | apply Run_blk | refine Run_exit rfl ?_ | apply Run_ret | apply Run_nil | apply Run_condK | apply Run_ops mixed | with_reducible refine PostV_open ?_ | with_reducible refine ro_callV ?_ | refine CallV_pure (su) ?_ ?_ | simp (disch := omega) only [w64] | ((first | refine GuardK_split ?_ ?_ | refine CondK_split ?_ ?_) <;> intro hc <;> (try simp only [hc]) <;> try simp at hc) | (with_reducible refine And.intro ?_ ?_; (focus ((repeat' (with_reducible refine And.intro ?_ ?_)) <;> first | exact trivial | assumption | (simp; done) | (simp only [List.length_map] at *; omega) | omega | (simp [D.cells, D.ok, D.one, D.pt, D.pt1]; done)))) | (with_reducible intro x hx) | omega) <;> (try simp only [rowsU_len, c3, hrw, Us.row, Nat.reduceBEq, reduceIte, Nat.reduceAdd, reduceCtorEq, binD, binInt, pickD, loadD, splice, D.cells, D.ok, D.one, D.pt, D.pt1, D.pt0, D.norm1, cond_false, ne_eq, view, view2, view1, view0, mapO, D.sc, D.sc1, D.sc2, fw]))
    refine hkj ⟨j + 1, by omega⟩ _ _ (by dsimp only; omega) ?_
    dsimp only [As.cells, Us.row]
    rw [hat2, Bool.false_or]
    refine Ent_gc [0, 1, 2, 3] (by rfl) (by simp) (by simp [keptW, ObKW, ObW, imp_self, pullOb, or_false]) (by simp [lk_hit, lk_miss, D.pt0, viewS_own', pull, pull2, pull1, pull0, idx_hit, idx_miss, sucO_some, gate, List.mem_cons, or_false, view0])
  ·have c3 : ((j : Int) < (us'.length : Int)) = False := by simp; omega
   obtain rfl : j = us'.length := by omega
   rw [List.take_length, hfound]
   clear hkj
   repeat' ((first | apply Run_seq | apply Run_skip | apply Run_block | apply Run_blk | refine Run_exit rfl ?_ | apply Run_ret | apply Run_nil | apply Run_condK | apply Run_ops mixed | with_reducible refine PostV_open ?_ | with_reducible refine ro_callV ?_ | simp (disch := omega) only [w64] | ((first | refine GuardK_split ?_ ?_ | refine CondK_split ?_ ?_) <;> intro hc <;> (try simp only [hc]) <;> try simp at hc) | (with_reducible refine And.intro ?_ ?_; (focus ((repeat' (with_reducible refine And.intro ?_ ?_)) <;> first | exact trivial | assumption | (simp; done) | (simp only [List.length_map] at *; omega) | omega | (simp [D.cells, D.ok, D.one, D.pt, D.pt1]; done)))) | (with_reducible intro x hx) | omega) <;> (try simp only [c3, Nat.reduceBEq, reduceIte, binD, binInt, okD, unD, fw]))
   refine hk ⟨i + 1, by omega⟩ _ _ (by dsimp only; omega) ?_
   dsimp only [As.cells]
   refine Ent_gc [0, 1, 2] (by rfl) (by simp) (by simp [keptW, ObKW, ObW, imp_self, pullOb, or_false]) (by simp [lk_hit, lk_miss, D.pt0, viewS_own', pull, pull2, pull1, pull0, idx_hit, idx_miss, sucO_some, gate, List.mem_cons, or_false, view0])
 ·have c1 : ((i : Int) < (us.length : Int)) = False := by simp; omega
  clear hk
  rcases herr with h | ⟨h2, h3, h4⟩
  ·have c2 : (e == 0) = true := by simpa using h
   repeat' ((first | apply Run_seq | apply Run_skip | apply Run_block | apply Run_blk | refine Run_exit rfl ?_ | apply Run_ret | apply Run_nil | apply Run_condK | apply Run_ops mixed | with_reducible refine PostV_open ?_ | with_reducible refine ro_callV ?_ | refine CallV_pure (fixed18_p) ?_ ?_ | simp (disch := omega) only [w64, wu64, wu32, wu16, wu8, Int.tdiv_eq_ediv_of_nonneg, Int.tmod_eq_emod_of_nonneg] | ((first | refine GuardK_split ?_ ?_ | refine CondK_split ?_ ?_) <;> intro hc <;> (try simp only [hc]) <;> try simp at hc) | (with_reducible refine And.intro ?_ ?_; (focus ((repeat' (with_reducible refine And.intro ?_ ?_)) <;> first | exact trivial | assumption | (simp; done) | (simp only [List.length_map] at *; omega) | omega | (simp [D.cells, D.ok, D.one, D.pt, D.pt1]; done)))) | (with_reducible intro x hx) | omega) <;> (try simp only [c1, c2, Nat.reduceBEq, reduceIte, binD, binInt, pickD, D.pt0, D.norm1, cond_true, view, view2, view1, view0, mapO, D.sc, D.sc1, D.sc2, ofRes, fw]))
  ·subst h2 h3 h4
   repeat' ((first | apply Run_seq | apply Run_skip | apply Run_block | apply Run_blk | refine Run_exit rfl ?_ | apply Run_ret | apply Run_nil | apply Run_condK | apply Run_ops mixed | with_reducible refine PostV_open ?_ | with_reducible refine ro_callV ?_ | refine CallV_pure (fixed18_p) ?_ ?_ | refine CallV_pure (ss) ?_ ?_ | simp (disch := omega) only [w64, wu64, wu32, wu16, wu8, Int.tdiv_eq_ediv_of_nonneg, Int.tmod_eq_emod_of_nonneg] | ((first | refine GuardK_split ?_ ?_ | refine CondK_split ?_ ?_) <;> intro hc <;> (try simp only [hc]) <;> try simp at hc) | (with_reducible refine And.intro ?_ ?_; (focus ((repeat' (with_reducible refine And.intro ?_ ?_)) <;> first | exact trivial | assumption | (simp; done) | (simp only [List.length_map] at *; omega) | omega | (simp [D.cells, D.ok, D.one, D.pt, D.pt1]; done)))) | (with_reducible intro x hx) | omega) <;> (try simp only [c1, Nat.reduceBEq, reduceIte, Nat.reduceAdd, binD, binInt, pickD, loadD, D.pt, D.pt1, D.pt0, D.norm1, cond_true, cond_false, beq_self_eq_true, view, view2, view1, view0, mapO, D.sc, D.sc1, D.sc2, ofRes, fw]))
   all_goals skip
end Go.Proofs.Ytoleaiaeghbffaa
