import Derived.Test.YtoleaiaeghbffaaCMF
import Derived.Test.YtoleaiaeghbffaaVi25
set_option linter.unusedVariables false
set_option linter.unusedSimpArgs false
set_option linter.unnecessarySimpa false
namespace Go.Proofs.Ytoleaiaeghbffaa
open Go Go.Vi


def Rr (t : Int) (us : List Us) (ps : List Po) (ds : List Dn) (v e : Int) : D := .agg [.int .i64 t, L (rowsU us), L (rowsP ps), L (rowsD ds), .int .u64 v, .int .i64 e]
theorem oth_put (l : List En) (id : Int) (e : Ev) : othE l id false ++ [⟨id, e⟩] ++ othE l id true = putEv l id e := by simp [othE, putEv]
theorem oth_del (l : List En) (id : Int) : othE l id false ++ othE l id true = delEv l id := by simp [othE, delEv]
section
variable (t : Int) (us : List Us) (ps : List Po) (ds : List Dn) (user id : Int)
set_option maxHeartbeats 4000000 in
theorem refEvent_p (hl : us.length ≤ 140737488351232) (hle : ∀ u ∈ us, u.evs.length ≤ 140737488351232) :
  PureD Try.prog 60 [St t us ps ds, .int .u32 user, .int .u32 id] (findER us user id) := by
 have fp := refFind_p t us ps ds user hl
 unfold findUR at fp
 unfold findER
 have hw : ((findU us user).getD zU).evs.length ≤ 140737488351232 := by
  cases h : findU us user with
  | none => simp [zU]
  | some u => exact hle u (findU_some h).1
 generalize (findU us user).getD zU = u at fp hw ⊢
 generalize (findU us user).isSome = b at fp
 refine pureV Try.func60 low60 (by simp [c60]) ?_
 simp only [c60, St, Us.row] at fp ⊢
 repeat' ((first | apply Run_seq | apply Run_skip | apply Run_block | apply Run_blk | refine Run_exit rfl ?_ | apply Run_ret | apply Run_nil | apply Run_condK | apply Run_ops mixed | with_reducible refine PostV_open ?_ | with_reducible refine ro_callV ?_ | refine CallV_pure (fp) ?_ ?_ | simp (disch := omega) only [w64, wu64, wu32, wu16, wu8, Int.tdiv_eq_ediv_of_nonneg, Int.tmod_eq_emod_of_nonneg] | (refine CondK_split ?_ ?_ <;> intro hc <;> (try simp only [hc]) <;> try simp at hc) | (with_reducible refine And.intro ?_ ?_; (focus ((repeat' (with_reducible refine And.intro ?_ ?_)) <;> first | exact trivial | assumption | (simp; done) | (simp only [List.length_map] at *; omega) | omega | (simp [D.cells, D.ok, D.one, D.pt, D.pt1]; done)))) | (with_reducible intro x hx) | omega) <;> (try simp only [rowsE_len, Nat.reduceBEq, argEnv, reduceIte, Nat.reduceAdd, reduceCtorEq, faddrD, extD, lenD, loadD, splice, D.cells, D.ok, D.one, D.pt, D.pt1, D.pt0, D.norm1, ne_eq, view, view2, view1, view0, mapO, D.sc, D.sc1, D.sc2, fw]))
 refine Run_loop (ι := {i : Nat // i ≤ u.evs.length ∧ findE u.evs id = findE (u.evs.drop i) id}) (fun i => ([(2, .int .u32 id), (6, .ptr 0 0 0 1), (8, .ptr 1 0 0 1), (19, .int .i64 u.evs.length), (20, .int .i64 i.1)], [⟨true, false, true, false, 16, [[.int .i64 0, .int .i64 0, .bool false, .bool false, .int .i64 0, .int .i64 0, .int .i64 0, .int .i64 0, .list (some true) true [], .list (some true) true [], .list (some true) true [], .list (some true) true [], .int .i64 0, .list (some true) true [], .list (some true) true [], .list (some true) true []]], some 0⟩, ⟨true, false, true, false, 9, [u.row], some 0⟩])) (fun i => u.evs.length - i.1) ⟨0, by simp, by simp⟩ ?_ ?_
 ·simp only [Us.row]
  refine Ent_gc [1, 2] (by rfl) (by simp) (by simp [keptW, ObKW, ObW, imp_self, pullOb, or_false]) (by simp [lk_hit, lk_miss, D.pt0, viewS_own', pull, pull2, pull1, pull0, idx_hit, idx_miss, sucO_some, gate, List.mem_cons, or_false, view0])
 rintro ⟨i, hi, hf⟩ hk
 dsimp only [Us.row] at hk ⊢
 by_cases hlt : i < u.evs.length
 ·have c1 : ((i : Int) < (u.evs.length : Int)) = True := by simp; omega
  obtain ⟨x, hx⟩ : ∃ x, u.evs[i]? = some x := ⟨_, List.getElem?_eq_getElem hlt⟩
  have hr := rowsE_get hx
  have hdr : u.evs.drop i = x :: u.evs.drop (i + 1) := by
   rw [List.getElem?_eq_getElem hlt] at hx; cases hx; exact List.drop_eq_getElem_cons hlt
  by_cases hc : x.id = id
  ·have c2 : (x.id == id) = true := by simpa using hc
   have e : findE u.evs id = some x := by rw [hf, hdr]; simp [findE, c2]
   rw [e]
   simp only [Option.map_some, Option.getD_some, Option.isSome_some, Ev.cells]
   repeat' ((first | apply Run_seq | apply Run_skip | apply Run_block | apply Run_blk | refine Run_exit rfl ?_ | apply Run_ret | apply Run_nil | apply Run_condK | apply Run_ops mixed | with_reducible refine PostV_open ?_ | with_reducible refine ro_callV ?_ | simp (disch := omega) only [w64, wu64, wu32, wu16, wu8, Int.tdiv_eq_ediv_of_nonneg, Int.tmod_eq_emod_of_nonneg] | (refine CondK_split ?_ ?_ <;> intro hc <;> (try simp only [hc]) <;> try simp at hc) | (with_reducible refine And.intro ?_ ?_; (focus ((repeat' (with_reducible refine And.intro ?_ ?_)) <;> first | exact trivial | assumption | (simp; done) | (simp only [List.length_map] at *; omega) | omega | (simp [D.cells, D.ok, D.one, D.pt, D.pt1]; done)))) | (with_reducible intro x hx) | omega) <;> (try simp only [rowsE_len, c1, hr, c2, En.row, Nat.reduceBEq, reduceIte, Nat.reduceAdd, binD, binInt, faddrD, loadD, splice, D.cells, D.ok, D.one, D.pt1, D.pt0, D.norm1, view, view2, view1, view0, mapO, ofRes, fw]))
  ·have c2 : (x.id == id) = false := by simpa using hc
   repeat' ((first | apply Run_seq | apply Run_skip | apply Run_block | apply Run_blk | refine Run_exit rfl ?_ | apply Run_ret | apply Run_nil | apply Run_condK | apply Run_ops mixed | with_reducible refine PostV_open ?_ | with_reducible refine ro_callV ?_ | simp (disch := omega) only [w64] | (refine CondK_split ?_ ?_ <;> intro hc <;> (try simp only [hc]) <;> try simp at hc) | (with_reducible refine And.intro ?_ ?_; (focus ((repeat' (with_reducible refine And.intro ?_ ?_)) <;> first | exact trivial | assumption | (simp; done) | (simp only [List.length_map] at *; omega) | omega | (simp [D.cells, D.ok, D.one, D.pt, D.pt1]; done)))) | (with_reducible intro x hx) | omega) <;> (try simp only [rowsE_len, c1, hr, c2, En.row, Nat.reduceBEq, reduceIte, Nat.reduceAdd, binD, binInt, faddrD, loadD, fw]))
   refine hk ⟨i + 1, by omega, ?_⟩ _ _ (by dsimp only; omega) ?_
   ·rw [hf, hdr]; simp [findE, c2]
   dsimp only [Us.row]
   refine Ent_gc [0, 1] (by rfl) (by simp) (by simp [keptW, ObKW, ObW, imp_self, pullOb, or_false]) (by simp [lk_hit, lk_miss, D.pt0, viewS_own', pull, pull2, pull1, pull0, idx_hit, idx_miss, sucO_some, gate, List.mem_cons, or_false, view0])
 ·have c1 : ((i : Int) < (u.evs.length : Int)) = False := by simp; omega
  have e : findE u.evs id = none := by rw [hf, List.drop_eq_nil_of_le (by omega)]; rfl
  rw [e]
  simp only [Option.map_none, Option.getD_none, Option.isSome_none, zE, Ev.cells, row1, row2, row3, List.map_nil]
  repeat' ((first | apply Run_seq | apply Run_skip | apply Run_block | apply Run_blk | refine Run_exit rfl ?_ | apply Run_ret | apply Run_nil | apply Run_condK | apply Run_ops mixed | with_reducible refine PostV_open ?_ | with_reducible refine ro_callV ?_ | simp (disch := omega) only [w64, wu64, wu32, wu16, wu8, Int.tdiv_eq_ediv_of_nonneg, Int.tmod_eq_emod_of_nonneg] | (refine CondK_split ?_ ?_ <;> intro hc <;> (try simp only [hc]) <;> try simp at hc) | (with_reducible refine And.intro ?_ ?_; (focus ((repeat' (with_reducible refine And.intro ?_ ?_)) <;> first | exact trivial | assumption | (simp; done) | (simp only [List.length_map] at *; omega) | omega | (simp [D.cells, D.ok, D.one, D.pt, D.pt1]; done)))) | (with_reducible intro x hx) | omega) <;> (try simp only [c1, Nat.reduceBEq, reduceIte, Nat.reduceAdd, binD, binInt, aggD, loadD, fillD, splice, D.cells, D.ok, D.one, D.pt1, D.pt0, D.norm1, view, view2, view1, view0, mapO, ofRes, fw]))
set_option maxHeartbeats 4000000 in
theorem refPutUser_p (x : Se) (hl : us.length ≤ 1000000) (hx : x.fits) :
  PureD Try.prog 27 [St t us ps ds, .int .u32 user, .agg x.cells] (Rr t (putUF us user x).1 ps ds (putUF us user x).2.1 (putUF us user x).2.2) := by
 have fp := refFind_p t us ps ds user (by omega)
 have se := refSettings_p x hx
 unfold findUR at fp
 unfold putUF
 refine pureV Try.func27 low27 (by simp [c27]) ?_
 have rw1 := refWith_p t us ps ds (setU us user x) (by omega)
 unfold setU at rw1 ⊢
 generalize (findU us user).getD zU = u at fp rw1 ⊢
 by_cases h0 : user = 0
 ·have c1 : (user == 0) = true := by simpa using h0
  rw [if_pos (.inl h0)]
  generalize (findU us user).isSome = b at fp
  simp only [c27, St, Rr, Se.cells, Us.row] at fp se ⊢
  repeat' ((first | apply Run_seq | apply Run_skip | apply Run_ret | apply Run_nil | apply Run_condK | apply Run_ops mixed | apply Run_opsX mixed | with_reducible refine PostV_open ?_ | with_reducible refine ro_callV ?_ | with_reducible refine ro_callVX ?_ | refine CallV_pure (fp) ?_ ?_ | simp (disch := omega) only [w64, wu64, wu32, wu16, wu8, Int.tdiv_eq_ediv_of_nonneg, Int.tmod_eq_emod_of_nonneg] | ((first | refine GuardK_split ?_ ?_ | refine CondK_split ?_ ?_) <;> intro hc <;> (try simp only [hc]) <;> try simp at hc) | (with_reducible refine And.intro ?_ ?_; (focus ((repeat' (with_reducible refine And.intro ?_ ?_)) <;> first | exact trivial | assumption | (simp; done) | (simp only [List.length_map] at *; omega) | omega | (simp [D.cells, D.ok, D.one, D.pt, D.pt1]; done)))) | (with_reducible intro x hx) | omega) <;> (try simp only [c1, Nat.reduceBEq, argEnv, reduceIte, Nat.reduceAdd, Nat.reduceLeDiff, reduceCtorEq, binD, binInt, aggD, pickD, extD, loadD, fillD, splice, D.cells, D.ok, D.one, D.pt, D.pt1, D.pt0, D.norm1, cond_true, ne_eq, view, view2, view1, view0, mapO, D.sc, D.sc1, D.sc2, ofRes, fw]))
 have c1 : (user == 0) = false := by simpa using h0
 by_cases hb : setB x = false
 ·rw [if_pos (.inr hb)]
  rw [hb] at se
  generalize (findU us user).isSome = b at fp
  simp only [c27, St, Rr, Se.cells, Us.row] at fp se ⊢
  repeat' ((first | apply Run_seq | apply Run_skip | apply Run_ret | apply Run_nil | apply Run_condK | apply Run_ops mixed | apply Run_opsX mixed | with_reducible refine PostV_open ?_ | with_reducible refine ro_callV ?_ | with_reducible refine ro_callVX ?_ | refine CallV_pure (fp) ?_ ?_ | refine CallV_pure (se) ?_ ?_ | simp (disch := omega) only [w64, wu64, wu32, wu16, wu8, Int.tdiv_eq_ediv_of_nonneg, Int.tmod_eq_emod_of_nonneg] | ((first | refine GuardK_split ?_ ?_ | refine CondK_split ?_ ?_) <;> intro hc <;> (try simp only [hc]) <;> try simp at hc) | (with_reducible refine And.intro ?_ ?_; (focus ((repeat' (with_reducible refine And.intro ?_ ?_)) <;> first | exact trivial | assumption | (simp; done) | (simp only [List.length_map] at *; omega) | omega | (simp [D.cells, D.ok, D.one, D.pt, D.pt1]; done)))) | (with_reducible intro x hx) | omega) <;> (try simp only [c1, Nat.reduceBEq, argEnv, reduceIte, Nat.reduceAdd, Nat.reduceLeDiff, reduceCtorEq, binD, binInt, okD, aggD, unD, pickD, extD, loadD, fillD, splice, D.cells, D.ok, D.one, D.pt, D.pt1, D.pt0, D.norm1, cond_false, ne_eq, view, view2, view1, view0, mapO, D.sc, D.sc1, D.sc2, ofRes, fw]))
 have hb' : setB x = true := by simpa using hb
 rw [hb'] at se
 rw [if_neg (by rintro (h | h); exact h0 h; exact hb h)]
 by_cases hq : (findU us user).isSome = false ∧ 100 ≤ us.length
 ·rw [if_pos hq]
  rw [hq.1] at fp
  have c2 : ((us.length : Int) ≥ 100) = True := by simp; omega
  simp only [c27, St, Rr, Se.cells, Us.row] at fp se ⊢
  repeat' ((first | apply Run_seq | apply Run_skip | apply Run_ret | apply Run_nil | apply Run_condK | apply Run_ops mixed | apply Run_opsX mixed | with_reducible refine PostV_open ?_ | with_reducible refine ro_callV ?_ | with_reducible refine ro_callVX ?_ | refine CallV_pure (fp) ?_ ?_ | refine CallV_pure (se) ?_ ?_ | simp (disch := omega) only [w64, wu64, wu32, wu16, wu8, Int.tdiv_eq_ediv_of_nonneg, Int.tmod_eq_emod_of_nonneg] | ((first | refine GuardK_split ?_ ?_ | refine CondK_split ?_ ?_) <;> intro hc <;> (try simp only [hc]) <;> try simp at hc) | (with_reducible refine And.intro ?_ ?_; (focus ((repeat' (with_reducible refine And.intro ?_ ?_)) <;> first | exact trivial | assumption | (simp; done) | (simp only [List.length_map] at *; omega) | omega | (simp [D.cells, D.ok, D.one, D.pt, D.pt1]; done)))) | (with_reducible intro x hx) | omega) <;> (try simp only [rowsU_len, c1, c2, Nat.reduceBEq, argEnv, reduceIte, Nat.reduceAdd, Nat.reduceLeDiff, reduceCtorEq, binD, binInt, okD, aggD, unD, pickD, faddrD, extD, lenD, loadD, fillD, splice, D.cells, D.ok, D.one, D.pt, D.pt1, D.pt0, D.norm1, cond_true, cond_false, ne_eq, view, view2, view1, view0, mapO, D.sc, D.sc1, D.sc2, ofRes, fw]))
 ·rw [if_neg hq]
  dsimp only at rw1 ⊢
  generalize hus : withR us { u with id := user, se := x, ver := IntKind.u64.wrap (u.ver + 1) } = us' at rw1 ⊢
  have hcs : (findU us user).isSome = true ∨ ((findU us user).isSome = false ∧ us.length < 100) := by
   cases hh : (findU us user).isSome with
   | true => exact .inl rfl
   | false => exact .inr ⟨rfl, by
     have : ¬ 100 ≤ us.length := fun h => hq ⟨hh, h⟩
     omega⟩
  rcases hcs with h1 | ⟨h1, h2⟩
  ·rw [h1] at fp
   simp only [c27, St, Rr, Se.cells, Us.row] at fp se rw1 ⊢
   repeat' ((first | apply Run_seq | apply Run_skip | apply Run_ret | apply Run_nil | apply Run_condK | apply Run_ops mixed | apply Run_opsX mixed | with_reducible refine PostV_open ?_ | with_reducible refine ro_callV ?_ | with_reducible refine ro_callVX ?_ | refine CallV_pure (fp) ?_ ?_ | refine CallV_pure (se) ?_ ?_ | refine CallV_pure (rw1) ?_ ?_ | simp (disch := omega) only [w64, wu64, wu32, wu16, wu8, Int.tdiv_eq_ediv_of_nonneg, Int.tmod_eq_emod_of_nonneg] | ((first | refine GuardK_split ?_ ?_ | refine CondK_split ?_ ?_) <;> intro hc <;> (try simp only [hc]) <;> try simp at hc) | (with_reducible refine And.intro ?_ ?_; (focus ((repeat' (with_reducible refine And.intro ?_ ?_)) <;> first | exact trivial | assumption | (simp; done) | (simp only [List.length_map] at *; omega) | omega | (simp [D.cells, D.ok, D.one, D.pt, D.pt1]; done)))) | (with_reducible intro x hx) | omega) <;> (try simp only [c1, D.names, Nat.reduceBEq, argEnv, reduceIte, Nat.reduceAdd, Nat.reduceSub, Nat.reduceLeDiff, reduceCtorEq, binD, binInt, okD, aggD, unD, pickD, faddrD, extD, loadD, fillD, splice, D.cells, D.ok, D.one, D.pt, D.pt1, D.pt0, D.norm1, cond_false, ne_eq, view, view2, view1, view0, mapO, D.sc, D.sc1, D.sc2, ofRes, fw]))
  ·rw [h1] at fp
   have c2 : ((us.length : Int) ≥ 100) = False := by simp; omega
   simp only [c27, St, Rr, Se.cells, Us.row] at fp se rw1 ⊢
   repeat' ((first | apply Run_seq | apply Run_skip | apply Run_ret | apply Run_nil | apply Run_condK | apply Run_ops mixed | apply Run_opsX mixed | with_reducible refine PostV_open ?_ | with_reducible refine ro_callV ?_ | with_reducible refine ro_callVX ?_ | refine CallV_pure (fp) ?_ ?_ | refine CallV_pure (se) ?_ ?_ | refine CallV_pure (rw1) ?_ ?_ | simp (disch := omega) only [w64, wu64, wu32, wu16, wu8, Int.tdiv_eq_ediv_of_nonneg, Int.tmod_eq_emod_of_nonneg] | ((first | refine GuardK_split ?_ ?_ | refine CondK_split ?_ ?_) <;> intro hc <;> (try simp only [hc]) <;> try simp at hc) | (with_reducible refine And.intro ?_ ?_; (focus ((repeat' (with_reducible refine And.intro ?_ ?_)) <;> first | exact trivial | assumption | (simp; done) | (simp only [List.length_map] at *; omega) | omega | (simp [D.cells, D.ok, D.one, D.pt, D.pt1]; done)))) | (with_reducible intro x hx) | omega) <;> (try simp only [rowsU_len, c1, c2, D.names, Nat.reduceBEq, argEnv, reduceIte, Nat.reduceAdd, Nat.reduceSub, Nat.reduceLeDiff, reduceCtorEq, binD, binInt, okD, aggD, unD, pickD, faddrD, extD, lenD, loadD, fillD, splice, D.cells, D.ok, D.one, D.pt, D.pt1, D.pt0, D.norm1, cond_true, cond_false, ne_eq, view, view2, view1, view0, mapO, D.sc, D.sc1, D.sc2, ofRes, fw]))
set_option maxHeartbeats 4000000 in
theorem refCancel_p (n : Nat) (hw : Wel us n) (hn : n ≤ 1000000) :
  PureD Try.prog 30 [St t us ps ds, .int .u32 user, .int .u32 id] (match findU us user with
   | none => Rr t us ps ds 0 4
   | some u => if (findE u.evs id).isSome = true then Rr t (us.map (rep (delU u id))) ps ds (IntKind.u64.wrap (u.ver + 1)) 0 else Rr t us ps ds 0 4) := by
 obtain ⟨w1, w2, w3⟩ := hw
 have fp := refFind_p t us ps ds user (by omega)
 have ep := refEvent_p t us ps ds user id (by omega) (fun u hu => by have := (w3 u hu).2.2; omega)
 unfold findUR at fp
 unfold findER at ep
 refine pureV Try.func30 low30 (by simp [c30]) ?_
 cases hu : findU us user with
 | none =>
  rw [hu] at fp ep
  have hz : findE zU.evs id = none := rfl
  have hz' : (findE [] id) = none := rfl
  simp only [Option.getD_none, Option.isSome_none, hz', Option.map_none, zE, zU, Us.row, Ev.cells] at fp ep
  simp only [c30, St, Rr] at fp ep ⊢
  repeat' ((first | apply Run_seq | apply Run_skip | apply Run_ret | apply Run_nil | apply Run_condK | apply Run_ops mixed | apply Run_opsX mixed | with_reducible refine PostV_open ?_ | with_reducible refine ro_callV ?_ | with_reducible refine ro_callVX ?_ | refine CallV_pure (fp) ?_ ?_ | refine CallV_pure (ep) ?_ ?_ | simp (disch := omega) only [w64, wu64, wu32, wu16, wu8, Int.tdiv_eq_ediv_of_nonneg, Int.tmod_eq_emod_of_nonneg] | (refine CondK_split ?_ ?_ <;> intro hc <;> (try simp only [hc]) <;> try simp at hc) | (with_reducible refine And.intro ?_ ?_; (focus ((repeat' (with_reducible refine And.intro ?_ ?_)) <;> first | exact trivial | assumption | (simp; done) | (simp only [List.length_map] at *; omega) | omega | (simp [D.cells, D.ok, D.one, D.pt, D.pt1]; done)))) | (with_reducible intro x hx) | omega) <;> (try simp only [Nat.reduceBEq, argEnv, reduceIte, Nat.reduceAdd, Nat.reduceLeDiff, reduceCtorEq, okD, aggD, unD, extD, loadD, fillD, splice, D.cells, D.ok, D.one, D.pt, D.pt1, D.pt0, D.norm1, ne_eq, view, view2, view1, view0, mapO, D.sc, D.sc1, D.sc2, ofRes, fw]))
 | some u =>
  rw [hu] at fp ep
  obtain ⟨uf, us1, ul⟩ := w3 u (findU_some hu).1
  simp only [Option.getD_some, Option.isSome_some] at fp ep
  dsimp only
  by_cases hq : (findE u.evs id).isSome = true
  ·rw [if_pos hq]
   rw [hq] at ep
   have o1 := others_p u.evs id false false none (by omega)
   have o2 := others_p u.evs id true false none (by omega)
   have hid := findU_id hu
   have wr := refWith_p t us ps ds (delU u id) (by omega)
   rw [withR_map (u := delU u id) w2 ⟨u, (findU_some hu).1, rfl⟩] at wr
   generalize us.map (rep (delU u id)) = us' at wr ⊢
   have ho := oth_del u.evs id
   have hl1 : (othE u.evs id false).length ≤ 1000000 := by
    have : (othE u.evs id false).length ≤ u.evs.length := by unfold othE; exact List.length_filter_le ..
    omega
   have hl2 : (othE u.evs id true).length ≤ 1000000 := by
    have : (othE u.evs id true).length ≤ u.evs.length := by unfold othE; exact List.length_filter_le ..
    omega
   simp only [delU] at wr
   rw [← ho] at wr
   have ha : rowsE (othE u.evs id false) ++ rowsE (othE u.evs id true) = rowsE (othE u.evs id false ++ othE u.evs id true) := by simp [rowsE]
   generalize othE u.evs id false = F at o1 wr hl1 ha
   generalize othE u.evs id true = H at o2 wr hl2 ha
   generalize ((findE u.evs id).map En.ev).getD zE = ev at ep
   simp only [c30, St, Rr, Us.row, Ev.cells] at fp ep wr ⊢
   have w2 := wr.toG rfl rfl
   have hsz : (∀ r ∈ rowsE H, r.length = 17) = True := eq_true (szE_rows H)
   repeat' ((first | apply Run_seq | apply Run_skip | apply Run_ret | apply Run_nil | apply Run_condK | apply Run_ops mixed | apply Run_opsX mixed | with_reducible refine PostV_open ?_ | with_reducible refine ro_callA (f := .c (.fn 62 [])) ?_ | with_reducible refine ro_callA' (f := .c (.fn 62 [])) ?_ | with_reducible refine ro_callE (f := .c (.fn 59 [])) (z := [4]) (q := []) ?_ | with_reducible refine ro_callE' (f := .c (.fn 59 [])) (z := [4]) (q := []) ?_ | with_reducible refine ro_callV ?_ | with_reducible refine ro_callVX ?_ | refine CallV_pure (fp) ?_ ?_ | refine CallV_pure (ep) ?_ ?_ | with_reducible refine CallE_use (o1) (by simp) ?_ | with_reducible refine CallE_use (o2) (by simp) ?_ | with_reducible refine CallE_use (w2) (by simp) ?_ | simp (disch := omega) only [w64, wu64, wu32, wu16, wu8, Int.tdiv_eq_ediv_of_nonneg, Int.tmod_eq_emod_of_nonneg] | (refine CondK_split ?_ ?_ <;> intro hc <;> (try simp only [hc]) <;> try simp at hc) | (with_reducible refine And.intro ?_ ?_; (focus ((repeat' (with_reducible refine And.intro ?_ ?_)) <;> first | exact trivial | assumption | (simp; done) | (simp only [List.length_map] at *; omega) | omega | (simp [D.cells, D.ok, D.one, D.pt, D.pt1]; done)))) | (with_reducible intro x hx) | omega) <;> (try simp only [rowsE_len, ha, hsz, D.names, Nat.reduceBEq, argEnv, reduceIte, Nat.reduceAdd, Nat.reduceSub, Nat.reduceLeDiff, reduceCtorEq, binD, binInt, okD, aggD, unD, faddrD, extD, loadD, fillD, splice, D.cells, D.ok, D.one, D.pt, D.pt1, D.pt0, D.norm1, ne_eq, view, view2, view1, view0, mapO, D.sc, D.sc1, D.sc2, pull, pull2, pull1, pull0, gate, pullσ, Go.Vi.freeze, Go.Vi.freeze1, capt, reachL, merge, mset, renOb, fr, D.ren, D.renL, ofRes, fw]))
   skip
  ·rw [if_neg hq]
   have hq' : (findE u.evs id).isSome = false := by simpa using hq
   rw [hq'] at ep
   generalize ((findE u.evs id).map En.ev).getD zE = ev at ep
   simp only [c30, St, Rr, Us.row, Ev.cells] at fp ep ⊢
   repeat' ((first | apply Run_seq | apply Run_skip | apply Run_ret | apply Run_nil | apply Run_condK | apply Run_ops mixed | apply Run_opsX mixed | with_reducible refine PostV_open ?_ | with_reducible refine ro_callV ?_ | with_reducible refine ro_callVX ?_ | refine CallV_pure (fp) ?_ ?_ | refine CallV_pure (ep) ?_ ?_ | simp (disch := omega) only [w64, wu64, wu32, wu16, wu8, Int.tdiv_eq_ediv_of_nonneg, Int.tmod_eq_emod_of_nonneg] | (refine CondK_split ?_ ?_ <;> intro hc <;> (try simp only [hc]) <;> try simp at hc) | (with_reducible refine And.intro ?_ ?_; (focus ((repeat' (with_reducible refine And.intro ?_ ?_)) <;> first | exact trivial | assumption | (simp; done) | (simp only [List.length_map] at *; omega) | omega | (simp [D.cells, D.ok, D.one, D.pt, D.pt1]; done)))) | (with_reducible intro x hx) | omega) <;> (try simp only [Nat.reduceBEq, argEnv, reduceIte, Nat.reduceAdd, Nat.reduceLeDiff, reduceCtorEq, okD, aggD, unD, extD, loadD, fillD, splice, D.cells, D.ok, D.one, D.pt, D.pt1, D.pt0, D.norm1, ne_eq, view, view2, view1, view0, mapO, D.sc, D.sc1, D.sc2, ofRes, fw]))
set_option maxHeartbeats 8000000 in
theorem refPutEvent_p (e : Ev) (n : Nat) (hw : Wel us n) (hn : n ≤ 1000000) (he : e.fits) :
  PureD Try.prog 29 [St t us ps ds, .int .u32 user, .int .u32 id, .agg e.cells] (Rr t (putF us user id e).1 ps ds (putF us user id e).2.1 (putF us user id e).2.2) := by
 obtain ⟨w1, w2, w3⟩ := hw
 have fp := refFind_p t us ps ds user (by omega)
 have ep := refEvent_p t us ps ds user id (by omega) (fun u hu => by have := (w3 u hu).2.2; omega)
 have me := refMay_p e he
 unfold findUR at fp
 unfold findER at ep
 refine pureV Try.func29 low29 (by simp [c29]) ?_
 unfold putF
 cases hu : findU us user with
 | none =>
  rw [hu] at fp
  simp only [Option.getD_none, Option.isSome_none, zU, Us.row] at fp
  simp only [c29, St, Rr, Ev.cells] at fp ⊢
  repeat' ((first | apply Run_seq | apply Run_skip | apply Run_ret | apply Run_nil | apply Run_condK | apply Run_ops mixed | apply Run_opsX mixed | with_reducible refine PostV_open ?_ | with_reducible refine ro_callV ?_ | with_reducible refine ro_callVX ?_ | refine CallV_pure (fp) ?_ ?_ | simp (disch := omega) only [w64, wu64, wu32, wu16, wu8, Int.tdiv_eq_ediv_of_nonneg, Int.tmod_eq_emod_of_nonneg] | ((first | refine GuardK_split ?_ ?_ | refine CondK_split ?_ ?_) <;> intro hc <;> (try simp only [hc]) <;> try simp at hc) | (with_reducible refine And.intro ?_ ?_; (focus ((repeat' (with_reducible refine And.intro ?_ ?_)) <;> first | exact trivial | assumption | (simp; done) | (simp only [List.length_map] at *; omega) | omega | (simp [D.cells, D.ok, D.one, D.pt, D.pt1]; done)))) | (with_reducible intro x hx) | omega) <;> (try simp only [Nat.reduceBEq, argEnv, reduceIte, Nat.reduceAdd, Nat.reduceLeDiff, reduceCtorEq, okD, aggD, unD, extD, loadD, fillD, splice, D.cells, D.ok, D.one, D.pt, D.pt1, D.pt0, D.norm1, ne_eq, view, view2, view1, view0, mapO, D.sc, D.sc1, D.sc2, ofRes, fw]))
 | some u =>
  rw [hu] at fp ep
  obtain ⟨uf, us1, ul⟩ := w3 u (findU_some hu).1
  simp only [Option.getD_some, Option.isSome_some] at fp ep
  dsimp only
  generalize ((findE u.evs id).map En.ev).getD zE = ev at ep
  by_cases h0 : id = 0
  ·have c1 : (id == 0) = true := by simpa using h0
   rw [if_pos (.inl h0)]
   generalize (findE u.evs id).isSome = b at ep
   simp only [c29, St, Rr, Us.row, Ev.cells] at fp ep ⊢
   repeat' ((first | apply Run_seq | apply Run_skip | apply Run_ret | apply Run_nil | apply Run_condK | apply Run_ops mixed | apply Run_opsX mixed | with_reducible refine PostV_open ?_ | with_reducible refine ro_callV ?_ | with_reducible refine ro_callVX ?_ | refine CallV_pure (fp) ?_ ?_ | refine CallV_pure (ep) ?_ ?_ | simp (disch := omega) only [w64, wu64, wu32, wu16, wu8, Int.tdiv_eq_ediv_of_nonneg, Int.tmod_eq_emod_of_nonneg] | ((first | refine GuardK_split ?_ ?_ | refine CondK_split ?_ ?_) <;> intro hc <;> (try simp only [hc]) <;> try simp at hc) | (with_reducible refine And.intro ?_ ?_; (focus ((repeat' (with_reducible refine And.intro ?_ ?_)) <;> first | exact trivial | assumption | (simp; done) | (simp only [List.length_map] at *; omega) | omega | (simp [D.cells, D.ok, D.one, D.pt, D.pt1]; done)))) | (with_reducible intro x hx) | omega) <;> (try simp only [c1, Nat.reduceBEq, argEnv, reduceIte, Nat.reduceAdd, Nat.reduceLeDiff, reduceCtorEq, binD, binInt, okD, aggD, unD, pickD, extD, loadD, fillD, splice, D.cells, D.ok, D.one, D.pt, D.pt1, D.pt0, D.norm1, cond_true, ne_eq, view, view2, view1, view0, mapO, D.sc, D.sc1, D.sc2, ofRes, fw]))
  have c1 : (id == 0) = false := by simpa using h0
  by_cases hm : mayE e = false
  ·rw [if_pos (.inr hm)]
   rw [hm] at me
   generalize (findE u.evs id).isSome = b at ep
   simp only [c29, St, Rr, Us.row, Ev.cells] at fp ep me ⊢
   repeat' ((first | apply Run_seq | apply Run_skip | apply Run_ret | apply Run_nil | apply Run_condK | apply Run_ops mixed | apply Run_opsX mixed | with_reducible refine PostV_open ?_ | with_reducible refine ro_callV ?_ | with_reducible refine ro_callVX ?_ | refine CallV_pure (fp) ?_ ?_ | refine CallV_pure (ep) ?_ ?_ | refine CallV_pure (me) ?_ ?_ | simp (disch := omega) only [w64, wu64, wu32, wu16, wu8, Int.tdiv_eq_ediv_of_nonneg, Int.tmod_eq_emod_of_nonneg] | ((first | refine GuardK_split ?_ ?_ | refine CondK_split ?_ ?_) <;> intro hc <;> (try simp only [hc]) <;> try simp at hc) | (with_reducible refine And.intro ?_ ?_; (focus ((repeat' (with_reducible refine And.intro ?_ ?_)) <;> first | exact trivial | assumption | (simp; done) | (simp only [List.length_map] at *; omega) | omega | (simp [D.cells, D.ok, D.one, D.pt, D.pt1]; done)))) | (with_reducible intro x hx) | omega) <;> (try simp only [c1, Nat.reduceBEq, argEnv, reduceIte, Nat.reduceAdd, Nat.reduceLeDiff, reduceCtorEq, binD, binInt, okD, aggD, unD, pickD, extD, loadD, fillD, splice, D.cells, D.ok, D.one, D.pt, D.pt1, D.pt0, D.norm1, cond_false, ne_eq, view, view2, view1, view0, mapO, D.sc, D.sc1, D.sc2, ofRes, fw]))
  have hm' : mayE e = true := by simpa using hm
  rw [hm'] at me
  rw [if_neg (by rintro (h | h); exact h0 h; exact hm h)]
  by_cases hq : (findE u.evs id).isSome = false ∧ 64 ≤ u.evs.length
  ·rw [if_pos hq]
   have c2 : ((u.evs.length : Int) ≥ 64) = True := by simp; omega
   rw [hq.1] at ep
   simp only [c29, St, Rr, Us.row, Ev.cells] at fp ep me ⊢
   repeat' ((first | apply Run_seq | apply Run_skip | apply Run_ret | apply Run_nil | apply Run_condK | apply Run_ops mixed | apply Run_opsX mixed | with_reducible refine PostV_open ?_ | with_reducible refine ro_callV ?_ | with_reducible refine ro_callVX ?_ | refine CallV_pure (fp) ?_ ?_ | refine CallV_pure (ep) ?_ ?_ | refine CallV_pure (me) ?_ ?_ | simp (disch := omega) only [w64, wu64, wu32, wu16, wu8, Int.tdiv_eq_ediv_of_nonneg, Int.tmod_eq_emod_of_nonneg] | ((first | refine GuardK_split ?_ ?_ | refine CondK_split ?_ ?_) <;> intro hc <;> (try simp only [hc]) <;> try simp at hc) | (with_reducible refine And.intro ?_ ?_; (focus ((repeat' (with_reducible refine And.intro ?_ ?_)) <;> first | exact trivial | assumption | (simp; done) | (simp only [List.length_map] at *; omega) | omega | (simp [D.cells, D.ok, D.one, D.pt, D.pt1]; done)))) | (with_reducible intro x hx) | omega) <;> (try simp only [rowsE_len, c1, c2, Nat.reduceBEq, argEnv, reduceIte, Nat.reduceAdd, Nat.reduceLeDiff, reduceCtorEq, binD, binInt, okD, aggD, unD, pickD, faddrD, extD, lenD, loadD, fillD, splice, D.cells, D.ok, D.one, D.pt, D.pt1, D.pt0, D.norm1, cond_true, cond_false, ne_eq, view, view2, view1, view0, mapO, D.sc, D.sc1, D.sc2, ofRes, fw]))
  ·rw [if_neg hq]
   have o1 := others_p u.evs id false false none (by omega)
   have o2 := others_p u.evs id true false none (by omega)
   have hid := findU_id hu
   have wr := refWith_p t us ps ds (putU u id e) (by omega)
   rw [withR_map (u := putU u id e) w2 ⟨u, (findU_some hu).1, rfl⟩] at wr
   generalize us.map (rep (putU u id e)) = us' at wr ⊢
   have ho := oth_put u.evs id e
   have hl1 : (othE u.evs id false).length ≤ 1000000 := by
    have : (othE u.evs id false).length ≤ u.evs.length := by unfold othE; exact List.length_filter_le ..
    omega
   have hl2 : (othE u.evs id true).length ≤ 1000000 := by
    have : (othE u.evs id true).length ≤ u.evs.length := by unfold othE; exact List.length_filter_le ..
    omega
   simp only [putU] at wr
   rw [← ho] at wr
   have hb : rowsE (othE u.evs id false) ++ [En.row ⟨id, e⟩] = rowsE (othE u.evs id false ++ [⟨id, e⟩]) := by simp [rowsE]
   have ha : rowsE (othE u.evs id false ++ [⟨id, e⟩]) ++ rowsE (othE u.evs id true) = rowsE (othE u.evs id false ++ [⟨id, e⟩] ++ othE u.evs id true) := by simp [rowsE]
   generalize othE u.evs id false = F at o1 wr hl1 ha hb
   generalize othE u.evs id true = H at o2 wr hl2 ha
   have hsz : (∀ r ∈ rowsE H, r.length = 17) = True := eq_true (szE_rows H)
   simp only [En.row] at hb
   have hcs : (findE u.evs id).isSome = true ∨ ((findE u.evs id).isSome = false ∧ u.evs.length < 64) := by
    cases hh : (findE u.evs id).isSome with
    | true => exact .inl rfl
    | false => exact .inr ⟨rfl, by
      have : ¬ 64 ≤ u.evs.length := fun h => hq ⟨hh, h⟩
      omega⟩
   rcases hcs with h1 | ⟨h1, h2⟩
   ·rw [h1] at ep
    simp only [c29, St, Rr, Us.row, Ev.cells] at fp ep me wr ⊢
    have w2 := wr.toG rfl rfl
    repeat' ((first | apply Run_seq | apply Run_skip | apply Run_ret | apply Run_nil | apply Run_condK | apply Run_ops mixed | apply Run_opsX mixed | with_reducible refine PostV_open ?_ | with_reducible refine ro_callA (f := .c (.fn 62 [])) ?_ | with_reducible refine ro_callA' (f := .c (.fn 62 [])) ?_ | with_reducible refine ro_callE (f := .c (.fn 59 [])) (z := [5]) (q := []) ?_ | with_reducible refine ro_callE' (f := .c (.fn 59 [])) (z := [5]) (q := []) ?_ | with_reducible refine ro_callV ?_ | with_reducible refine ro_callVX ?_ | refine CallV_pure (fp) ?_ ?_ | refine CallV_pure (ep) ?_ ?_ | refine CallV_pure (me) ?_ ?_ | with_reducible refine CallE_use (o1) (by simp) ?_ | with_reducible refine CallE_use (o2) (by simp) ?_ | with_reducible refine CallE_use (w2) (by simp) ?_ | simp (disch := omega) only [w64, wu64, wu32, wu16, wu8, Int.tdiv_eq_ediv_of_nonneg, Int.tmod_eq_emod_of_nonneg] | ((first | refine GuardK_split ?_ ?_ | refine CondK_split ?_ ?_) <;> intro hc <;> (try simp only [hc]) <;> try simp at hc) | (with_reducible refine And.intro ?_ ?_; (focus ((repeat' (with_reducible refine And.intro ?_ ?_)) <;> first | exact trivial | assumption | (simp; done) | (simp only [List.length_map] at *; omega) | omega | (simp [D.one]; done)))) | (with_reducible intro x hx) | omega) <;> (try simp only [rowsE_len, c1, ha, hb, hsz, D.names, Nat.reduceBEq, argEnv, reduceIte, Nat.reduceAdd, Nat.reduceSub, Nat.reduceLeDiff, reduceCtorEq, binD, binInt, okD, aggD, unD, pickD, faddrD, extD, loadD, fillD, splice, D.cells, D.ok, D.one, D.pt, D.pt1, D.pt0, D.norm1, cond_false, ne_eq, view, view2, view1, view0, mapO, D.sc, D.sc1, D.sc2, pull, pull2, pull1, pull0, gate, pullσ, Go.Vi.freeze, Go.Vi.freeze1, capt, reachL, merge, mset, renOb, fr, D.ren, D.renL, ofRes, fw]))
    skip
   ·rw [h1] at ep
    have c2 : ((u.evs.length : Int) ≥ 64) = False := by simp; omega
    simp only [c29, St, Rr, Us.row, Ev.cells] at fp ep me wr ⊢
    have w2 := wr.toG rfl rfl
    repeat' ((first | apply Run_seq | apply Run_skip | apply Run_ret | apply Run_nil | apply Run_condK | apply Run_ops mixed | apply Run_opsX mixed | with_reducible refine PostV_open ?_ | with_reducible refine ro_callA (f := .c (.fn 62 [])) ?_ | with_reducible refine ro_callA' (f := .c (.fn 62 [])) ?_ | with_reducible refine ro_callE (f := .c (.fn 59 [])) (z := [5]) (q := []) ?_ | with_reducible refine ro_callE' (f := .c (.fn 59 [])) (z := [5]) (q := []) ?_ | with_reducible refine ro_callV ?_ | with_reducible refine ro_callVX ?_ | refine CallV_pure (fp) ?_ ?_ | refine CallV_pure (ep) ?_ ?_ | refine CallV_pure (me) ?_ ?_ | with_reducible refine CallE_use (o1) (by simp) ?_ | with_reducible refine CallE_use (o2) (by simp) ?_ | with_reducible refine CallE_use (w2) (by simp) ?_ | simp (disch := omega) only [w64, wu64, wu32, wu16, wu8, Int.tdiv_eq_ediv_of_nonneg, Int.tmod_eq_emod_of_nonneg] | ((first | refine GuardK_split ?_ ?_ | refine CondK_split ?_ ?_) <;> intro hc <;> (try simp only [hc]) <;> try simp at hc) | (with_reducible refine And.intro ?_ ?_; (focus ((repeat' (with_reducible refine And.intro ?_ ?_)) <;> first | exact trivial | assumption | (simp; done) | (simp only [List.length_map] at *; omega) | omega | (simp [D.one]; done)))) | (with_reducible intro x hx) | omega) <;> (try simp only [rowsE_len, c1, c2, ha, hb, hsz, D.names, Nat.reduceBEq, argEnv, reduceIte, Nat.reduceAdd, Nat.reduceSub, Nat.reduceLeDiff, reduceCtorEq, binD, binInt, okD, aggD, unD, pickD, faddrD, extD, lenD, loadD, fillD, splice, D.cells, D.ok, D.one, D.pt, D.pt1, D.pt0, D.norm1, cond_true, cond_false, ne_eq, view, view2, view1, view0, mapO, D.sc, D.sc1, D.sc2, pull, pull2, pull1, pull0, gate, pullσ, Go.Vi.freeze, Go.Vi.freeze1, capt, reachL, merge, mset, renOb, fr, D.ren, D.renL, ofRes, fw]))
    skip
theorem out_take {l : List Us} {i : Nat} {x : Us} (h : l[i]? = some x) : outU user (l.take (i + 1)) = outU user (l.take i) ++ if x.id = user then [] else [x] := by
 have : l.take (i + 1) = l.take i ++ [x] := by rw [List.take_add_one, h]; rfl
 rw [this]
 unfold outU
 rw [List.filter_append]
 congr 1
 by_cases hx : x.id = user <;> simp [hx]
set_option maxHeartbeats 8000000 in
theorem refLeave_p (hl : us.length ≤ 1000000) (hlp : ps.length ≤ 1000000) :
  PureD Try.prog 28 [St t us ps ds, .int .u32 user] (if (findU us user).isSome then Rr t (outU user us) (keepP user ps) ds 0 0 else Rr t us ps ds 0 4) := by
 have fp := refFind_p t us ps ds user (by omega)
 unfold findUR at fp
 refine pureV Try.func28 low28 (by simp [c28]) ?_
 generalize (findU us user).getD zU = u at fp
 cases hb : (findU us user).isSome with
 | false =>
  rw [hb] at fp
  simp only [c28, St, Rr, Us.row, Bool.false_eq_true, if_false] at fp ⊢
  repeat' ((first | apply Run_seq | apply Run_skip | apply Run_block | apply Run_blk | refine Run_exit rfl ?_ | apply Run_ret | apply Run_nil | apply Run_condK | apply Run_ops mixed | with_reducible refine PostV_open ?_ | with_reducible refine ro_callV ?_ | refine CallV_pure (fp) ?_ ?_ | simp (disch := omega) only [w64, wu64, wu32, wu16, wu8, Int.tdiv_eq_ediv_of_nonneg, Int.tmod_eq_emod_of_nonneg] | (refine CondK_split ?_ ?_ <;> intro hc <;> (try simp only [hc]) <;> try simp at hc) | (with_reducible refine And.intro ?_ ?_; (focus ((repeat' (with_reducible refine And.intro ?_ ?_)) <;> first | exact trivial | assumption | (simp; done) | (simp only [List.length_map] at *; omega) | omega | (simp [D.cells, D.ok, D.one, D.pt, D.pt1]; done)))) | (with_reducible intro x hx) | omega) <;> (try simp only [Nat.reduceBEq, argEnv, reduceIte, Nat.reduceAdd, Nat.reduceLeDiff, reduceCtorEq, okD, aggD, unD, extD, loadD, fillD, splice, D.cells, D.ok, D.one, D.pt, D.pt1, D.pt0, D.norm1, ne_eq, view, view2, view1, view0, mapO, D.sc, D.sc1, D.sc2, ofRes, fw]))
 | true =>
  rw [hb] at fp
  simp only [c28, St, Rr, Us.row, if_true] at fp ⊢
  repeat' ((first | apply Run_seq | apply Run_skip | apply Run_block | apply Run_blk | refine Run_exit rfl ?_ | apply Run_ret | apply Run_nil | apply Run_condK | apply Run_ops mixed | with_reducible refine PostV_open ?_ | with_reducible refine ro_callV ?_ | refine CallV_pure (fp) ?_ ?_ | simp (disch := omega) only [w64, wu64, wu32, wu16, wu8, Int.tdiv_eq_ediv_of_nonneg, Int.tmod_eq_emod_of_nonneg] | (refine CondK_split ?_ ?_ <;> intro hc <;> (try simp only [hc]) <;> try simp at hc) | (with_reducible refine And.intro ?_ ?_; (focus ((repeat' (with_reducible refine And.intro ?_ ?_)) <;> first | exact trivial | assumption | (simp; done) | (simp only [List.length_map] at *; omega) | omega | (simp [D.cells, D.ok, D.one, D.pt, D.pt1]; done)))) | (with_reducible intro x hx) | omega) <;> (try simp only [rowsU_len, Nat.reduceBEq, argEnv, reduceIte, Nat.reduceAdd, reduceCtorEq, okD, unD, faddrD, extD, lenD, loadD, splice, D.cells, D.ok, D.one, D.pt, D.pt1, D.pt0, D.norm1, implies_true, ne_eq, view, view2, view1, view0, mapO, D.sc, D.sc1, D.sc2, fw]))
  refine Run_ent (Ent_acc (t := 7) (b := false) 9 true (by decide) rfl) ?_
  refine Run_loop (ι := {i : Nat // i ≤ us.length}) (fun i => ([(1, .int .u32 user), (2, .ptr 0 0 0 1), (4, .ptr 1 0 0 1), (7, .own 2 0 (outU user (us.take i.1)).length (outU user (us.take i.1)).length 9 none), (24, .int .i64 us.length), (25, .int .i64 i.1)], [⟨true, false, true, false, 4, [[.int .i64 t, L (rowsU us), L (rowsP ps), L (rowsD ds)]], some 0⟩, ⟨true, false, true, false, 6, [[.int .i64 0, .list (some true) true [], .list (some true) true [], .list (some true) true [], .int .u64 0, .int .i64 0]], some 0⟩, acc false 9 true (rowsU (outU user (us.take i.1)))])) (fun i => us.length - i.1) ⟨0, by simp⟩ ?_ ?_
  ·simp only [List.take_zero, show outU user [] = [] from rfl, rowsU_nil, List.length_nil]
   refine Ent_gc [0, 1, 3] (by rfl) (by simp) (by simp [keptW, ObKW, ObW, imp_self, acc_real, acc_nl, acc_pure, acc_fz, acc_sz, acc_rows, acc_spare, pullOb, or_false]) (by simp [lk_hit, lk_miss, D.pt0, viewS_own', pull, pull2, pull1, pull0, idx_hit, idx_miss, sucO_some, gate, List.mem_cons, or_false, view0])
  rintro ⟨i, hi⟩ hk
  dsimp only at hk ⊢
  by_cases hlt : i < us.length
  ·have c1 : ((i : Int) < (us.length : Int)) = True := by simp; omega
   obtain ⟨x, hx⟩ : ∃ x, us[i]? = some x := ⟨_, List.getElem?_eq_getElem hlt⟩
   have hr := rowsU_get hx
   have ht := out_take user hx
   have hle : (outU user (us.take i)).length ≤ 1000000 := by
    have : (outU user (us.take i)).length ≤ (us.take i).length := List.length_filter_le ..
    rw [List.length_take] at this
    omega
   generalize outU user (us.take i) = F at ht hle ⊢
   have hsF : rowsU F ++ [x.row] = rowsU (F ++ [x]) := by simp [rowsU]
   simp only [Us.row] at hsF
   by_cases hc : x.id = user
   ·have c2 : (x.id == user) = true := by simpa using hc
    rw [if_pos hc, List.append_nil] at ht
    repeat' ((first | apply Run_seq | apply Run_skip | apply Run_block | apply Run_blk | refine Run_exit rfl ?_ | apply Run_ret | apply Run_nil | apply Run_condK | apply Run_ops mixed | with_reducible refine PostV_open ?_ | with_reducible refine ro_callV ?_ | simp (disch := omega) only [w64] | (refine CondK_split ?_ ?_ <;> intro hc <;> (try simp only [hc]) <;> try simp at hc) | (with_reducible refine And.intro ?_ ?_; (focus ((repeat' (with_reducible refine And.intro ?_ ?_)) <;> first | exact trivial | assumption | (simp; done) | (simp only [List.length_map] at *; omega) | omega | (simp [D.cells, D.ok, D.one, D.pt, D.pt1]; done)))) | (with_reducible intro x hx) | omega) <;> (try simp only [rowsU_len, c1, hr, Us.row, Nat.reduceBEq, reduceIte, Nat.reduceEqDiff, Nat.reduceAdd, Nat.reduceLeDiff, binD, binInt, faddrD, loadD, D.cells, D.ok, D.one, D.pt, D.pt1, D.norm1, fw]))
    refine hk ⟨i + 1, by omega⟩ _ _ (by dsimp only; omega) ?_
    dsimp only
    rw [ht]
    refine Ent_gc [0, 1, 2] (by rfl) (by simp) (by simp [keptW, ObKW, ObW, imp_self, acc_real, acc_nl, acc_pure, acc_fz, acc_sz, acc_rows, acc_spare, pullOb, or_false]) (by simp [lk_hit, lk_miss, D.pt0, viewS_own', pull, pull2, pull1, pull0, idx_hit, idx_miss, sucO_some, gate, List.mem_cons, or_false, view0])
   ·have c2 : (x.id == user) = false := by simpa using hc
    rw [if_neg hc] at ht
    repeat' ((first | apply Run_seq | apply Run_skip | apply Run_block | apply Run_blk | refine Run_exit rfl ?_ | apply Run_ret | apply Run_nil | apply Run_condK | apply Run_ops mixed | with_reducible refine PostV_open ?_ | with_reducible refine ro_callV ?_ | simp (disch := omega) only [w64] | (refine CondK_split ?_ ?_ <;> intro hc <;> (try simp only [hc]) <;> try simp at hc) | (with_reducible refine And.intro ?_ ?_; (focus ((repeat' (with_reducible refine And.intro ?_ ?_)) <;> first | exact trivial | assumption | (simp; done) | (simp only [List.length_map] at *; omega) | omega | (simp [D.one]; done)))) | (with_reducible intro x hx) | omega) <;> (try simp only [rowsU_len, c1, hr, hsF, Us.row, Nat.reduceBEq, reduceIte, Nat.reduceAdd, Nat.reduceLeDiff, binD, binInt, faddrD, loadD, D.cells, D.ok, D.one, D.pt, D.pt1, D.norm1, fw]))
    refine hk ⟨i + 1, by omega⟩ _ _ (by dsimp only; omega) ?_
    dsimp only
    rw [ht]
    simp only [List.length_append, List.length_cons, List.length_nil]
    refine Ent_gc [0, 1, 2] (by rfl) (by simp) (by simp [keptW, ObKW, ObW, imp_self, acc_real, acc_nl, acc_pure, acc_fz, acc_sz, acc_rows, acc_spare, pullOb, or_false]) (by simp [lk_hit, lk_miss, D.pt0, viewS_own', pull, pull2, pull1, pull0, idx_hit, idx_miss, sucO_some, gate, List.mem_cons, or_false, view0])
  ·have c1 : ((i : Int) < (us.length : Int)) = False := by simp; omega
   obtain rfl : i = us.length := by omega
   rw [List.take_length]
   generalize outU user us = us' at hk ⊢
   clear hk
   repeat' ((first | apply Run_seq | apply Run_skip | apply Run_block | apply Run_blk | refine Run_exit rfl ?_ | apply Run_ret | apply Run_nil | apply Run_condK | apply Run_ops mixed | with_reducible refine PostV_open ?_ | with_reducible refine ro_callV ?_ | simp (disch := omega) only [w64, wu64, wu32, wu16, wu8, Int.tdiv_eq_ediv_of_nonneg, Int.tmod_eq_emod_of_nonneg] | (refine CondK_split ?_ ?_ <;> intro hc <;> (try simp only [hc]) <;> try simp at hc) | (with_reducible refine And.intro ?_ ?_; (focus ((repeat' (with_reducible refine And.intro ?_ ?_)) <;> first | exact trivial | assumption | (simp; done) | (simp only [List.length_map] at *; omega) | omega | (simp [D.cells, D.ok, D.one, D.pt, D.pt1]; done)))) | (with_reducible intro x hx) | omega) <;> (try simp only [rowsP_len, c1, Nat.reduceBEq, reduceIte, binD, binInt, faddrD, lenD, loadD, D.cells, D.ok, D.one, implies_true, fw]))
   refine Run_ent (Ent_acc (t := 9) (b := false) 16 true (by decide) rfl) ?_
   refine Run_loop (ι := {i : Nat // i ≤ ps.length}) (fun i => ([(1, .int .u32 user), (2, .ptr 0 0 0 1), (4, .ptr 1 0 0 1), (7, .own 2 0 us'.length us'.length 9 none), (9, .own 3 0 (keepP user (ps.take i.1)).length (keepP user (ps.take i.1)).length 16 none), (48, .int .i64 ps.length), (49, .int .i64 i.1)], [⟨true, false, true, false, 4, [[.int .i64 t, L (rowsU us), L (rowsP ps), L (rowsD ds)]], some 0⟩, ⟨true, false, true, false, 6, [[.int .i64 0, .list (some true) true [], .list (some true) true [], .list (some true) true [], .int .u64 0, .int .i64 0]], some 0⟩, acc false 9 true (rowsU us'), acc false 16 true (rowsP (keepP user (ps.take i.1)))])) (fun i => ps.length - i.1) ⟨0, by simp⟩ ?_ ?_
   ·simp only [List.take_zero, show keepP user [] = [] from rfl, show rowsP [] = [] from rfl, List.length_nil]
    refine Ent_gc [0, 1, 2, 3] (by rfl) (by simp) (by simp [keptW, ObKW, ObW, imp_self, acc_real, acc_nl, acc_pure, acc_fz, acc_sz, acc_rows, acc_spare, pullOb, or_false]) (by simp [lk_hit, lk_miss, D.pt0, viewS_own', pull, pull2, pull1, pull0, idx_hit, idx_miss, sucO_some, gate, List.mem_cons, or_false, view0])
   rintro ⟨i, hi⟩ hk
   dsimp only at hk ⊢
   by_cases hlt : i < ps.length
   ·have c1 : ((i : Int) < (ps.length : Int)) = True := by simp; omega
    obtain ⟨x, hx⟩ : ∃ x, ps[i]? = some x := ⟨_, List.getElem?_eq_getElem hlt⟩
    have hr := rowsP_get hx
    have ht := keepP_take (user := user) hx
    have hle : (keepP user (ps.take i)).length ≤ 1000000 := by
     have : (keepP user (ps.take i)).length ≤ (ps.take i).length := List.length_filter_le ..
     rw [List.length_take] at this
     omega
    generalize keepP user (ps.take i) = F at ht hle ⊢
    have hsF : rowsP F ++ [x.row] = rowsP (F ++ [x]) := by simp [rowsP]
    simp only [Po.row] at hsF
    by_cases hc : x.owner = user
    ·have c2 : (x.owner == user) = true := by simpa using hc
     rw [if_pos hc, List.append_nil] at ht
     repeat' ((first | apply Run_seq | apply Run_skip | apply Run_block | apply Run_blk | refine Run_exit rfl ?_ | apply Run_ret | apply Run_nil | apply Run_condK | apply Run_ops mixed | with_reducible refine PostV_open ?_ | with_reducible refine ro_callV ?_ | simp (disch := omega) only [w64] | (refine CondK_split ?_ ?_ <;> intro hc <;> (try simp only [hc]) <;> try simp at hc) | (with_reducible refine And.intro ?_ ?_; (focus ((repeat' (with_reducible refine And.intro ?_ ?_)) <;> first | exact trivial | assumption | (simp; done) | (simp only [List.length_map] at *; omega) | omega | (simp [D.cells, D.ok, D.one, D.pt, D.pt1]; done)))) | (with_reducible intro x hx) | omega) <;> (try simp only [rowsP_len, c1, hr, Po.row, Nat.reduceBEq, reduceIte, Nat.reduceEqDiff, Nat.reduceAdd, Nat.reduceLeDiff, binD, binInt, faddrD, loadD, D.cells, D.ok, D.one, D.pt, D.pt1, D.norm1, fw]))
     refine hk ⟨i + 1, by omega⟩ _ _ (by dsimp only; omega) ?_
     dsimp only
     rw [ht]
     refine Ent_gc [0, 1, 2, 3] (by rfl) (by simp) (by simp [keptW, ObKW, ObW, imp_self, acc_real, acc_nl, acc_pure, acc_fz, acc_sz, acc_rows, acc_spare, pullOb, or_false]) (by simp [lk_hit, lk_miss, D.pt0, viewS_own', pull, pull2, pull1, pull0, idx_hit, idx_miss, sucO_some, gate, List.mem_cons, or_false, view0])
    ·have c2 : (x.owner == user) = false := by simpa using hc
     rw [if_neg hc] at ht
     repeat' ((first | apply Run_seq | apply Run_skip | apply Run_block | apply Run_blk | refine Run_exit rfl ?_ | apply Run_ret | apply Run_nil | apply Run_condK | apply Run_ops mixed | with_reducible refine PostV_open ?_ | with_reducible refine ro_callV ?_ | simp (disch := omega) only [w64] | (refine CondK_split ?_ ?_ <;> intro hc <;> (try simp only [hc]) <;> try simp at hc) | (with_reducible refine And.intro ?_ ?_; (focus ((repeat' (with_reducible refine And.intro ?_ ?_)) <;> first | exact trivial | assumption | (simp; done) | (simp only [List.length_map] at *; omega) | omega | (simp [D.one]; done)))) | (with_reducible intro x hx) | omega) <;> (try simp only [rowsP_len, c1, hr, hsF, Po.row, Nat.reduceBEq, reduceIte, Nat.reduceAdd, Nat.reduceLeDiff, binD, binInt, faddrD, loadD, D.cells, D.ok, D.one, D.pt, D.pt1, D.norm1, fw]))
     refine hk ⟨i + 1, by omega⟩ _ _ (by dsimp only; omega) ?_
     dsimp only
     rw [ht]
     simp only [List.length_append, List.length_cons, List.length_nil]
     refine Ent_gc [0, 1, 2, 3] (by rfl) (by simp) (by simp [keptW, ObKW, ObW, imp_self, acc_real, acc_nl, acc_pure, acc_fz, acc_sz, acc_rows, acc_spare, pullOb, or_false]) (by simp [lk_hit, lk_miss, D.pt0, viewS_own', pull, pull2, pull1, pull0, idx_hit, idx_miss, sucO_some, gate, List.mem_cons, or_false, view0])
   ·have c1 : ((i : Int) < (ps.length : Int)) = False := by simp; omega
    obtain rfl : i = ps.length := by omega
    rw [List.take_length]
    generalize keepP user ps = ps' at hk ⊢
    clear hk
    repeat' ((first | apply Run_seq | apply Run_skip | apply Run_block | apply Run_blk | refine Run_exit rfl ?_ | apply Run_ret | apply Run_nil | apply Run_condK | apply Run_ops mixed | with_reducible refine PostV_open ?_ | with_reducible refine ro_callV ?_ | simp (disch := omega) only [w64, wu64, wu32, wu16, wu8, Int.tdiv_eq_ediv_of_nonneg, Int.tmod_eq_emod_of_nonneg] | (refine CondK_split ?_ ?_ <;> intro hc <;> (try simp only [hc]) <;> try simp at hc) | (with_reducible refine And.intro ?_ ?_; (focus ((repeat' (with_reducible refine And.intro ?_ ?_)) <;> first | exact trivial | assumption | (simp; done) | (simp only [List.length_map] at *; omega) | omega | (simp [D.cells, D.ok, D.one, D.pt, D.pt1]; done)))) | (with_reducible intro x hx) | omega) <;> (try simp only [rowsU_len, rowsP_len, c1, Nat.reduceBEq, reduceIte, Nat.reduceAdd, Nat.reduceLeDiff, binD, binInt, aggD, faddrD, loadD, fillD, splice, D.cells, D.ok, D.one, D.pt1, D.pt0, D.norm1, view, view2, view1, view0, mapO, ofRes, fw]))
end
end Go.Proofs.Ytoleaiaeghbffaa
