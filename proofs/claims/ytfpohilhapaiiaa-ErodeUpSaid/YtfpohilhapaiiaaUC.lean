import Derived.Test.YtfpohilhapaiiaaUB
import Derived.Test.YtfpohilhapaiiaaXX
set_option linter.unusedVariables false
set_option linter.unusedSimpArgs false
set_option linter.unnecessarySimpa false
namespace Go.Proofs.Ytfpohilhapaiiaa
open Go Go.Vi


theorem peekL_ok (n k : Int) (hn : 1 ≤ n ∧ n ≤ 1099511627776) (hk : Fit k) : ∀ (l : List Sp) (h r : Sp), SpOk l → (Fit h.1 ∧ Fit h.2) → SpOk (peekL n k l h r).2.2.1 ∧ (Fit (peekL n k l h r).2.1.1 ∧ Fit (peekL n k l h r).2.1.2) ∧ (peekL n k l h r).2.2.1.length ≤ l.length
  | [], h, r, _, hh => ⟨by simp [peekL, SpOk], hh, by simp [peekL]⟩
  | s :: l, h, r, hs, hh => by
    have h1 := hs s (by simp)
    have e1 : peekL n k (s :: l) h r = if n ≤ s.2 - s.1 then (if max s.1 k < s.2 - n + 1 then (true, (max s.1 k, s.2 - n + 1), l, s) else peekL n k l (max s.1 k, s.2 - n + 1) s) else peekL n k l h s := rfl
    rw [e1]
    unfold Fit at h1 hk
    by_cases hc : n ≤ s.2 - s.1
    · have hf : Fit (max s.1 k, s.2 - n + 1).1 ∧ Fit (max s.1 k, s.2 - n + 1).2 := by unfold Fit; dsimp only; omega
      rw [if_pos hc]
      by_cases hd : max s.1 k < s.2 - n + 1
      · rw [if_pos hd]
        exact ⟨hs.tail, hf, by simp⟩
      · rw [if_neg hd]
        obtain ⟨a, b, c⟩ := peekL_ok n k hn (by unfold Fit; omega) l (max s.1 k, s.2 - n + 1) s hs.tail hf
        exact ⟨a, b, by simp only [List.length_cons]; omega⟩
    · rw [if_neg hc]
      obtain ⟨a, b, c⟩ := peekL_ok n k hn (by unfold Fit; omega) l h s hs.tail hh
      exact ⟨a, b, by simp only [List.length_cons]; omega⟩
theorem TsOk.peek {n : Int} {t : Ts} (hn : 1 ≤ n ∧ n ≤ 1099511627776) (h : TsOk t) : TsOk (t.peek n) := by
  unfold Ts.peek
  split
  · exact h
  · obtain ⟨a, b, c⟩ := peekL_ok n t.skip hn h.skip t.rest t.head t.hr h.rest h.head
    exact ⟨Nat.le_trans c h.len, a, h.skip, b⟩
theorem TsOk.pop {n : Int} {t : Ts} (hn : 1 ≤ n ∧ n ≤ 1099511627776) (h : TsOk t) : TsOk (t.pop n) := by
  have := TsOk.peek hn h
  exact ⟨this.len, this.rest, this.skip, this.head⟩
theorem TsOk.skipTo {m : Int} {t : Ts} (hm : Fit m) (h : TsOk t) : TsOk (t.skipTo m) := by
  unfold Ts.skipTo
  have hh := h.head
  split
  · exact h
  · split
    · exact ⟨h.len, h.rest, hm, by unfold Fit at hh hm ⊢; dsimp only; omega⟩
    · exact ⟨h.len, h.rest, hm, h.head⟩
structure PkOk (p : Pk) : Prop where
  t : TsOk p.t
  now : Fit p.now.1 ∧ Fit p.now.2
theorem PkOk.skipTo {m : Int} {p : Pk} (hm : Fit m) (h : PkOk p) : PkOk (p.skipTo m) := by
  have hn := h.now
  refine ⟨h.t.skipTo hm, ?_⟩
  unfold Pk.skipTo
  unfold Fit at hn hm ⊢
  dsimp only; omega
theorem nextP_ok {g n : Int} (hg : 0 < g) (hn : 1 ≤ n ∧ n ≤ 1099511627776) : ∀ (f : Nat) (p : Pk), PkOk p → PkOk (nextP g n f p).2
  | 0, p, h => h
  | f + 1, p, h => by
    unfold nextP
    by_cases h0 : p.some_ = false ∧ (p.t.peek n).has = false
    · rw [if_pos h0]
      exact ⟨h.t.peek hn, by unfold Fit; dsimp only; omega⟩
    · rw [if_neg h0]
      dsimp only
      obtain ⟨q, hq⟩ : ∃ q : Pk, q = if p.some_ = true then p else ⟨p.t.pop n, (p.t.peek n).head, true⟩ := ⟨_, rfl⟩
      rw [← hq]
      have hqo : PkOk q := by
        by_cases hs : p.some_ = true
        · rw [if_pos hs] at hq; subst hq; exact h
        · rw [if_neg hs] at hq; subst hq; exact ⟨h.t.pop hn, (h.t.peek hn).head⟩
      have hnow := hqo.now
      have hge := upG_ge (a := q.now.1) hg
      unfold Fit at hnow
      by_cases hu : upG g q.now.1 < q.now.2
      · rw [if_pos hu]
        exact ⟨hqo.t, by unfold Fit; dsimp only; omega⟩
      · rw [if_neg hu]
        exact nextP_ok hg hn f ⟨q.t, q.now, false⟩ ⟨hqo.t, hqo.now⟩
theorem skipP_p (g n m : Int) (p : Pk) :
    CallG Try.prog 13 [.ptr 0 0 0 1, .int .i64 m] [Po 1 g p.now p.some_, To 2 n p.t.head p.t.has p.t.skip, Bo 3, Ro p.t.rest p.t.hr false] (.tup [])
      [Po 1 g (p.skipTo m).now (p.skipTo m).some_, To 2 n (p.skipTo m).t.head (p.skipTo m).t.has (p.skipTo m).t.skip, Bo 3, Ro (p.skipTo m).t.rest (p.skipTo m).t.hr false] := by
  refine callG Try.func13 low13 (by simp [c13]) ?_
  simp only [c13]
  obtain ⟨t, now, some_⟩ := p
  unfold Pk.skipTo
  dsimp only
  have hs := SkipT_p n t m
  generalize t.skipTo m = u at hs ⊢
  have mE := mxE
  cases some_
  · simp only [Bool.false_and]
    repeat' ((first | refine Run_seq ?_ | refine Run_skip ?_ | refine Run_block ?_ | refine Run_blk ?_ | refine Run_exit rfl ?_ | refine Run_ret ?_ | refine Run_nil ?_ | refine Run_condK ?_ | refine Run_ops mixed ?_ | refine Run_opsX mixed ?_ | with_reducible refine PostV_open ?_ | with_reducible refine PostG_open ?_ | with_reducible refine PostQ_open ?_ | with_reducible refine ro_callA (f := .c (.fn 20 [])) ?_ | with_reducible refine ro_callA' (f := .c (.fn 20 [])) ?_ | with_reducible refine ro_callV ?_ | with_reducible refine ro_callVX ?_ | with_reducible refine CallE_use (hs) (by simp) ?_ | simp (disch := omega) only [w64, wu64, wu32, wu16, wu8, Int.tdiv_eq_ediv_of_nonneg, Int.tmod_eq_emod_of_nonneg] | (with_reducible refine SliceK_own rfl rfl ?_ ?_; (focus ((try simp only [rowsS_len, reduceIte, Int.natCast_nonneg, Int.le_refl, List.length_append, List.length_map, Nat.sub_zero]) <;> ((repeat' (with_reducible refine And.intro ?_ ?_)) <;> first | exact trivial | assumption | (simp; done) | (simp only [List.length_map] at *; omega) | omega | (simp [D.cells, D.ok, D.one, D.pt, D.pt1]; done))))) | (refine GuardK_split (fun hc => ?_) (fun hc => ?_) <;> (try simp only [hc]) <;> (try simp at hc)) | (refine CondK_split (fun hc => ?_) (fun hc => ?_) <;> (try simp only [hc]) <;> (try simp at hc)) | (with_reducible refine And.intro ?_ ?_; (focus ((repeat' (with_reducible refine And.intro ?_ ?_)) <;> first | exact trivial | assumption | (simp; done) | (simp only [List.length_map] at *; omega) | omega | (simp [D.cells, D.ok, D.one, D.pt, D.pt1]; done)))) | (with_reducible intro x hx) | omega) <;> (try simp only [mE, ro_nil, ro_mov, ro_pick, ro_chk, ro_eq, ro_faddr, ro_mx, ro_load, LoadK_ptr, LoadO_some, LoadR_some, ro_store, StoreK_ptr, StoreO_some, StoreR_some, eqO_ptr, rx_nil, rx_cons, keepK_nil, ro_guard, GuardK_ft, CondK_f, contP_some, lk_hit, lk_miss, Nat.reduceBEq, put_some, put_none, ev_t, ev_c, argEnv, reduceIte, Nat.reduceEqDiff, Nat.reduceAdd, Nat.reduceSub, Nat.reduceLT, Nat.reduceLeDiff, reduceCtorEq, eqD, eqN, boolD, pickD, chkD, faddrD, mxD, loadD, splice, D.cells, D.ok, D.one, D.pt1, D.pt0, cond_false, true_and, and_self, Bool.and_true, Bool.and_false, Bool.not_false, List.getElem?_cons_zero, List.getElem?_cons_succ, List.length_cons, List.length_nil, List.take_succ_cons, List.take_zero, List.drop_succ_cons, List.drop_zero, List.drop_nil, List.cons_append, List.nil_append, List.append_nil, List.map_cons, List.map_nil, List.all_cons, List.all_nil, List.set_cons_zero, List.set_cons_succ, Nat.zero_add, Nat.add_zero, Int.reduceNeg, Nat.le_refl, Nat.lt_add_one, mapO, capsD_fn, pull, pull2, pull1, pull0, idx_hit, idx_miss, sucO_some, pullσ, pullOb, Go.Vi.freeze, capt, reachL, reachO, isin, List.flatten_cons, List.flatten_nil, merge, mset, renOb, fr, D.ren, D.renL, List.getD_cons_zero, List.getD_cons_succ, resK_nil, ofRes]))
    refine GcTo_own [0, 1, 2, 3] (by rfl) (by simp) (by simp [keptW, ObKW, ObW, imp_self, D.pt1, D.pt0, pull, pull1, pull0, idx_hit, idx_miss, sucO_some, pullOb, or_false, mapO])
  · simp only [Bool.true_and]
    repeat' ((first | refine Run_seq ?_ | refine Run_skip ?_ | refine Run_block ?_ | refine Run_blk ?_ | refine Run_exit rfl ?_ | refine Run_ret ?_ | refine Run_nil ?_ | refine Run_condK ?_ | refine Run_ops mixed ?_ | refine Run_opsX mixed ?_ | with_reducible refine PostV_open ?_ | with_reducible refine PostG_open ?_ | with_reducible refine PostQ_open ?_ | with_reducible refine ro_callA (f := .c (.fn 20 [])) ?_ | with_reducible refine ro_callA' (f := .c (.fn 20 [])) ?_ | with_reducible refine ro_callV ?_ | with_reducible refine ro_callVX ?_ | with_reducible refine CallE_use (hs) (by simp) ?_ | simp (disch := omega) only [w64, wu64, wu32, wu16, wu8, Int.tdiv_eq_ediv_of_nonneg, Int.tmod_eq_emod_of_nonneg] | (with_reducible refine SliceK_own rfl rfl ?_ ?_; (focus ((try simp only [rowsS_len, reduceIte, Int.natCast_nonneg, Int.le_refl, List.length_append, List.length_map, Nat.sub_zero]) <;> ((repeat' (with_reducible refine And.intro ?_ ?_)) <;> first | exact trivial | assumption | (simp; done) | (simp only [List.length_map] at *; omega) | omega | (simp [D.cells, D.ok, D.one, D.pt, D.pt1]; done))))) | (refine GuardK_split (fun hc => ?_) (fun hc => ?_) <;> (try simp only [hc]) <;> (try simp at hc)) | (refine CondK_split (fun hc => ?_) (fun hc => ?_) <;> (try simp only [hc]) <;> (try simp at hc)) | (with_reducible refine And.intro ?_ ?_; (focus ((repeat' (with_reducible refine And.intro ?_ ?_)) <;> first | exact trivial | assumption | (simp; done) | (simp only [List.length_map] at *; omega) | omega | (simp [D.cells, D.ok, D.one, D.pt, D.pt1]; done)))) | (with_reducible intro x hx) | omega) <;> (try simp only [mE, ro_nil, ro_mov, ro_pick, ro_chk, ro_bin, ro_eq, ro_faddr, ro_mx, ro_load, LoadK_ptr, LoadO_some, LoadR_some, ro_store, StoreK_ptr, StoreO_some, StoreR_some, eqO_ptr, rx_nil, rx_cons, keepK_nil, ro_guard, GuardK_tt, CondK_f, contP_some, lk_hit, lk_miss, Nat.reduceBEq, put_some, put_none, ev_t, ev_c, argEnv, reduceIte, Nat.reduceEqDiff, Nat.reduceAdd, Nat.reduceSub, Nat.reduceLT, Nat.reduceLeDiff, reduceCtorEq, binD, binInt, eqD, eqN, boolD, pickD, chkD, faddrD, mxD, loadD, splice, D.cells, D.ok, D.one, D.pt1, D.pt0, cond_true, cond_false, true_and, and_self, Bool.and_true, Bool.and_false, Bool.not_false, List.getElem?_cons_zero, List.getElem?_cons_succ, List.length_cons, List.length_nil, List.take_succ_cons, List.take_zero, List.drop_succ_cons, List.drop_zero, List.drop_nil, List.cons_append, List.nil_append, List.append_nil, List.map_cons, List.map_nil, List.all_cons, List.all_nil, List.set_cons_zero, List.set_cons_succ, Nat.zero_add, Nat.add_zero, Int.reduceNeg, Nat.le_refl, Nat.lt_add_one, mapO, capsD_fn, pull, pull2, pull1, pull0, idx_hit, idx_miss, sucO_some, pullσ, pullOb, Go.Vi.freeze, capt, reachL, reachO, isin, List.flatten_cons, List.flatten_nil, merge, mset, renOb, fr, D.ren, D.renL, List.getD_cons_zero, List.getD_cons_succ, resK_nil, ofRes]))
    refine GcTo_own [0, 1, 2, 3] (by rfl) (by simp) (by simp [keptW, ObKW, ObW, imp_self, D.pt1, D.pt0, pull, pull1, pull0, idx_hit, idx_miss, sucO_some, pullOb, or_false, mapO])
def ansP : Option Int → D
  | none => .tup [.int .i64 0, .bool false]
  | some x => .tup [.int .i64 x, .bool true]
set_option maxHeartbeats 8000000 in
theorem nextP_p (g n : Int) (p0 : Pk) (hg : 1 ≤ g ∧ g ≤ 1099511627776) (hn : 1 ≤ n ∧ n ≤ 1099511627776) (f0 : Nat) (hf : p0.need n ≤ f0) (hp : PkOk p0) :
    CallG Try.prog 14 [.ptr 0 0 0 1] [Po 1 g p0.now p0.some_, To 2 n p0.t.head p0.t.has p0.t.skip, Bo 3, Ro p0.t.rest p0.t.hr false] (ansP (nextP g n f0 p0).1)
      [Po 1 g (nextP g n f0 p0).2.now (nextP g n f0 p0).2.some_, To 2 n (nextP g n f0 p0).2.t.head (nextP g n f0 p0).2.t.has (nextP g n f0 p0).2.t.skip, Bo 3, Ro (nextP g n f0 p0).2.t.rest (nextP g n f0 p0).2.t.hr false] := by
  refine callG Try.func14 low14 (by simp [c14]) ?_
  simp only [c14]
  generalize hX : nextP g n f0 p0 = X
  repeat' ((first | refine Run_seq ?_ | refine Run_skip ?_ | refine Run_block ?_ | refine Run_blk ?_ | refine Run_exit rfl ?_ | refine Run_ret ?_ | refine Run_nil ?_ | refine Run_condK ?_ | refine Run_ops mixed ?_ | refine Run_opsX mixed ?_ | with_reducible refine PostV_open ?_ | with_reducible refine PostG_open ?_ | with_reducible refine PostQ_open ?_ | with_reducible refine ro_callV ?_ | with_reducible refine ro_callVX ?_ | simp (disch := omega) only [w64, wu64, wu32, wu16, wu8, Int.tdiv_eq_ediv_of_nonneg, Int.tmod_eq_emod_of_nonneg] | (with_reducible refine SliceK_own rfl rfl ?_ ?_; (focus ((try simp only [rowsS_len, reduceIte, Int.natCast_nonneg, Int.le_refl, List.length_append, List.length_map, Nat.sub_zero]) <;> ((repeat' (with_reducible refine And.intro ?_ ?_)) <;> first | exact trivial | assumption | (simp; done) | (simp only [List.length_map] at *; omega) | omega | (simp [D.cells, D.ok, D.one, D.pt, D.pt1]; done))))) | (refine GuardK_split (fun hc => ?_) (fun hc => ?_) <;> (try simp only [hc]) <;> (try simp at hc)) | (refine CondK_split (fun hc => ?_) (fun hc => ?_) <;> (try simp only [hc]) <;> (try simp at hc)) | (with_reducible refine And.intro ?_ ?_; (focus ((repeat' (with_reducible refine And.intro ?_ ?_)) <;> first | exact trivial | assumption | (simp; done) | (simp only [List.length_map] at *; omega) | omega | (simp [D.cells, D.ok, D.one, D.pt, D.pt1]; done)))) | (with_reducible intro x hx) | omega) <;> (try simp only [ro_nil, ro_mov, ro_eq, eqO_ptr, CondK_f, contP_some, lk_hit, lk_miss, Nat.reduceBEq, put_some, ev_t, ev_c, argEnv, eqD, eqN, boolD, cond_false, true_and, Bool.not_false]))
  refine Run_loop (ι := {q : Nat × Pk // nextP g n q.1 q.2 = X ∧ q.2.need n ≤ q.1 ∧ PkOk q.2}) (fun q => ([(0, .ptr 0 0 0 1), (2, .int .i64 0), (3, .bool false)], [Po 1 g q.1.2.now q.1.2.some_, To 2 n q.1.2.t.head q.1.2.t.has q.1.2.t.skip, Bo 3, Ro q.1.2.t.rest q.1.2.t.hr false])) (fun q => q.1.1) ⟨(f0, p0), hX, hf, hp⟩ ?_ ?_
  · refine Ent_gc [0, 1, 2, 3] (by rfl) (by simp) (by simp [keptW, ObKW, ObW, imp_self, D.pt1, D.pt0, pull1, pull0, idx_hit, idx_miss, sucO_some, pullOb, or_false, mapO]) (by simp [lk_hit, lk_miss, D.pt0, viewS_own', pull, pull2, pull1, pull0, idx_hit, gate, List.mem_cons, or_false, view0])
  rintro ⟨⟨f, p⟩, hk1, hk2, hk3⟩ hk
  dsimp only at hk1 hk2 hk3 hk ⊢
  obtain ⟨f, rfl⟩ : ∃ f', f = f' + 1 := ⟨f - 1, by unfold Pk.need at hk2; omega⟩
  obtain ⟨t, now, some_⟩ := p
  have hto := hk3.t
  have hno := hk3.now
  have eg : max g 1 = g := by omega
  have hg0 : 0 < g := by omega
  dsimp only at hk1 hk2 hto hno ⊢
  unfold nextP at hk1
  cases some_
  · have hr := NextT_p n t hn hto
    have hpok := hto.pop hn
    have hpk := hto.peek hn
    have hleft := Ts.pop_left n t
    unfold ansT at hr
    cases hh : (t.peek n).has
    · rw [hh] at hr hk1 hleft
      simp only [Bool.false_eq_true, if_false] at hr
      rw [if_pos ⟨rfl, rfl⟩] at hk1
      rw [← hk1]
      have e : t.pop n = t.peek n := by
        unfold Ts.pop
        rw [← hh]
      rw [e] at hr
      simp only [ansP]
      generalize t.peek n = u at hr hh ⊢
      repeat' ((first | refine Run_seq ?_ | refine Run_skip ?_ | refine Run_block ?_ | refine Run_blk ?_ | refine Run_exit rfl ?_ | refine Run_ret ?_ | refine Run_nil ?_ | refine Run_condK ?_ | refine Run_ops mixed ?_ | refine Run_opsX mixed ?_ | with_reducible refine PostV_open ?_ | with_reducible refine PostG_open ?_ | with_reducible refine PostQ_open ?_ | with_reducible refine ro_callA (f := .c (.fn 21 [])) ?_ | with_reducible refine ro_callA' (f := .c (.fn 21 [])) ?_ | with_reducible refine ro_callV ?_ | with_reducible refine ro_callVX ?_ | with_reducible refine CallE_use (hr) (by simp) ?_ | simp (disch := omega) only [w64, wu64, wu32, wu16, wu8, Int.tdiv_eq_ediv_of_nonneg, Int.tmod_eq_emod_of_nonneg] | (with_reducible refine SliceK_own rfl rfl ?_ ?_; (focus ((try simp only [rowsS_len, reduceIte, Int.natCast_nonneg, Int.le_refl, List.length_append, List.length_map, Nat.sub_zero]) <;> ((repeat' (with_reducible refine And.intro ?_ ?_)) <;> first | exact trivial | assumption | (simp; done) | (simp only [List.length_map] at *; omega) | omega | (simp [D.cells, D.ok, D.one, D.pt, D.pt1]; done))))) | (refine GuardK_split (fun hc => ?_) (fun hc => ?_) <;> (try simp only [hc]) <;> (try simp at hc)) | (refine CondK_split (fun hc => ?_) (fun hc => ?_) <;> (try simp only [hc]) <;> (try simp at hc)) | (with_reducible refine And.intro ?_ ?_; (focus ((repeat' (with_reducible refine And.intro ?_ ?_)) <;> first | exact trivial | assumption | (simp; done) | (simp only [List.length_map] at *; omega) | omega | (simp [D.cells, D.ok, D.one, D.pt, D.pt1]; done)))) | (with_reducible intro x hx) | omega) <;> (try simp only [ro_nil, ro_mov, ro_chk, ro_un, ro_faddr, ro_ext, ro_load, LoadK_ptr, LoadO_some, LoadR_some, ro_store, StoreK_ptr, StoreO_some, StoreR_some, CondK_t, contP_some, lk_hit, lk_miss, Nat.reduceBEq, put_some, put_none, ev_t, ev_c, reduceIte, Nat.reduceEqDiff, Nat.reduceAdd, Nat.reduceSub, Nat.reduceLT, Nat.reduceLeDiff, reduceCtorEq, okD, unD, chkD, faddrD, extD, loadD, splice, D.cells, D.ok, D.one, D.pt1, D.pt0, true_and, and_self, Bool.and_true, Bool.and_false, Bool.not_false, List.getElem?_cons_zero, List.getElem?_cons_succ, List.length_cons, List.length_nil, List.take_succ_cons, List.take_zero, List.drop_succ_cons, List.drop_zero, List.drop_nil, List.cons_append, List.nil_append, List.append_nil, List.map_cons, List.map_nil, List.all_cons, List.all_nil, List.set_cons_zero, List.set_cons_succ, Nat.zero_add, Nat.add_zero, Int.reduceNeg, Nat.le_refl, Nat.lt_add_one, mapO, capsD_fn, pull, pull2, pull1, pull0, idx_hit, idx_miss, sucO_some, pullσ, pullOb, Go.Vi.freeze, capt, reachL, reachO, isin, List.flatten_cons, List.flatten_nil, merge, mset, renOb, fr, D.ren, D.renL, List.getD_cons_zero, List.getD_cons_succ, resK_nil, resK_tmp, ofRes]))
      rw [hh]
      refine GcTo_own [0, 1, 2, 3] (by rfl) (by simp) (by simp [keptW, ObKW, ObW, imp_self, D.pt1, D.pt0, pull, pull2, pull1, pull0, idx_hit, idx_miss, sucO_some, pullOb, or_false, mapO])
    · rw [hh] at hr hk1 hleft
      simp only [if_true] at hr
      rw [if_neg (by simp)] at hk1
      simp only [Bool.false_eq_true, if_false] at hk1
      have hnow := hpk.head
      have hneed : (⟨t.pop n, (t.peek n).head, false⟩ : Pk).need n ≤ f := by
        unfold Pk.need at hk2 ⊢
        rw [hleft] at hk2
        simp only [if_true, List.length_append, List.length_cons, List.length_nil, Bool.false_eq_true, if_false] at hk2 ⊢
        omega
      generalize t.pop n = u at hr hpok hk1 hneed ⊢
      generalize (t.peek n).head = now' at hr hk1 hnow hneed ⊢
      have hup := up_p now'.1 g hnow.1 (by unfold Fit; omega)
      rw [eg] at hup
      unfold upA at hup
      have hge := upG_ge (a := now'.1) hg0
      unfold Fit at hnow
      generalize upG g now'.1 = a at hup hge hk1
      by_cases ha : a ≤ 9223372036854775807
      · rw [if_pos ha] at hup
        by_cases hlt : a < now'.2
        · have c1 : (a < now'.2) = True := by simpa using hlt
          rw [if_pos hlt] at hk1
          rw [← hk1]
          simp only [ansP]
          repeat' ((first | refine Run_seq ?_ | refine Run_skip ?_ | refine Run_block ?_ | refine Run_blk ?_ | refine Run_exit rfl ?_ | refine Run_ret ?_ | refine Run_nil ?_ | refine Run_condK ?_ | refine Run_ops mixed ?_ | refine Run_opsX mixed ?_ | with_reducible refine PostV_open ?_ | with_reducible refine PostG_open ?_ | with_reducible refine PostQ_open ?_ | with_reducible refine ro_callA (f := .c (.fn 21 [])) ?_ | with_reducible refine ro_callA' (f := .c (.fn 21 [])) ?_ | with_reducible refine ro_callV ?_ | with_reducible refine ro_callVX ?_ | with_reducible refine CallE_use (hr) (by simp) ?_ | refine CallV_pure (hup) ?_ ?_ | simp (disch := omega) only [w64] | (with_reducible refine SliceK_own rfl rfl ?_ ?_; (focus ((try simp only [rowsS_len, reduceIte, Int.natCast_nonneg, Int.le_refl, List.length_append, List.length_map, Nat.sub_zero]) <;> ((repeat' (with_reducible refine And.intro ?_ ?_)) <;> first | exact trivial | assumption | (simp; done) | (simp only [List.length_map] at *; omega) | omega | (simp [D.cells, D.ok, D.one, D.pt, D.pt1]; done))))) | (refine GuardK_split (fun hc => ?_) (fun hc => ?_) <;> (try simp only [hc]) <;> (try simp at hc)) | (refine CondK_split (fun hc => ?_) (fun hc => ?_) <;> (try simp only [hc]) <;> (try simp at hc)) | (with_reducible refine And.intro ?_ ?_; (focus ((repeat' (with_reducible refine And.intro ?_ ?_)) <;> first | exact trivial | assumption | (simp; done) | (simp only [List.length_map] at *; omega) | omega | (simp [D.cells, D.ok, D.one, D.pt, D.pt1]; done)))) | (with_reducible intro x hx) | omega) <;> (try simp only [c1, ro_nil, ro_mov, ro_pick, ro_chk, ro_bin, ro_un, ro_faddr, ro_ext, ro_load, LoadK_ptr, LoadO_some, LoadR_some, ro_store, StoreK_ptr, StoreO_some, StoreR_some, rx_nil, rx_cons, keepK_nil, ro_guard, GuardK_tt, CondK_t, CondK_f, contP_some, lk_hit, lk_miss, Nat.reduceBEq, put_some, put_none, ev_t, ev_c, reduceIte, Nat.reduceEqDiff, Nat.reduceAdd, Nat.reduceSub, Nat.reduceLT, Nat.reduceLeDiff, reduceCtorEq, binD, binInt, binStr, okD, unD, pickD, chkD, faddrD, extD, loadD, splice, D.cells, D.ok, D.one, D.pt, D.pt1, D.pt0, D.norm1, cond_true, true_and, and_self, Bool.and_true, Bool.and_false, Bool.not_true, Bool.not_false, Bool.or_true, List.getElem?_cons_zero, List.getElem?_cons_succ, List.length_cons, List.length_nil, List.take_succ_cons, List.take_zero, List.drop_succ_cons, List.drop_zero, List.drop_nil, List.cons_append, List.nil_append, List.append_nil, List.map_cons, List.map_nil, List.all_cons, List.all_nil, List.set_cons_zero, List.set_cons_succ, Nat.zero_add, Nat.add_zero, Int.reduceNeg, decide_true, Nat.le_refl, Nat.lt_add_one, view, view2, view1, view0, mapO, capsD_fn, D.sc, D.sc1, D.sc2, pull, pull2, pull1, pull0, idx_hit, idx_miss, sucO_some, pullσ, pullOb, Go.Vi.freeze, capt, reachL, reachO, isin, List.flatten_cons, List.flatten_nil, merge, mset, renOb, fr, D.ren, D.renL, List.getD_cons_zero, List.getD_cons_succ, resK_nil, resK_tmp, ofRes]))
          refine GcTo_own [0, 1, 2, 3] (by rfl) (by simp) (by simp [keptW, ObKW, ObW, imp_self, D.pt1, D.pt0, pull, pull2, pull1, pull0, idx_hit, idx_miss, sucO_some, pullOb, or_false, mapO])
        · have c1 : (a < now'.2) = False := by simpa using hlt
          rw [if_neg hlt] at hk1
          repeat' ((first | refine Run_seq ?_ | refine Run_skip ?_ | refine Run_block ?_ | refine Run_blk ?_ | refine Run_exit rfl ?_ | refine Run_ret ?_ | refine Run_nil ?_ | refine Run_condK ?_ | refine Run_ops mixed ?_ | refine Run_opsX mixed ?_ | with_reducible refine PostV_open ?_ | with_reducible refine PostG_open ?_ | with_reducible refine PostQ_open ?_ | with_reducible refine ro_callA (f := .c (.fn 21 [])) ?_ | with_reducible refine ro_callA' (f := .c (.fn 21 [])) ?_ | with_reducible refine ro_callV ?_ | with_reducible refine ro_callVX ?_ | with_reducible refine CallE_use (hr) (by simp) ?_ | refine CallV_pure (hup) ?_ ?_ | simp (disch := omega) only [w64, wu64, wu32, wu16, wu8, Int.tdiv_eq_ediv_of_nonneg, Int.tmod_eq_emod_of_nonneg] | (with_reducible refine SliceK_own rfl rfl ?_ ?_; (focus ((try simp only [rowsS_len, reduceIte, Int.natCast_nonneg, Int.le_refl, List.length_append, List.length_map, Nat.sub_zero]) <;> ((repeat' (with_reducible refine And.intro ?_ ?_)) <;> first | exact trivial | assumption | (simp; done) | (simp only [List.length_map] at *; omega) | omega | (simp [D.cells, D.ok, D.one, D.pt, D.pt1]; done))))) | (refine GuardK_split (fun hc => ?_) (fun hc => ?_) <;> (try simp only [hc]) <;> (try simp at hc)) | (refine CondK_split (fun hc => ?_) (fun hc => ?_) <;> (try simp only [hc]) <;> (try simp at hc)) | (with_reducible refine And.intro ?_ ?_; (focus ((repeat' (with_reducible refine And.intro ?_ ?_)) <;> first | exact trivial | assumption | (simp; done) | (simp only [List.length_map] at *; omega) | omega | (simp [D.cells, D.ok, D.one, D.pt, D.pt1]; done)))) | (with_reducible intro x hx) | omega) <;> (try simp only [c1, ro_nil, ro_mov, ro_pick, ro_chk, ro_bin, ro_un, ro_faddr, ro_ext, ro_load, LoadK_ptr, LoadO_some, LoadR_some, ro_store, StoreK_ptr, StoreO_some, StoreR_some, rx_nil, rx_cons, keepK_nil, ro_guard, GuardK_tt, CondK_t, CondK_f, contP_some, lk_hit, lk_miss, Nat.reduceBEq, put_some, put_none, ev_t, ev_c, reduceIte, Nat.reduceEqDiff, Nat.reduceAdd, Nat.reduceSub, Nat.reduceLT, Nat.reduceLeDiff, reduceCtorEq, binD, binInt, okD, unD, pickD, chkD, faddrD, extD, loadD, splice, D.cells, D.ok, D.one, D.pt, D.pt1, D.pt0, D.norm1, cond_true, true_and, and_self, Bool.and_true, Bool.and_false, Bool.not_true, Bool.not_false, Bool.or_true, List.getElem?_cons_zero, List.getElem?_cons_succ, List.length_cons, List.length_nil, List.take_succ_cons, List.take_zero, List.drop_succ_cons, List.drop_zero, List.drop_nil, List.cons_append, List.nil_append, List.append_nil, List.map_cons, List.map_nil, List.all_cons, List.all_nil, List.set_cons_zero, List.set_cons_succ, Nat.zero_add, Nat.add_zero, Int.reduceNeg, decide_false, Nat.le_refl, Nat.lt_add_one, view, view2, view1, view0, mapO, capsD_fn, D.sc, D.sc1, D.sc2, pull, pull2, pull1, pull0, idx_hit, idx_miss, sucO_some, pullσ, pullOb, Go.Vi.freeze, capt, reachL, reachO, isin, List.flatten_cons, List.flatten_nil, merge, mset, renOb, fr, D.ren, D.renL, List.getD_cons_zero, List.getD_cons_succ]))
          refine hk ⟨(f, ⟨u, now', false⟩), hk1, hneed, ⟨hpok, by unfold Fit; omega⟩⟩ _ _ (by dsimp only; omega) ?_
          dsimp only
          refine Ent_gc [0, 1, 2, 3] (by rfl) (by simp) (by simp [keptW, ObKW, ObW, imp_self, D.pt1, D.pt0, pull1, pull0, idx_hit, idx_miss, sucO_some, pullOb, or_false, mapO]) (by simp [lk_hit, lk_miss, D.pt0, viewS_own', pull, pull2, pull1, pull0, idx_hit, gate, List.mem_cons, or_false, view0])
      · rw [if_neg ha] at hup
        rw [if_neg (by omega)] at hk1
        repeat' ((first | refine Run_seq ?_ | refine Run_skip ?_ | refine Run_block ?_ | refine Run_blk ?_ | refine Run_exit rfl ?_ | refine Run_ret ?_ | refine Run_nil ?_ | refine Run_condK ?_ | refine Run_ops mixed ?_ | refine Run_opsX mixed ?_ | with_reducible refine PostV_open ?_ | with_reducible refine PostG_open ?_ | with_reducible refine PostQ_open ?_ | with_reducible refine ro_callA (f := .c (.fn 21 [])) ?_ | with_reducible refine ro_callA' (f := .c (.fn 21 [])) ?_ | with_reducible refine ro_callV ?_ | with_reducible refine ro_callVX ?_ | with_reducible refine CallE_use (hr) (by simp) ?_ | refine CallV_pure (hup) ?_ ?_ | simp (disch := omega) only [w64, wu64, wu32, wu16, wu8, Int.tdiv_eq_ediv_of_nonneg, Int.tmod_eq_emod_of_nonneg] | (with_reducible refine SliceK_own rfl rfl ?_ ?_; (focus ((try simp only [rowsS_len, reduceIte, Int.natCast_nonneg, Int.le_refl, List.length_append, List.length_map, Nat.sub_zero]) <;> ((repeat' (with_reducible refine And.intro ?_ ?_)) <;> first | exact trivial | assumption | (simp; done) | (simp only [List.length_map] at *; omega) | omega | (simp [D.cells, D.ok, D.one, D.pt, D.pt1]; done))))) | (refine GuardK_split (fun hc => ?_) (fun hc => ?_) <;> (try simp only [hc]) <;> (try simp at hc)) | (refine CondK_split (fun hc => ?_) (fun hc => ?_) <;> (try simp only [hc]) <;> (try simp at hc)) | (with_reducible refine And.intro ?_ ?_; (focus ((repeat' (with_reducible refine And.intro ?_ ?_)) <;> first | exact trivial | assumption | (simp; done) | (simp only [List.length_map] at *; omega) | omega | (simp [D.cells, D.ok, D.one, D.pt, D.pt1]; done)))) | (with_reducible intro x hx) | omega) <;> (try simp only [ro_nil, ro_mov, ro_pick, ro_chk, ro_un, ro_faddr, ro_ext, ro_load, LoadK_ptr, LoadO_some, LoadR_some, ro_store, StoreK_ptr, StoreO_some, StoreR_some, rx_nil, rx_cons, keepK_nil, ro_guard, GuardK_ft, CondK_t, CondK_f, contP_some, lk_hit, lk_miss, Nat.reduceBEq, put_some, put_none, ev_t, ev_c, reduceIte, Nat.reduceEqDiff, Nat.reduceAdd, Nat.reduceSub, Nat.reduceLT, Nat.reduceLeDiff, reduceCtorEq, okD, unD, pickD, chkD, faddrD, extD, loadD, splice, D.cells, D.ok, D.one, D.pt, D.pt1, D.pt0, D.norm1, cond_false, true_and, and_self, Bool.and_true, Bool.and_false, Bool.not_true, Bool.not_false, Bool.or_true, List.getElem?_cons_zero, List.getElem?_cons_succ, List.length_cons, List.length_nil, List.take_succ_cons, List.take_zero, List.drop_succ_cons, List.drop_zero, List.drop_nil, List.cons_append, List.nil_append, List.append_nil, List.map_cons, List.map_nil, List.all_cons, List.all_nil, List.set_cons_zero, List.set_cons_succ, Nat.zero_add, Nat.add_zero, Int.reduceNeg, Nat.le_refl, Nat.lt_add_one, view, view2, view1, view0, mapO, capsD_fn, D.sc, D.sc1, D.sc2, pull, pull2, pull1, pull0, idx_hit, idx_miss, sucO_some, pullσ, pullOb, Go.Vi.freeze, capt, reachL, reachO, isin, List.flatten_cons, List.flatten_nil, merge, mset, renOb, fr, D.ren, D.renL, List.getD_cons_zero, List.getD_cons_succ]))
        refine hk ⟨(f, ⟨u, now', false⟩), hk1, hneed, ⟨hpok, by unfold Fit; omega⟩⟩ _ _ (by dsimp only; omega) ?_
        dsimp only
        refine Ent_gc [0, 1, 2, 3] (by rfl) (by simp) (by simp [keptW, ObKW, ObW, imp_self, D.pt1, D.pt0, pull1, pull0, idx_hit, idx_miss, sucO_some, pullOb, or_false, mapO]) (by simp [lk_hit, lk_miss, D.pt0, viewS_own', pull, pull2, pull1, pull0, idx_hit, gate, List.mem_cons, or_false, view0])
  · rw [if_neg (by simp)] at hk1
    simp only [if_true] at hk1
    have hneed : (⟨t, now, false⟩ : Pk).need n ≤ f := by
      unfold Pk.need at hk2 ⊢
      simp only [if_true, Bool.false_eq_true, if_false] at hk2 ⊢
      omega
    have hpok := hto
    have hnow := hno
    obtain ⟨u, hu⟩ : ∃ u, u = t := ⟨_, rfl⟩
    obtain ⟨now', hw⟩ : ∃ now', now' = now := ⟨_, rfl⟩
    rw [← hu] at hk1 hneed hpok ⊢
    rw [← hw] at hk1 hneed hnow ⊢
    have hup := up_p now'.1 g hnow.1 (by unfold Fit; omega)
    rw [eg] at hup
    unfold upA at hup
    have hge := upG_ge (a := now'.1) hg0
    unfold Fit at hnow
    generalize upG g now'.1 = a at hup hge hk1
    by_cases ha : a ≤ 9223372036854775807
    · rw [if_pos ha] at hup
      by_cases hlt : a < now'.2
      · have c1 : (a < now'.2) = True := by simpa using hlt
        rw [if_pos hlt] at hk1
        rw [← hk1]
        simp only [ansP]
        repeat' ((first | refine Run_seq ?_ | refine Run_skip ?_ | refine Run_block ?_ | refine Run_blk ?_ | refine Run_exit rfl ?_ | refine Run_ret ?_ | refine Run_nil ?_ | refine Run_condK ?_ | refine Run_ops mixed ?_ | refine Run_opsX mixed ?_ | with_reducible refine PostV_open ?_ | with_reducible refine PostG_open ?_ | with_reducible refine PostQ_open ?_ | with_reducible refine ro_callV ?_ | with_reducible refine ro_callVX ?_ | refine CallV_pure (hup) ?_ ?_ | simp (disch := omega) only [w64] | (with_reducible refine SliceK_own rfl rfl ?_ ?_; (focus ((try simp only [rowsS_len, reduceIte, Int.natCast_nonneg, Int.le_refl, List.length_append, List.length_map, Nat.sub_zero]) <;> ((repeat' (with_reducible refine And.intro ?_ ?_)) <;> first | exact trivial | assumption | (simp; done) | (simp only [List.length_map] at *; omega) | omega | (simp [D.cells, D.ok, D.one, D.pt, D.pt1]; done))))) | (refine GuardK_split (fun hc => ?_) (fun hc => ?_) <;> (try simp only [hc]) <;> (try simp at hc)) | (refine CondK_split (fun hc => ?_) (fun hc => ?_) <;> (try simp only [hc]) <;> (try simp at hc)) | (with_reducible refine And.intro ?_ ?_; (focus ((repeat' (with_reducible refine And.intro ?_ ?_)) <;> first | exact trivial | assumption | (simp; done) | (simp only [List.length_map] at *; omega) | omega | (simp [D.cells, D.ok, D.one, D.pt, D.pt1]; done)))) | (with_reducible intro x hx) | omega) <;> (try simp only [c1, ro_nil, ro_mov, ro_pick, ro_chk, ro_bin, ro_un, ro_faddr, ro_ext, ro_load, LoadK_ptr, LoadO_some, LoadR_some, ro_store, StoreK_ptr, StoreO_some, StoreR_some, rx_nil, rx_cons, keepK_nil, ro_guard, GuardK_tt, CondK_t, CondK_f, contP_some, lk_hit, lk_miss, Nat.reduceBEq, put_some, put_none, ev_t, ev_c, reduceIte, Nat.reduceAdd, Nat.reduceLeDiff, binD, binInt, binStr, okD, unD, pickD, chkD, faddrD, extD, loadD, splice, D.cells, D.ok, D.one, D.pt, D.pt1, D.pt0, D.norm1, cond_true, true_and, and_self, Bool.and_true, Bool.not_true, Bool.or_true, List.getElem?_cons_zero, List.getElem?_cons_succ, List.length_cons, List.length_nil, List.take_succ_cons, List.take_zero, List.drop_succ_cons, List.drop_zero, List.drop_nil, List.cons_append, List.nil_append, List.append_nil, List.map_cons, List.map_nil, List.all_cons, List.all_nil, List.set_cons_zero, Nat.zero_add, Nat.add_zero, decide_true, Nat.le_refl, Nat.lt_add_one, view, view2, view1, view0, mapO, capsD_fn, D.sc, D.sc1, D.sc2, resK_nil, resK_tmp, ofRes]))
        refine GcTo_own [0, 1, 2, 3] (by rfl) (by simp) (by simp [keptW, ObKW, ObW, imp_self, D.pt1, D.pt0, pull, pull2, pull1, pull0, idx_hit, idx_miss, sucO_some, pullOb, or_false, mapO])
      · have c1 : (a < now'.2) = False := by simpa using hlt
        rw [if_neg hlt] at hk1
        repeat' ((first | refine Run_seq ?_ | refine Run_skip ?_ | refine Run_block ?_ | refine Run_blk ?_ | refine Run_exit rfl ?_ | refine Run_ret ?_ | refine Run_nil ?_ | refine Run_condK ?_ | refine Run_ops mixed ?_ | refine Run_opsX mixed ?_ | with_reducible refine PostV_open ?_ | with_reducible refine PostG_open ?_ | with_reducible refine PostQ_open ?_ | with_reducible refine ro_callV ?_ | with_reducible refine ro_callVX ?_ | refine CallV_pure (hup) ?_ ?_ | simp (disch := omega) only [w64, wu64, wu32, wu16, wu8, Int.tdiv_eq_ediv_of_nonneg, Int.tmod_eq_emod_of_nonneg] | (with_reducible refine SliceK_own rfl rfl ?_ ?_; (focus ((try simp only [rowsS_len, reduceIte, Int.natCast_nonneg, Int.le_refl, List.length_append, List.length_map, Nat.sub_zero]) <;> ((repeat' (with_reducible refine And.intro ?_ ?_)) <;> first | exact trivial | assumption | (simp; done) | (simp only [List.length_map] at *; omega) | omega | (simp [D.cells, D.ok, D.one, D.pt, D.pt1]; done))))) | (refine GuardK_split (fun hc => ?_) (fun hc => ?_) <;> (try simp only [hc]) <;> (try simp at hc)) | (refine CondK_split (fun hc => ?_) (fun hc => ?_) <;> (try simp only [hc]) <;> (try simp at hc)) | (with_reducible refine And.intro ?_ ?_; (focus ((repeat' (with_reducible refine And.intro ?_ ?_)) <;> first | exact trivial | assumption | (simp; done) | (simp only [List.length_map] at *; omega) | omega | (simp [D.cells, D.ok, D.one, D.pt, D.pt1]; done)))) | (with_reducible intro x hx) | omega) <;> (try simp only [c1, ro_nil, ro_mov, ro_pick, ro_chk, ro_bin, ro_un, ro_faddr, ro_ext, ro_load, LoadK_ptr, LoadO_some, LoadR_some, ro_store, StoreK_ptr, StoreO_some, StoreR_some, rx_nil, rx_cons, keepK_nil, ro_guard, GuardK_tt, CondK_f, contP_some, lk_hit, lk_miss, Nat.reduceBEq, put_some, put_none, ev_t, ev_c, reduceIte, Nat.reduceAdd, binD, binInt, okD, unD, pickD, chkD, faddrD, extD, loadD, splice, D.cells, D.ok, D.one, D.pt, D.pt1, D.pt0, D.norm1, cond_true, true_and, and_self, Bool.and_true, Bool.not_true, Bool.or_true, List.getElem?_cons_zero, List.getElem?_cons_succ, List.length_cons, List.length_nil, List.take_succ_cons, List.take_zero, List.drop_succ_cons, List.drop_nil, List.cons_append, List.nil_append, List.append_nil, List.map_cons, List.map_nil, List.all_cons, List.all_nil, List.set_cons_zero, Nat.zero_add, Nat.add_zero, decide_false, Nat.le_refl, Nat.lt_add_one, view, view2, view1, view0, mapO, capsD_fn, D.sc, D.sc1, D.sc2]))
        refine hk ⟨(f, ⟨u, now', false⟩), hk1, hneed, ⟨hpok, by unfold Fit; omega⟩⟩ _ _ (by dsimp only; omega) ?_
        dsimp only
        refine Ent_gc [0, 1, 2, 3] (by rfl) (by simp) (by simp [keptW, ObKW, ObW, imp_self, D.pt1, D.pt0, pull1, pull0, idx_hit, idx_miss, sucO_some, pullOb, or_false, mapO]) (by simp [lk_hit, lk_miss, D.pt0, viewS_own', pull, pull2, pull1, pull0, idx_hit, gate, List.mem_cons, or_false, view0])
    · rw [if_neg ha] at hup
      rw [if_neg (by omega)] at hk1
      repeat' ((first | refine Run_seq ?_ | refine Run_skip ?_ | refine Run_block ?_ | refine Run_blk ?_ | refine Run_exit rfl ?_ | refine Run_ret ?_ | refine Run_nil ?_ | refine Run_condK ?_ | refine Run_ops mixed ?_ | refine Run_opsX mixed ?_ | with_reducible refine PostV_open ?_ | with_reducible refine PostG_open ?_ | with_reducible refine PostQ_open ?_ | with_reducible refine ro_callV ?_ | with_reducible refine ro_callVX ?_ | refine CallV_pure (hup) ?_ ?_ | simp (disch := omega) only [w64, wu64, wu32, wu16, wu8, Int.tdiv_eq_ediv_of_nonneg, Int.tmod_eq_emod_of_nonneg] | (with_reducible refine SliceK_own rfl rfl ?_ ?_; (focus ((try simp only [rowsS_len, reduceIte, Int.natCast_nonneg, Int.le_refl, List.length_append, List.length_map, Nat.sub_zero]) <;> ((repeat' (with_reducible refine And.intro ?_ ?_)) <;> first | exact trivial | assumption | (simp; done) | (simp only [List.length_map] at *; omega) | omega | (simp [D.cells, D.ok, D.one, D.pt, D.pt1]; done))))) | (refine GuardK_split (fun hc => ?_) (fun hc => ?_) <;> (try simp only [hc]) <;> (try simp at hc)) | (refine CondK_split (fun hc => ?_) (fun hc => ?_) <;> (try simp only [hc]) <;> (try simp at hc)) | (with_reducible refine And.intro ?_ ?_; (focus ((repeat' (with_reducible refine And.intro ?_ ?_)) <;> first | exact trivial | assumption | (simp; done) | (simp only [List.length_map] at *; omega) | omega | (simp [D.cells, D.ok, D.one, D.pt, D.pt1]; done)))) | (with_reducible intro x hx) | omega) <;> (try simp only [ro_nil, ro_mov, ro_pick, ro_chk, ro_un, ro_faddr, ro_ext, ro_load, LoadK_ptr, LoadO_some, LoadR_some, ro_store, StoreK_ptr, StoreO_some, StoreR_some, rx_nil, rx_cons, keepK_nil, ro_guard, GuardK_ft, CondK_f, contP_some, lk_hit, lk_miss, Nat.reduceBEq, put_some, put_none, ev_t, ev_c, reduceIte, Nat.reduceAdd, okD, unD, pickD, chkD, faddrD, extD, loadD, splice, D.cells, D.ok, D.one, D.pt, D.pt1, D.pt0, D.norm1, cond_false, true_and, and_self, Bool.and_true, Bool.not_true, Bool.or_true, List.getElem?_cons_zero, List.getElem?_cons_succ, List.length_cons, List.length_nil, List.take_succ_cons, List.take_zero, List.drop_succ_cons, List.drop_nil, List.cons_append, List.nil_append, List.append_nil, List.map_cons, List.map_nil, List.all_cons, List.all_nil, List.set_cons_zero, Nat.zero_add, Nat.add_zero, Nat.le_refl, Nat.lt_add_one, view, view2, view1, view0, mapO, capsD_fn, D.sc, D.sc1, D.sc2]))
      refine hk ⟨(f, ⟨u, now', false⟩), hk1, hneed, ⟨hpok, by unfold Fit; omega⟩⟩ _ _ (by dsimp only; omega) ?_
      dsimp only
      refine Ent_gc [0, 1, 2, 3] (by rfl) (by simp) (by simp [keptW, ObKW, ObW, imp_self, D.pt1, D.pt0, pull1, pull0, idx_hit, idx_miss, sucO_some, pullOb, or_false, mapO]) (by simp [lk_hit, lk_miss, D.pt0, viewS_own', pull, pull2, pull1, pull0, idx_hit, gate, List.mem_cons, or_false, view0])
end Go.Proofs.Ytfpohilhapaiiaa

namespace Go.Proofs.Ytfpohilhapaiiaa
open Go Go.Vi


def rowI (l : List Int) : List (List D) := l.map fun x => [.int .i64 x]
theorem rowI_len {l : List Int} : (rowI l).length = l.length := List.length_map ..
theorem rowI_get {l : List Int} {i : Nat} {x : Int} (h : l[i]? = some x) : (rowI l)[i]? = some [.int .i64 x] := by simp [rowI, h]
abbrev LI (l : List Int) : D := .list none false (rowI l)
theorem snocI (l : List Int) (x : Int) : rowI l ++ [[D.int .i64 x]] = rowI (l ++ [x]) := by simp [rowI]
def pk0 (F : List Sp) : Pk := ⟨⟨false, (0, 0), -9223372036854775808, F, (0, 0)⟩, (0, 0), false⟩
theorem spOk_frm {l : List Sp} (hl : FitS l) : SpOk (frm l) := fun s hs => by
  have h1 := (frm_spec l).1.2 s hs
  have h2 := hl.frm s hs
  exact ⟨h1, h2.1, h2.2⟩
theorem pk0_ok {F : List Sp} (hF : SpOk F) (hl : F.length ≤ 400000000000) : PkOk (pk0 F) := by
  refine ⟨⟨hl, hF, ?_, ?_⟩, ?_⟩ <;> (unfold pk0 Fit; dsimp only; omega)
theorem pk0_outs {F : List Sp} (hF : SpOk F) {n : Int} (hn : 1 ≤ n) (g : Int) : (pk0 F).outs g n = gridL g (stS n F) := by
  unfold pk0 Pk.outs Ts.left
  dsimp only
  rw [if_neg (by simp), if_neg (by simp), List.nil_append, List.nil_append, clip_id]
  exact stS_ok hn fun s hs => (hF s hs).2.1.1
abbrev PkO (g n : Int) (p : Pk) : List Ob := [Po 1 g p.now p.some_, To 2 n p.t.head p.t.has p.t.skip, Bo 3, Ro p.t.rest p.t.hr false]
theorem heldI_ok (n : Int) : 1 ≤ heldI n ∧ heldI n ≤ 1099511627776 := by unfold heldI; omega
set_option maxHeartbeats 4000000 in
theorem startsE_p (l : List Sp) (n g : Int) (m : Nat) (hl : l.length ≤ 400000000000) (fl : FitS l) (hm : m ≤ 1000000) :
    PureD Try.prog 10 [LS l, .int .i64 n, .int .i64 g, .int .i64 m] (LI ((gridL (heldI g) (stS (heldI n) (frm l))).take m)) := by
  refine pureV Try.func10 low10 (by simp [c10]) ?_
  simp only [c10]
  have hr := row_p l hl
  have sf := spOk_frm fl
  have fln := frm_len l
  obtain ⟨hn1, hn2⟩ := heldI_ok n
  obtain ⟨hg1, hg2⟩ := heldI_ok g
  have hpk := pick_p (frm l) (0, 0) n g
  have p0o := pk0_ok sf (by omega)
  have p0W := pk0_outs sf hn1 (heldI g)
  generalize hF : frm l = F at hr hpk p0o p0W sf fln ⊢
  generalize heldI n = n' at hn1 hn2 hpk p0W ⊢
  generalize heldI g = g' at hg1 hg2 hpk p0W ⊢
  have hW : ∃ W, W = gridL g' (stS n' F) := ⟨_, rfl⟩
  obtain ⟨W, hW⟩ := hW
  rw [← hW] at p0W ⊢
  repeat' ((first | refine Run_seq ?_ | refine Run_skip ?_ | refine Run_block ?_ | refine Run_blk ?_ | refine Run_exit rfl ?_ | refine Run_ret ?_ | refine Run_nil ?_ | refine Run_condK ?_ | refine Run_ops mixed ?_ | refine Run_opsX mixed ?_ | with_reducible refine PostV_open ?_ | with_reducible refine PostG_open ?_ | with_reducible refine PostQ_open ?_ | with_reducible refine ro_callA (f := .c (.fn 12 [])) ?_ | with_reducible refine ro_callA' (f := .c (.fn 12 [])) ?_ | with_reducible refine ro_callA (f := .c (.fn 11 [])) ?_ | with_reducible refine ro_callA' (f := .c (.fn 11 [])) ?_ | with_reducible refine ro_callV ?_ | with_reducible refine ro_callVX ?_ | with_reducible refine CallE_use (hr) (by simp) ?_ | with_reducible refine CallE_use (hpk) (by simp) ?_ | simp (disch := omega) only [w64, wu64, wu32, wu16, wu8, Int.tdiv_eq_ediv_of_nonneg, Int.tmod_eq_emod_of_nonneg] | (with_reducible refine SliceK_own rfl rfl ?_ ?_; (focus ((try simp only [rowsS_len, rowI_len, reduceIte, Int.natCast_nonneg, Int.le_refl, List.length_append, List.length_map, Nat.sub_zero]) <;> ((repeat' (with_reducible refine And.intro ?_ ?_)) <;> first | exact trivial | assumption | (simp; done) | (simp only [List.length_map] at *; omega) | omega | (simp [D.cells, D.ok, D.one, D.pt, D.pt1]; done))))) | (refine GuardK_split (fun hc => ?_) (fun hc => ?_) <;> (try simp only [hc]) <;> (try simp at hc)) | (refine CondK_split (fun hc => ?_) (fun hc => ?_) <;> (try simp only [hc]) <;> (try simp at hc)) | (with_reducible refine And.intro ?_ ?_; (focus ((repeat' (with_reducible refine And.intro ?_ ?_)) <;> first | exact trivial | assumption | (simp; done) | (simp only [List.length_map] at *; omega) | omega | (simp [D.cells, D.ok, D.one, D.pt, D.pt1]; done)))) | (with_reducible intro x hx) | omega) <;> (try simp only [ro_nil, ro_mov, lk_hit, lk_miss, Nat.reduceBEq, put_some, ev_t, ev_c, argEnv, reduceIte, Nat.reduceAdd, Nat.reduceSub, Nat.reduceLT, reduceCtorEq, D.pt1, D.pt0, Bool.and_true, List.getElem?_cons_zero, List.length_cons, List.length_nil, List.drop_succ_cons, List.drop_zero, List.cons_append, List.nil_append, List.append_nil, List.map_cons, List.map_nil, List.all_cons, List.all_nil, List.set_cons_zero, Nat.zero_add, Nat.add_zero, Nat.sub_self, Int.reduceNeg, Nat.lt_irrefl, Nat.lt_add_one, mapO, capsD_fn, pull, pull2, pull1, pull0, idx_hit, pullσ, pullOb, Go.Vi.freeze, capt, reachL, reachO, isin, List.flatten_cons, List.flatten_nil, merge, mset, renOb, fr, D.ren, D.renL, List.getD_cons_zero, List.getD_cons_succ]))
  refine Run_ent (Ent_acc (t := 10) (b := true) 1 true (by decide) rfl) ?_
  refine Run_loop (ι := {q : Nat × Pk // q.1 ≤ m ∧ q.1 ≤ W.length ∧ q.2.outs g' n' = W.drop q.1 ∧ PkOk q.2 ∧ q.2.t.ok}) (fun q => ([(3, .int .i64 m), (9, .ptr 0 0 0 1), (10, .own 4 0 (W.take q.1.1).length (W.take q.1.1).length 1 none)], [Po 1 g' q.1.2.now q.1.2.some_, To 2 n' q.1.2.t.head q.1.2.t.has q.1.2.t.skip, Bo 3, Ro q.1.2.t.rest q.1.2.t.hr false, acc true 1 true (rowI (W.take q.1.1))])) (fun q => m - q.1.1) ⟨(0, pk0 F), by simp, by simp, by simpa using p0W, p0o, by simp [pk0, Ts.ok]⟩ ?_ ?_
  · simp only [List.take_zero, show rowI [] = [] from rfl, List.length_nil, pk0]
    refine Ent_gc [3, 2, 1, 0, 4] (by rfl) (by simp) (by simp [keptW, ObKW, ObW, imp_self, acc_real, acc_nl, acc_pure, acc_fz, acc_sz, acc_rows, acc_spare, D.pt1, D.pt0, pull1, pull0, idx_hit, idx_miss, sucO_some, pullOb, or_false, mapO]) (by simp [lk_hit, lk_miss, D.pt0, viewS_own', pull, pull2, pull1, pull0, idx_hit, idx_miss, sucO_some, gate, List.mem_cons, or_false, view0])
    skip
  rintro ⟨⟨i, p⟩, hi1, hi2, hi3, hi4, hi5⟩ hk
  dsimp only at hi1 hi2 hi3 hi4 hi5 hk ⊢
  have hln : (W.take i).length = i := by rw [List.length_take]; omega
  rw [hln]
  by_cases hlt : i < m
  · have c1 : ((i : Int) < (m : Int)) = True := by simp; omega
    have hnx := nextP_p g' n' p ⟨hg1, hg2⟩ ⟨hn1, hn2⟩ (p.need n') (Nat.le_refl _) hi4
    obtain ⟨s1, s2, s3, s4⟩ := nextP_spec (show 0 < g' by omega) n' (p.need n') p (Nat.le_refl _) hi5
    have nok := nextP_ok (g := g') (show 0 < g' by omega) ⟨hn1, hn2⟩ (p.need n') p hi4
    rw [hi3] at s1 s2
    rw [s1] at hnx
    generalize (nextP g' n' (p.need n') p).2 = p' at hnx s2 s3 s4 nok
    cases hh : W[i]? with
    | none =>
      have e0 : W.drop i = [] := List.drop_eq_nil_of_le (by
        rcases Nat.lt_or_ge i W.length with h | h
        · rw [List.getElem?_eq_getElem h] at hh; cases hh
        · exact h)
      have e1 : W.take m = W.take i := by
        have : W.length ≤ i := by simpa using List.drop_eq_nil_iff.1 e0
        rw [List.take_of_length_le (by omega), List.take_of_length_le this]
      rw [e0] at hnx
      simp only [List.head?_nil, ansP] at hnx
      rw [e1]
      generalize W.take i = V at hln ⊢
      repeat' ((first | refine Run_seq ?_ | refine Run_skip ?_ | refine Run_block ?_ | refine Run_blk ?_ | refine Run_exit rfl ?_ | refine Run_ret ?_ | refine Run_nil ?_ | refine Run_condK ?_ | refine Run_ops mixed ?_ | refine Run_opsX mixed ?_ | with_reducible refine PostV_open ?_ | with_reducible refine PostG_open ?_ | with_reducible refine PostQ_open ?_ | with_reducible refine ro_callA (f := .c (.fn 14 [])) ?_ | with_reducible refine ro_callA' (f := .c (.fn 14 [])) ?_ | with_reducible refine ro_callV ?_ | with_reducible refine ro_callVX ?_ | with_reducible refine CallE_use (hnx) (by simp) ?_ | simp (disch := omega) only [w64, wu64, wu32, wu16, wu8, Int.tdiv_eq_ediv_of_nonneg, Int.tmod_eq_emod_of_nonneg] | (with_reducible refine SliceK_own rfl rfl ?_ ?_; (focus ((try simp only [rowsS_len, rowI_len, reduceIte, Int.natCast_nonneg, Int.le_refl, List.length_append, List.length_map, Nat.sub_zero]) <;> ((repeat' (with_reducible refine And.intro ?_ ?_)) <;> first | exact trivial | assumption | (simp; done) | (simp only [List.length_map] at *; omega) | omega | (simp [D.cells, D.ok, D.one, D.pt, D.pt1]; done))))) | (refine GuardK_split (fun hc => ?_) (fun hc => ?_) <;> (try simp only [hc]) <;> (try simp at hc)) | (refine CondK_split (fun hc => ?_) (fun hc => ?_) <;> (try simp only [hc]) <;> (try simp at hc)) | (with_reducible refine And.intro ?_ ?_; (focus ((repeat' (with_reducible refine And.intro ?_ ?_)) <;> first | exact trivial | assumption | (simp; done) | (simp only [List.length_map] at *; omega) | omega | (simp [D.cells, D.ok, D.one, D.pt, D.pt1]; done)))) | (with_reducible intro x hx) | omega) <;> (try simp only [rowI_len, c1, hln, ro_nil, ro_mov, ro_bin, ro_un, ro_ext, ro_len, winD_all, viewS_own', viewO_some, acc_pure, acc_rows, CondK_t, contP_some, lk_hit, lk_miss, Nat.reduceBEq, put_some, ev_t, ev_c, reduceIte, Nat.reduceEqDiff, Nat.reduceAdd, Nat.reduceSub, Nat.reduceLT, reduceCtorEq, binD, binInt, okD, unD, extD, lenD, D.pt1, D.pt0, D.norm1, true_and, and_self, Bool.and_true, Bool.and_false, Bool.not_false, Bool.true_or, List.getElem?_cons_zero, List.getElem?_cons_succ, List.length_cons, List.length_nil, List.drop_succ_cons, List.drop_nil, List.cons_append, List.nil_append, List.append_nil, List.map_cons, List.map_nil, List.all_cons, List.all_nil, List.set_cons_zero, List.set_cons_succ, Nat.zero_add, Nat.add_zero, Int.reduceNeg, decide_true, Nat.lt_add_one, view, view2, view1, view0, mapO, capsD_fn, pull, pull2, pull1, pull0, idx_hit, idx_miss, sucO_some, pullσ, pullOb, Go.Vi.freeze, capt, reachL, reachO, isin, List.flatten_cons, List.flatten_nil, merge, mset, renOb, fr, D.ren, D.renL, List.getD_cons_zero, List.getD_cons_succ, resK_nil, resK_tmp, ofRes]))
    | some x =>
      have hil : i < W.length := (List.getElem?_eq_some_iff.1 hh).1
      have e0 : W.drop i = x :: W.drop (i + 1) := by
        rw [List.drop_eq_getElem_cons hil]
        rw [List.getElem?_eq_getElem hil] at hh; cases hh; rfl
      rw [e0] at hnx s2
      simp only [List.head?_cons, ansP] at hnx
      have e2 : W.take (i + 1) = W.take i ++ [x] := by rw [List.take_add_one, hh]; rfl
      have hu := snocI (W.take i) x
      rw [← e2] at hu
      repeat' ((first | refine Run_seq ?_ | refine Run_skip ?_ | refine Run_block ?_ | refine Run_blk ?_ | refine Run_exit rfl ?_ | refine Run_ret ?_ | refine Run_nil ?_ | refine Run_condK ?_ | refine Run_ops mixed ?_ | refine Run_opsX mixed ?_ | with_reducible refine PostV_open ?_ | with_reducible refine PostG_open ?_ | with_reducible refine PostQ_open ?_ | with_reducible refine ro_callA (f := .c (.fn 14 [])) ?_ | with_reducible refine ro_callA' (f := .c (.fn 14 [])) ?_ | with_reducible refine ro_callV ?_ | with_reducible refine ro_callVX ?_ | with_reducible refine CallE_use (hnx) (by simp) ?_ | simp (disch := omega) only [w64, wu64, wu32, wu16, wu8, Int.tdiv_eq_ediv_of_nonneg, Int.tmod_eq_emod_of_nonneg] | (with_reducible refine SliceK_own rfl rfl ?_ ?_; (focus ((try simp only [rowsS_len, rowI_len, reduceIte, Int.natCast_nonneg, Int.le_refl, List.length_append, List.length_map, Nat.sub_zero]) <;> ((repeat' (with_reducible refine And.intro ?_ ?_)) <;> first | exact trivial | assumption | (simp; done) | (simp only [List.length_map] at *; omega) | omega | (simp [D.cells, D.ok, D.one, D.pt, D.pt1]; done))))) | (refine GuardK_split (fun hc => ?_) (fun hc => ?_) <;> (try simp only [hc]) <;> (try simp at hc)) | (refine CondK_split (fun hc => ?_) (fun hc => ?_) <;> (try simp only [hc]) <;> (try simp at hc)) | (with_reducible refine And.intro ?_ ?_; (focus ((repeat' (with_reducible refine And.intro ?_ ?_)) <;> first | exact trivial | assumption | (simp; done) | (simp only [List.length_map] at *; omega) | omega | (simp [D.cells, D.ok, D.one, D.pt, D.pt1]; done)))) | (with_reducible intro x hx) | omega) <;> (try simp only [rowI_len, c1, hln, hu, ro_nil, ro_mov, ro_slit, SlitK_t, ro_bin, ro_un, ro_ext, ro_len, ro_app, newsD_list, AppN_some, AppS_own, AppO_acc, CondK_t, CondK_f, contP_some, lk_hit, lk_miss, Nat.reduceBEq, put_some, ev_t, ev_c, reduceIte, Nat.reduceEqDiff, Nat.reduceAdd, Nat.reduceSub, Nat.reduceLT, Nat.reduceLeDiff, reduceCtorEq, binD, binInt, okD, unD, extD, lenD, D.cells, D.ok, D.one, D.pt, D.pt1, D.pt0, D.norm1, true_and, and_true, and_self, Bool.and_true, Bool.and_false, Bool.not_true, List.getElem?_cons_zero, List.getElem?_cons_succ, List.length_cons, List.length_nil, List.drop_succ_cons, List.drop_nil, List.cons_append, List.nil_append, List.append_nil, List.map_cons, List.map_nil, List.all_cons, List.all_nil, List.set_cons_zero, List.set_cons_succ, List.not_mem_nil, Nat.zero_add, Nat.add_zero, Int.reduceNeg, decide_true, Nat.lt_add_one, mapO, capsD_fn, pull, pull2, pull1, pull0, idx_hit, idx_miss, sucO_some, pullσ, pullOb, Go.Vi.freeze, capt, reachL, reachO, isin, List.flatten_cons, List.flatten_nil, merge, mset, renOb, fr, D.ren, D.renL, List.getD_cons_zero, List.getD_cons_succ, List.mem_cons, or_false]))
      refine hk ⟨(i + 1, p'), by dsimp only; omega, hil, by simpa using s2, nok, s3⟩ _ _ (by dsimp only; omega) ?_
      have hln' : (W.take (i + 1)).length = i + 1 := by rw [List.length_take]; omega
      dsimp only
      rw [hln']
      refine Ent_gc [0, 1, 2, 3, 4] (by rfl) (by simp) (by simp [keptW, ObKW, ObW, imp_self, acc_real, acc_nl, acc_pure, acc_fz, acc_sz, acc_rows, acc_spare, D.pt1, D.pt0, pull1, pull0, idx_hit, idx_miss, sucO_some, pullOb, or_false, mapO]) (by simp [lk_hit, lk_miss, D.pt0, viewS_own', pull, pull2, pull1, pull0, idx_hit, idx_miss, sucO_some, gate, List.mem_cons, or_false, view0])
  · have c1 : ((i : Int) < (m : Int)) = False := by simp; omega
    obtain rfl : i = m := by omega
    generalize W.take i = V at hln ⊢
    repeat' ((first | refine Run_seq ?_ | refine Run_skip ?_ | refine Run_block ?_ | refine Run_blk ?_ | refine Run_exit rfl ?_ | refine Run_ret ?_ | refine Run_nil ?_ | refine Run_condK ?_ | refine Run_ops mixed ?_ | refine Run_opsX mixed ?_ | with_reducible refine PostV_open ?_ | with_reducible refine PostG_open ?_ | with_reducible refine PostQ_open ?_ | with_reducible refine ro_callV ?_ | with_reducible refine ro_callVX ?_ | simp (disch := omega) only [w64, wu64, wu32, wu16, wu8, Int.tdiv_eq_ediv_of_nonneg, Int.tmod_eq_emod_of_nonneg] | (with_reducible refine SliceK_own rfl rfl ?_ ?_; (focus ((try simp only [rowsS_len, rowI_len, reduceIte, Int.natCast_nonneg, Int.le_refl, List.length_append, List.length_map, Nat.sub_zero]) <;> ((repeat' (with_reducible refine And.intro ?_ ?_)) <;> first | exact trivial | assumption | (simp; done) | (simp only [List.length_map] at *; omega) | omega | (simp [D.cells, D.ok, D.one, D.pt, D.pt1]; done))))) | (refine GuardK_split (fun hc => ?_) (fun hc => ?_) <;> (try simp only [hc]) <;> (try simp at hc)) | (refine CondK_split (fun hc => ?_) (fun hc => ?_) <;> (try simp only [hc]) <;> (try simp at hc)) | (with_reducible refine And.intro ?_ ?_; (focus ((repeat' (with_reducible refine And.intro ?_ ?_)) <;> first | exact trivial | assumption | (simp; done) | (simp only [List.length_map] at *; omega) | omega | (simp [D.cells, D.ok, D.one, D.pt, D.pt1]; done)))) | (with_reducible intro x hx) | omega) <;> (try simp only [rowI_len, c1, hln, ro_nil, ro_mov, ro_bin, ro_len, winD_all, viewS_own', viewO_some, acc_pure, acc_rows, CondK_f, contP_some, lk_hit, lk_miss, Nat.reduceBEq, put_some, ev_t, reduceIte, binD, binInt, lenD, D.pt0, D.norm1, true_and, and_self, Bool.true_or, List.getElem?_cons_zero, List.getElem?_cons_succ, decide_false, view, view2, view1, view0, resK_nil, resK_tmp, ofRes]))
end Go.Proofs.Ytfpohilhapaiiaa

namespace Go.Proofs.Ytfpohilhapaiiaa
open Go Go.Vi


theorem refHas_p (l : List Sp) (m : Int) (hl : l.length ≤ 400000000000) : PureD Try.prog 22 [LS l, .int .i64 m] (.bool (hasS l m)) := by
  refine pureV Try.func22 low22 (by simp [c22]) ?_
  simp only [c22]
  repeat' ((first | refine Run_seq ?_ | refine Run_skip ?_ | refine Run_block ?_ | refine Run_blk ?_ | refine Run_exit rfl ?_ | refine Run_ret ?_ | refine Run_nil ?_ | refine Run_condK ?_ | refine Run_ops mixed ?_ | refine Run_opsX mixed ?_ | with_reducible refine PostV_open ?_ | with_reducible refine PostG_open ?_ | with_reducible refine PostQ_open ?_ | with_reducible refine ro_callV ?_ | with_reducible refine ro_callVX ?_ | simp (disch := omega) only [w64, wu64, wu32, wu16, wu8, Int.tdiv_eq_ediv_of_nonneg, Int.tmod_eq_emod_of_nonneg] | (with_reducible refine SliceK_own rfl rfl ?_ ?_; (focus ((try simp only [rowsS_len, rowI_len, reduceIte, Int.natCast_nonneg, Int.le_refl, List.length_append, List.length_map, Nat.sub_zero]) <;> ((repeat' (with_reducible refine And.intro ?_ ?_)) <;> first | exact trivial | assumption | (simp; done) | (simp only [List.length_map] at *; omega) | omega | (simp [D.cells, D.ok, D.one, D.pt, D.pt1]; done))))) | (refine GuardK_split (fun hc => ?_) (fun hc => ?_) <;> (try simp only [hc]) <;> (try simp at hc)) | (refine CondK_split (fun hc => ?_) (fun hc => ?_) <;> (try simp only [hc]) <;> (try simp at hc)) | (with_reducible refine And.intro ?_ ?_; (focus ((repeat' (with_reducible refine And.intro ?_ ?_)) <;> first | exact trivial | assumption | (simp; done) | (simp only [List.length_map] at *; omega) | omega | (simp [D.cells, D.ok, D.one, D.pt, D.pt1]; done)))) | (with_reducible intro x hx) | omega) <;> (try simp only [rowsS_len, ro_nil, ro_mov, ro_len, contP_some, lk_hit, lk_miss, Nat.reduceBEq, put_some, ev_t, ev_c, argEnv, lenD, true_and, Nat.zero_add]))
  refine Run_loop (ι := {i : Nat // i ≤ l.length ∧ hasS l m = hasS (l.drop i) m}) (fun i => ([(0, LS l), (1, .int .i64 m), (7, .int .i64 l.length), (8, .int .i64 i.1)], [])) (fun i => l.length - i.1) ⟨0, by simp⟩ ?_ ?_
  · refine Ent_gc [] (by rfl) (by simp) (by simp [keptW]) (by simp [lk_hit, lk_miss, D.pt0, viewS_own', pull, pull2, pull1, pull0, idx_nil, gate, List.mem_cons, or_false, view0])
  rintro ⟨i, hi, hx⟩ hk
  dsimp only at hk ⊢
  by_cases hlt : i < l.length
  · have c1 : ((i : Int) < (l.length : Int)) = True := by simp; omega
    obtain ⟨p, hp⟩ : ∃ p, l[i]? = some p := ⟨_, List.getElem?_eq_getElem hlt⟩
    have hr := rowsS_get hp
    have hdr : l.drop i = p :: l.drop (i + 1) := by
      rw [List.getElem?_eq_getElem hlt] at hp; cases hp; exact List.drop_eq_getElem_cons hlt
    rw [hdr, hasS_cons] at hx
    by_cases h1 : p.1 ≤ m
    · have c2 : (p.1 ≤ m) = True := by simpa using h1
      by_cases h2 : m < p.2
      · have c3 : (m < p.2) = True := by simpa using h2
        have e : hasS l m = true := by rw [hx]; simp [inS, h1, h2]
        rw [e]
        repeat' ((first | refine Run_seq ?_ | refine Run_skip ?_ | refine Run_block ?_ | refine Run_blk ?_ | refine Run_exit rfl ?_ | refine Run_ret ?_ | refine Run_nil ?_ | refine Run_condK ?_ | refine Run_ops mixed ?_ | refine Run_opsX mixed ?_ | with_reducible refine PostV_open ?_ | with_reducible refine PostG_open ?_ | with_reducible refine PostQ_open ?_ | with_reducible refine ro_callV ?_ | with_reducible refine ro_callVX ?_ | simp (disch := omega) only [w64, wu64, wu32, wu16, wu8, Int.tdiv_eq_ediv_of_nonneg, Int.tmod_eq_emod_of_nonneg] | (with_reducible refine SliceK_own rfl rfl ?_ ?_; (focus ((try simp only [rowsS_len, rowI_len, reduceIte, Int.natCast_nonneg, Int.le_refl, List.length_append, List.length_map, Nat.sub_zero]) <;> ((repeat' (with_reducible refine And.intro ?_ ?_)) <;> first | exact trivial | assumption | (simp; done) | (simp only [List.length_map] at *; omega) | omega | (simp [D.cells, D.ok, D.one, D.pt, D.pt1]; done))))) | (refine GuardK_split (fun hc => ?_) (fun hc => ?_) <;> (try simp only [hc]) <;> (try simp at hc)) | (refine CondK_split (fun hc => ?_) (fun hc => ?_) <;> (try simp only [hc]) <;> (try simp at hc)) | (with_reducible refine And.intro ?_ ?_; (focus ((repeat' (with_reducible refine And.intro ?_ ?_)) <;> first | exact trivial | assumption | (simp; done) | (simp only [List.length_map] at *; omega) | omega | (simp [D.cells, D.ok, D.one, D.pt, D.pt1]; done)))) | (with_reducible intro x hx) | omega) <;> (try simp only [rowsS_len, c1, hr, c2, c3, IaddrR_some, ro_nil, ro_mov, ro_pick, ro_bin, ro_faddr, ro_load, LoadK_elt, ro_iaddr, IaddrK_list, IaddrR_some, viewS_own', ro_guard, GuardK_tt, CondK_t, contP_some, lk_hit, lk_miss, Nat.reduceBEq, put_some, ev_t, ev_c, reduceIte, Nat.reduceAdd, binD, binInt, pickD, faddrD, loadD, D.pt0, D.norm1, cond_true, true_and, and_self, List.getElem?_cons_zero, List.getElem?_cons_succ, List.getElem?_nil, List.length_cons, List.length_nil, Nat.zero_add, Nat.add_zero, Int.toNat_natCast, decide_true, Int.natCast_nonneg, view, view2, view1, view0, resK_nil, resK_tmp, ofRes]))
      · have c3 : (m < p.2) = False := by simpa using h2
        have e : hasS l m = hasS (l.drop (i + 1)) m := by rw [hx]; simp [inS, h2]
        repeat' ((first | refine Run_seq ?_ | refine Run_skip ?_ | refine Run_block ?_ | refine Run_blk ?_ | refine Run_exit rfl ?_ | refine Run_ret ?_ | refine Run_nil ?_ | refine Run_condK ?_ | refine Run_ops mixed ?_ | refine Run_opsX mixed ?_ | with_reducible refine PostV_open ?_ | with_reducible refine PostG_open ?_ | with_reducible refine PostQ_open ?_ | with_reducible refine ro_callV ?_ | with_reducible refine ro_callVX ?_ | simp (disch := omega) only [w64] | (with_reducible refine SliceK_own rfl rfl ?_ ?_; (focus ((try simp only [rowsS_len, rowI_len, reduceIte, Int.natCast_nonneg, Int.le_refl, List.length_append, List.length_map, Nat.sub_zero]) <;> ((repeat' (with_reducible refine And.intro ?_ ?_)) <;> first | exact trivial | assumption | (simp; done) | (simp only [List.length_map] at *; omega) | omega | (simp [D.cells, D.ok, D.one, D.pt, D.pt1]; done))))) | (refine GuardK_split (fun hc => ?_) (fun hc => ?_) <;> (try simp only [hc]) <;> (try simp at hc)) | (refine CondK_split (fun hc => ?_) (fun hc => ?_) <;> (try simp only [hc]) <;> (try simp at hc)) | (with_reducible refine And.intro ?_ ?_; (focus ((repeat' (with_reducible refine And.intro ?_ ?_)) <;> first | exact trivial | assumption | (simp; done) | (simp only [List.length_map] at *; omega) | omega | (simp [D.cells, D.ok, D.one, D.pt, D.pt1]; done)))) | (with_reducible intro x hx) | omega) <;> (try simp only [rowsS_len, c1, hr, c2, c3, IaddrR_some, ro_nil, ro_mov, ro_pick, ro_bin, ro_faddr, ro_load, LoadK_elt, ro_iaddr, IaddrK_list, IaddrR_some, ro_guard, GuardK_tt, CondK_t, CondK_f, contP_some, lk_hit, lk_miss, Nat.reduceBEq, put_some, ev_t, ev_c, reduceIte, Nat.reduceAdd, binD, binInt, pickD, faddrD, loadD, cond_true, true_and, and_self, List.getElem?_cons_zero, List.getElem?_cons_succ, List.length_cons, List.length_nil, Nat.zero_add, Nat.add_zero, Int.toNat_natCast, decide_true, decide_false, Int.natCast_nonneg]))
        refine hk ⟨i + 1, by omega, e⟩ _ _ (by dsimp only; omega) ?_
        dsimp only
        refine Ent_gc [] (by rfl) (by simp) (by simp [keptW]) (by simp [lk_hit, lk_miss, D.pt0, viewS_own', pull, pull2, pull1, pull0, idx_nil, gate, List.mem_cons, or_false, view0])
    · have c2 : (p.1 ≤ m) = False := by simpa using h1
      have e : hasS l m = hasS (l.drop (i + 1)) m := by rw [hx]; simp [inS, h1]
      repeat' ((first | refine Run_seq ?_ | refine Run_skip ?_ | refine Run_block ?_ | refine Run_blk ?_ | refine Run_exit rfl ?_ | refine Run_ret ?_ | refine Run_nil ?_ | refine Run_condK ?_ | refine Run_ops mixed ?_ | refine Run_opsX mixed ?_ | with_reducible refine PostV_open ?_ | with_reducible refine PostG_open ?_ | with_reducible refine PostQ_open ?_ | with_reducible refine ro_callV ?_ | with_reducible refine ro_callVX ?_ | simp (disch := omega) only [w64] | (with_reducible refine SliceK_own rfl rfl ?_ ?_; (focus ((try simp only [rowsS_len, rowI_len, reduceIte, Int.natCast_nonneg, Int.le_refl, List.length_append, List.length_map, Nat.sub_zero]) <;> ((repeat' (with_reducible refine And.intro ?_ ?_)) <;> first | exact trivial | assumption | (simp; done) | (simp only [List.length_map] at *; omega) | omega | (simp [D.cells, D.ok, D.one, D.pt, D.pt1]; done))))) | (refine GuardK_split (fun hc => ?_) (fun hc => ?_) <;> (try simp only [hc]) <;> (try simp at hc)) | (refine CondK_split (fun hc => ?_) (fun hc => ?_) <;> (try simp only [hc]) <;> (try simp at hc)) | (with_reducible refine And.intro ?_ ?_; (focus ((repeat' (with_reducible refine And.intro ?_ ?_)) <;> first | exact trivial | assumption | (simp; done) | (simp only [List.length_map] at *; omega) | omega | (simp [D.cells, D.ok, D.one, D.pt, D.pt1]; done)))) | (with_reducible intro x hx) | omega) <;> (try simp only [rowsS_len, c1, hr, c2, IaddrR_some, ro_nil, ro_mov, ro_pick, ro_bin, ro_faddr, ro_load, LoadK_elt, ro_iaddr, IaddrK_list, IaddrR_some, ro_guard, GuardK_ft, CondK_t, CondK_f, contP_some, lk_hit, lk_miss, Nat.reduceBEq, put_some, ev_t, ev_c, reduceIte, Nat.reduceAdd, binD, binInt, pickD, faddrD, loadD, cond_false, true_and, and_self, List.getElem?_cons_zero, List.length_cons, List.length_nil, Nat.zero_add, Nat.add_zero, Int.toNat_natCast, decide_true, decide_false, Int.natCast_nonneg]))
      refine hk ⟨i + 1, by omega, e⟩ _ _ (by dsimp only; omega) ?_
      dsimp only
      refine Ent_gc [] (by rfl) (by simp) (by simp [keptW]) (by simp [lk_hit, lk_miss, D.pt0, viewS_own', pull, pull2, pull1, pull0, idx_nil, gate, List.mem_cons, or_false, view0])
  · have c1 : ((i : Int) < (l.length : Int)) = False := by simp; omega
    have e : hasS l m = false := by rw [hx, List.drop_eq_nil_of_le (by omega)]; rfl
    rw [e]
    repeat' ((first | refine Run_seq ?_ | refine Run_skip ?_ | refine Run_block ?_ | refine Run_blk ?_ | refine Run_exit rfl ?_ | refine Run_ret ?_ | refine Run_nil ?_ | refine Run_condK ?_ | refine Run_ops mixed ?_ | refine Run_opsX mixed ?_ | with_reducible refine PostV_open ?_ | with_reducible refine PostG_open ?_ | with_reducible refine PostQ_open ?_ | with_reducible refine ro_callV ?_ | with_reducible refine ro_callVX ?_ | simp (disch := omega) only [w64, wu64, wu32, wu16, wu8, Int.tdiv_eq_ediv_of_nonneg, Int.tmod_eq_emod_of_nonneg] | (with_reducible refine SliceK_own rfl rfl ?_ ?_; (focus ((try simp only [rowsS_len, rowI_len, reduceIte, Int.natCast_nonneg, Int.le_refl, List.length_append, List.length_map, Nat.sub_zero]) <;> ((repeat' (with_reducible refine And.intro ?_ ?_)) <;> first | exact trivial | assumption | (simp; done) | (simp only [List.length_map] at *; omega) | omega | (simp [D.cells, D.ok, D.one, D.pt, D.pt1]; done))))) | (refine GuardK_split (fun hc => ?_) (fun hc => ?_) <;> (try simp only [hc]) <;> (try simp at hc)) | (refine CondK_split (fun hc => ?_) (fun hc => ?_) <;> (try simp only [hc]) <;> (try simp at hc)) | (with_reducible refine And.intro ?_ ?_; (focus ((repeat' (with_reducible refine And.intro ?_ ?_)) <;> first | exact trivial | assumption | (simp; done) | (simp only [List.length_map] at *; omega) | omega | (simp [D.cells, D.ok, D.one, D.pt, D.pt1]; done)))) | (with_reducible intro x hx) | omega) <;> (try simp only [c1, ro_nil, ro_mov, ro_bin, viewS_own', CondK_f, contP_some, lk_hit, lk_miss, Nat.reduceBEq, put_some, ev_t, ev_c, reduceIte, binD, binInt, D.pt0, D.norm1, true_and, List.getElem?_nil, decide_false, view, view2, view1, view0, resK_nil, resK_tmp, ofRes]))
theorem refIn_p (l : List Sp) (at_ n : Int) (hl : l.length ≤ 400000000000) (h1 : -1099511627776 ≤ at_) (h2 : at_ ≤ 1099511627776) (hn : 0 ≤ n) (hn2 : n ≤ 1000000) :
    PureD Try.prog 15 [LS l, .int .i64 at_, .int .i64 n] (.bool (inB l at_ n)) := by
  refine pureV Try.func15 low15 (by simp [c15]) ?_
  simp only [c15]
  repeat' ((first | refine Run_seq ?_ | refine Run_skip ?_ | refine Run_block ?_ | refine Run_blk ?_ | refine Run_exit rfl ?_ | refine Run_ret ?_ | refine Run_nil ?_ | refine Run_condK ?_ | refine Run_ops mixed ?_ | refine Run_opsX mixed ?_ | with_reducible refine PostV_open ?_ | with_reducible refine PostG_open ?_ | with_reducible refine PostQ_open ?_ | with_reducible refine ro_callV ?_ | with_reducible refine ro_callVX ?_ | simp (disch := omega) only [w64, wu64, wu32, wu16, wu8, Int.tdiv_eq_ediv_of_nonneg, Int.tmod_eq_emod_of_nonneg] | (with_reducible refine SliceK_own rfl rfl ?_ ?_; (focus ((try simp only [rowsS_len, rowI_len, reduceIte, Int.natCast_nonneg, Int.le_refl, List.length_append, List.length_map, Nat.sub_zero]) <;> ((repeat' (with_reducible refine And.intro ?_ ?_)) <;> first | exact trivial | assumption | (simp; done) | (simp only [List.length_map] at *; omega) | omega | (simp [D.cells, D.ok, D.one, D.pt, D.pt1]; done))))) | (refine GuardK_split (fun hc => ?_) (fun hc => ?_) <;> (try simp only [hc]) <;> (try simp at hc)) | (refine CondK_split (fun hc => ?_) (fun hc => ?_) <;> (try simp only [hc]) <;> (try simp at hc)) | (with_reducible refine And.intro ?_ ?_; (focus ((repeat' (with_reducible refine And.intro ?_ ?_)) <;> first | exact trivial | assumption | (simp; done) | (simp only [List.length_map] at *; omega) | omega | (simp [D.cells, D.ok, D.one, D.pt, D.pt1]; done)))) | (with_reducible intro x hx) | omega) <;> (try simp only [ro_nil, ro_mov, lk_hit, lk_miss, Nat.reduceBEq, put_some, ev_t, ev_c, argEnv, Nat.reduceAdd, Nat.zero_add]))
  refine Run_loop (ι := {i : Nat // (i : Int) ≤ n ∧ ∀ k : Nat, k < i → hasS l (at_ + (k : Int)) = true}) (fun i => ([(0, LS l), (1, .int .i64 at_), (2, .int .i64 n), (7, .int .i64 (at_ + (i.1 : Int)))], [])) (fun i => n.toNat - i.1) ⟨0, by simp; omega, by simp⟩ ?_ ?_
  · simp only [Int.natCast_zero, Int.add_zero]
    refine Ent_gc [] (by rfl) (by simp) (by simp [keptW]) (by simp [lk_hit, lk_miss, D.pt0, viewS_own', pull, pull2, pull1, pull0, idx_nil, gate, List.mem_cons, or_false, view0])
  rintro ⟨i, hi, hx⟩ hk
  dsimp only at hk ⊢
  have hh := refHas_p l (at_ + (i : Int)) hl
  by_cases hlt : (i : Int) < n
  · have c1 : (at_ + (i : Int) < at_ + n) = True := by simp; omega
    cases hb : hasS l (at_ + (i : Int))
    · have e : inB l at_ n = false := by
        rw [Bool.eq_false_iff]
        intro h
        have := inB_iff.1 h (at_ + (i : Int)) (by omega) (by omega)
        rw [hb] at this; cases this
      rw [hb] at hh
      rw [e]
      repeat' ((first | refine Run_seq ?_ | refine Run_skip ?_ | refine Run_block ?_ | refine Run_blk ?_ | refine Run_exit rfl ?_ | refine Run_ret ?_ | refine Run_nil ?_ | refine Run_condK ?_ | refine Run_ops mixed ?_ | refine Run_opsX mixed ?_ | with_reducible refine PostV_open ?_ | with_reducible refine PostG_open ?_ | with_reducible refine PostQ_open ?_ | with_reducible refine ro_callV ?_ | with_reducible refine ro_callVX ?_ | refine CallV_pure (hh) ?_ ?_ | simp (disch := omega) only [w64] | (with_reducible refine SliceK_own rfl rfl ?_ ?_; (focus ((try simp only [rowsS_len, rowI_len, reduceIte, Int.natCast_nonneg, Int.le_refl, List.length_append, List.length_map, Nat.sub_zero]) <;> ((repeat' (with_reducible refine And.intro ?_ ?_)) <;> first | exact trivial | assumption | (simp; done) | (simp only [List.length_map] at *; omega) | omega | (simp [D.cells, D.ok, D.one, D.pt, D.pt1]; done))))) | (refine GuardK_split (fun hc => ?_) (fun hc => ?_) <;> (try simp only [hc]) <;> (try simp at hc)) | (refine CondK_split (fun hc => ?_) (fun hc => ?_) <;> (try simp only [hc]) <;> (try simp at hc)) | (with_reducible refine And.intro ?_ ?_; (focus ((repeat' (with_reducible refine And.intro ?_ ?_)) <;> first | exact trivial | assumption | (simp; done) | (simp only [List.length_map] at *; omega) | omega | (simp [D.cells, D.ok, D.one, D.pt, D.pt1]; done)))) | (with_reducible intro x hx) | omega) <;> (try simp only [c1, ro_nil, ro_mov, ro_bin, ro_un, viewS_own', CondK_t, contP_some, lk_hit, lk_miss, Nat.reduceBEq, put_some, ev_t, ev_c, reduceIte, binD, binInt, okD, unD, D.pt, D.pt1, D.pt0, D.norm1, true_and, Bool.and_true, Bool.not_false, Bool.or_true, List.getElem?_nil, List.append_nil, List.map_cons, List.map_nil, List.all_cons, List.all_nil, decide_true, view, view2, view1, view0, mapO, capsD_fn, D.sc, D.sc1, D.sc2, resK_nil, resK_tmp, ofRes]))
    · rw [hb] at hh
      have ee : at_ + (i : Int) + 1 = at_ + ((i + 1 : Nat) : Int) := by omega
      repeat' ((first | refine Run_seq ?_ | refine Run_skip ?_ | refine Run_block ?_ | refine Run_blk ?_ | refine Run_exit rfl ?_ | refine Run_ret ?_ | refine Run_nil ?_ | refine Run_condK ?_ | refine Run_ops mixed ?_ | refine Run_opsX mixed ?_ | with_reducible refine PostV_open ?_ | with_reducible refine PostG_open ?_ | with_reducible refine PostQ_open ?_ | with_reducible refine ro_callV ?_ | with_reducible refine ro_callVX ?_ | refine CallV_pure (hh) ?_ ?_ | simp (disch := omega) only [w64] | (with_reducible refine SliceK_own rfl rfl ?_ ?_; (focus ((try simp only [rowsS_len, rowI_len, reduceIte, Int.natCast_nonneg, Int.le_refl, List.length_append, List.length_map, Nat.sub_zero]) <;> ((repeat' (with_reducible refine And.intro ?_ ?_)) <;> first | exact trivial | assumption | (simp; done) | (simp only [List.length_map] at *; omega) | omega | (simp [D.cells, D.ok, D.one, D.pt, D.pt1]; done))))) | (refine GuardK_split (fun hc => ?_) (fun hc => ?_) <;> (try simp only [hc]) <;> (try simp at hc)) | (refine CondK_split (fun hc => ?_) (fun hc => ?_) <;> (try simp only [hc]) <;> (try simp at hc)) | (with_reducible refine And.intro ?_ ?_; (focus ((repeat' (with_reducible refine And.intro ?_ ?_)) <;> first | exact trivial | assumption | (simp; done) | (simp only [List.length_map] at *; omega) | omega | (simp [D.cells, D.ok, D.one, D.pt, D.pt1]; done)))) | (with_reducible intro x hx) | omega) <;> (try simp only [c1, ro_nil, ro_mov, ro_bin, ro_un, CondK_t, CondK_f, contP_some, lk_hit, lk_miss, Nat.reduceBEq, put_some, ev_t, ev_c, reduceIte, binD, binInt, okD, unD, D.pt, D.pt1, D.pt0, D.norm1, true_and, Bool.and_true, Bool.not_true, Bool.or_true, List.append_nil, List.map_cons, List.map_nil, List.all_cons, List.all_nil, decide_true, view, view2, view1, view0, mapO, capsD_fn, D.sc, D.sc1, D.sc2]))
      refine hk ⟨i + 1, by omega, fun k hk' => ?_⟩ _ _ (by dsimp only; omega) ?_
      · by_cases hki : k = i
        · subst hki; exact hb
        · exact hx k (by omega)
      dsimp only
      rw [← ee]
      refine Ent_gc [] (by rfl) (by simp) (by simp [keptW]) (by simp [lk_hit, lk_miss, D.pt0, viewS_own', pull, pull2, pull1, pull0, idx_nil, gate, List.mem_cons, or_false, view0])
  · have c1 : (at_ + (i : Int) < at_ + n) = False := by simp; omega
    have e : inB l at_ n = true := by
      rw [inB_iff]
      intro x h1 h2
      have := hx (x - at_).toNat (by omega)
      rwa [show at_ + (((x - at_).toNat : Nat) : Int) = x by omega] at this
    rw [e]
    repeat' ((first | refine Run_seq ?_ | refine Run_skip ?_ | refine Run_block ?_ | refine Run_blk ?_ | refine Run_exit rfl ?_ | refine Run_ret ?_ | refine Run_nil ?_ | refine Run_condK ?_ | refine Run_ops mixed ?_ | refine Run_opsX mixed ?_ | with_reducible refine PostV_open ?_ | with_reducible refine PostG_open ?_ | with_reducible refine PostQ_open ?_ | with_reducible refine ro_callV ?_ | with_reducible refine ro_callVX ?_ | simp (disch := omega) only [w64] | (with_reducible refine SliceK_own rfl rfl ?_ ?_; (focus ((try simp only [rowsS_len, rowI_len, reduceIte, Int.natCast_nonneg, Int.le_refl, List.length_append, List.length_map, Nat.sub_zero]) <;> ((repeat' (with_reducible refine And.intro ?_ ?_)) <;> first | exact trivial | assumption | (simp; done) | (simp only [List.length_map] at *; omega) | omega | (simp [D.cells, D.ok, D.one, D.pt, D.pt1]; done))))) | (refine GuardK_split (fun hc => ?_) (fun hc => ?_) <;> (try simp only [hc]) <;> (try simp at hc)) | (refine CondK_split (fun hc => ?_) (fun hc => ?_) <;> (try simp only [hc]) <;> (try simp at hc)) | (with_reducible refine And.intro ?_ ?_; (focus ((repeat' (with_reducible refine And.intro ?_ ?_)) <;> first | exact trivial | assumption | (simp; done) | (simp only [List.length_map] at *; omega) | omega | (simp [D.cells, D.ok, D.one, D.pt, D.pt1]; done)))) | (with_reducible intro x hx) | omega) <;> (try simp only [c1, ro_nil, ro_mov, ro_bin, viewS_own', CondK_f, contP_some, lk_hit, lk_miss, Nat.reduceBEq, put_some, ev_t, ev_c, reduceIte, binD, binInt, D.pt0, D.norm1, true_and, List.getElem?_nil, decide_false, view, view2, view1, view0, resK_nil, resK_tmp, ofRes]))
set_option maxHeartbeats 2000000 in
theorem refStarts_p (l : List Sp) (n g : Int) (hl : l.length ≤ 400000000000) (hn : 0 ≤ n) (hn2 : n ≤ 1000000) (hg : 0 < g) (hg2 : g ≤ 1000000) :
    PureD Try.prog 9 [LS l, .int .i64 n, .int .i64 g] (LI (refSt l n g)) := by
  refine pureV Try.func9 low9 (by simp [c9]) ?_
  simp only [c9]
  obtain ⟨W, hW⟩ : ∃ W, W = refSt l n g := ⟨_, rfl⟩
  rw [← hW]
  unfold refSt at hW
  repeat' ((first | refine Run_seq ?_ | refine Run_skip ?_ | refine Run_block ?_ | refine Run_blk ?_ | refine Run_exit rfl ?_ | refine Run_ret ?_ | refine Run_nil ?_ | refine Run_condK ?_ | refine Run_ops mixed ?_ | refine Run_opsX mixed ?_ | with_reducible refine PostV_open ?_ | with_reducible refine PostG_open ?_ | with_reducible refine PostQ_open ?_ | with_reducible refine ro_callV ?_ | with_reducible refine ro_callVX ?_ | simp (disch := omega) only [w64, wu64, wu32, wu16, wu8, Int.tdiv_eq_ediv_of_nonneg, Int.tmod_eq_emod_of_nonneg] | (with_reducible refine SliceK_own rfl rfl ?_ ?_; (focus ((try simp only [rowsS_len, rowI_len, reduceIte, Int.natCast_nonneg, Int.le_refl, List.length_append, List.length_map, Nat.sub_zero]) <;> ((repeat' (with_reducible refine And.intro ?_ ?_)) <;> first | exact trivial | assumption | (simp; done) | (simp only [List.length_map] at *; omega) | omega | (simp [D.cells, D.ok, D.one, D.pt, D.pt1]; done))))) | (refine GuardK_split (fun hc => ?_) (fun hc => ?_) <;> (try simp only [hc]) <;> (try simp at hc)) | (refine CondK_split (fun hc => ?_) (fun hc => ?_) <;> (try simp only [hc]) <;> (try simp at hc)) | (with_reducible refine And.intro ?_ ?_; (focus ((repeat' (with_reducible refine And.intro ?_ ?_)) <;> first | exact trivial | assumption | (simp; done) | (simp only [List.length_map] at *; omega) | omega | (simp [D.cells, D.ok, D.one, D.pt, D.pt1]; done)))) | (with_reducible intro x hx) | omega) <;> (try simp only [ro_nil, ro_mov, ro_slit, SlitK_t, lk_hit, put_some, ev_t, ev_c, argEnv, Nat.reduceAdd, D.cells, D.ok, D.one, true_and, and_self, List.map_nil, List.all_nil, List.not_mem_nil, false_imp_iff, implies_true, Nat.zero_add, Nat.lt_add_one]))
  refine Run_ent (Ent_acc (t := 7) (b := false) 1 true (by decide) rfl) ?_
  refine Run_loop (ι := {q : Int × List Int // 0 ≤ q.1 ∧ q.1 % g = 0 ∧ q.1 ≤ 2000 + g ∧ (q.2.length : Int) ≤ q.1 ∧ W = q.2 ++ (gridS g q.1 2000).filter fun x => inB l x n}) (fun q => ([(0, LS l), (1, .int .i64 n), (2, .int .i64 g), (7, .own 0 0 q.1.2.length q.1.2.length 1 none), (8, .int .i64 q.1.1)], [acc false 1 true (rowI q.1.2)])) (fun q => (2000 + g - q.1.1).toNat) ⟨(0, []), by simp, by simp, by dsimp only; omega, by simp, by simpa using hW⟩ ?_ ?_
  · simp only [show rowI [] = [] from rfl, List.length_nil]
    refine Ent_gc [0] (by rfl) (by simp) (by simp [keptW, ObKW, ObW, imp_self, acc_real, acc_nl, acc_pure, acc_fz, acc_sz, acc_rows, acc_spare, pullOb]) (by simp [lk_hit, lk_miss, D.pt0, viewS_own', pull, pull2, pull1, pull0, idx_hit, gate, List.mem_cons, or_false, view0])
  rintro ⟨⟨a, out⟩, h1, h2, h3, h4, h5⟩ hk
  dsimp only at h1 h2 h3 h4 h5 hk ⊢
  have ho : out.length ≤ 10000000 := by omega
  by_cases hlt : a < 2000
  · have c1 : (a < 2000) = True := by simpa using hlt
    have hi := refIn_p l a n hl (by omega) (by omega) hn hn2
    rw [gridS_step hg h2 hlt] at h5
    have h2' : (a + g) % g = 0 := by rw [Int.add_emod_right]; exact h2
    cases hb : inB l a n
    · rw [hb] at hi
      rw [List.filter_cons_of_neg (by simp [hb])] at h5
      repeat' ((first | refine Run_seq ?_ | refine Run_skip ?_ | refine Run_block ?_ | refine Run_blk ?_ | refine Run_exit rfl ?_ | refine Run_ret ?_ | refine Run_nil ?_ | refine Run_condK ?_ | refine Run_ops mixed ?_ | refine Run_opsX mixed ?_ | with_reducible refine PostV_open ?_ | with_reducible refine PostG_open ?_ | with_reducible refine PostQ_open ?_ | with_reducible refine ro_callV ?_ | with_reducible refine ro_callVX ?_ | refine CallV_pure (hi) ?_ ?_ | simp (disch := omega) only [w64] | (with_reducible refine SliceK_own rfl rfl ?_ ?_; (focus ((try simp only [rowsS_len, rowI_len, reduceIte, Int.natCast_nonneg, Int.le_refl, List.length_append, List.length_map, Nat.sub_zero]) <;> ((repeat' (with_reducible refine And.intro ?_ ?_)) <;> first | exact trivial | assumption | (simp; done) | (simp only [List.length_map] at *; omega) | omega | (simp [D.cells, D.ok, D.one, D.pt, D.pt1]; done))))) | (refine GuardK_split (fun hc => ?_) (fun hc => ?_) <;> (try simp only [hc]) <;> (try simp at hc)) | (refine CondK_split (fun hc => ?_) (fun hc => ?_) <;> (try simp only [hc]) <;> (try simp at hc)) | (with_reducible refine And.intro ?_ ?_; (focus ((repeat' (with_reducible refine And.intro ?_ ?_)) <;> first | exact trivial | assumption | (simp; done) | (simp only [List.length_map] at *; omega) | omega | (simp [D.cells, D.ok, D.one, D.pt, D.pt1]; done)))) | (with_reducible intro x hx) | omega) <;> (try simp only [c1, ro_nil, ro_mov, ro_bin, CondK_t, CondK_f, contP_some, lk_hit, lk_miss, Nat.reduceBEq, put_some, ev_t, ev_c, reduceIte, binD, binInt, D.pt, D.pt1, D.pt0, D.norm1, true_and, Bool.and_true, Bool.or_true, List.append_nil, List.map_cons, List.map_nil, List.all_cons, List.all_nil, decide_true, view, view2, view1, view0, mapO, capsD_fn, D.sc, D.sc1, D.sc2]))
      refine hk ⟨(a + g, out), by dsimp only; omega, h2', by dsimp only; omega, by dsimp only; omega, h5⟩ _ _ (by dsimp only; omega) ?_
      dsimp only
      refine Ent_gc [0] (by rfl) (by simp) (by simp [keptW, ObKW, ObW, imp_self, acc_real, acc_nl, acc_pure, acc_fz, acc_sz, acc_rows, acc_spare, pullOb]) (by simp [lk_hit, lk_miss, D.pt0, viewS_own', pull, pull2, pull1, pull0, idx_hit, gate, List.mem_cons, or_false, view0])
    · rw [hb] at hi
      rw [List.filter_cons_of_pos (by simpa using hb)] at h5
      have hu := snocI out a
      repeat' ((first | refine Run_seq ?_ | refine Run_skip ?_ | refine Run_block ?_ | refine Run_blk ?_ | refine Run_exit rfl ?_ | refine Run_ret ?_ | refine Run_nil ?_ | refine Run_condK ?_ | refine Run_ops mixed ?_ | refine Run_opsX mixed ?_ | with_reducible refine PostV_open ?_ | with_reducible refine PostG_open ?_ | with_reducible refine PostQ_open ?_ | with_reducible refine ro_callV ?_ | with_reducible refine ro_callVX ?_ | refine CallV_pure (hi) ?_ ?_ | simp (disch := omega) only [w64] | (with_reducible refine SliceK_own rfl rfl ?_ ?_; (focus ((try simp only [rowsS_len, rowI_len, reduceIte, Int.natCast_nonneg, Int.le_refl, List.length_append, List.length_map, Nat.sub_zero]) <;> ((repeat' (with_reducible refine And.intro ?_ ?_)) <;> first | exact trivial | assumption | (simp; done) | (simp only [List.length_map] at *; omega) | omega | (simp [D.cells, D.ok, D.one, D.pt, D.pt1]; done))))) | (refine GuardK_split (fun hc => ?_) (fun hc => ?_) <;> (try simp only [hc]) <;> (try simp at hc)) | (refine CondK_split (fun hc => ?_) (fun hc => ?_) <;> (try simp only [hc]) <;> (try simp at hc)) | (with_reducible refine And.intro ?_ ?_; (focus ((repeat' (with_reducible refine And.intro ?_ ?_)) <;> first | exact trivial | assumption | (simp; done) | (simp only [List.length_map] at *; omega) | omega | (simp [D.cells, D.ok, D.one, D.pt, D.pt1]; done)))) | (with_reducible intro x hx) | omega) <;> (try simp only [rowI_len, c1, hu, ro_nil, ro_mov, ro_slit, SlitK_t, ro_bin, ro_app, newsD_list, AppN_some, AppS_own, AppO_acc, CondK_t, contP_some, lk_hit, lk_miss, Nat.reduceBEq, put_some, ev_t, ev_c, reduceIte, Nat.reduceLeDiff, binD, binInt, D.cells, D.ok, D.one, D.pt, D.pt1, D.pt0, D.norm1, true_and, and_true, and_self, Bool.and_true, Bool.or_true, List.getElem?_cons_zero, List.length_cons, List.length_nil, List.append_nil, List.map_cons, List.map_nil, List.all_cons, List.all_nil, List.set_cons_zero, List.not_mem_nil, Nat.zero_add, decide_true, Nat.lt_add_one, view, view2, view1, view0, mapO, capsD_fn, D.sc, D.sc1, D.sc2, List.mem_cons, or_false]))
      refine hk ⟨(a + g, out ++ [a]), by dsimp only; omega, h2', by dsimp only; omega, by rw [List.length_append, List.length_cons, List.length_nil]; omega, by rw [h5]; simp⟩ _ _ (by dsimp only; omega) ?_
      dsimp only
      simp only [List.length_append, List.length_cons, List.length_nil]
      refine Ent_gc [0] (by rfl) (by simp) (by simp [keptW, ObKW, ObW, imp_self, acc_real, acc_nl, acc_pure, acc_fz, acc_sz, acc_rows, acc_spare, pullOb]) (by simp [lk_hit, lk_miss, D.pt0, viewS_own', pull, pull2, pull1, pull0, idx_hit, gate, List.mem_cons, or_false, view0])
  · have c1 : (a < 2000) = False := by simpa using hlt
    rw [gridS_emp hg (by omega)] at h5
    have e : W = out := by simpa using h5
    rw [e]
    repeat' ((first | refine Run_seq ?_ | refine Run_skip ?_ | refine Run_block ?_ | refine Run_blk ?_ | refine Run_exit rfl ?_ | refine Run_ret ?_ | refine Run_nil ?_ | refine Run_condK ?_ | refine Run_ops mixed ?_ | refine Run_opsX mixed ?_ | with_reducible refine PostV_open ?_ | with_reducible refine PostG_open ?_ | with_reducible refine PostQ_open ?_ | with_reducible refine ro_callV ?_ | with_reducible refine ro_callVX ?_ | simp (disch := omega) only [w64, wu64, wu32, wu16, wu8, Int.tdiv_eq_ediv_of_nonneg, Int.tmod_eq_emod_of_nonneg] | (with_reducible refine SliceK_own rfl rfl ?_ ?_; (focus ((try simp only [rowsS_len, rowI_len, reduceIte, Int.natCast_nonneg, Int.le_refl, List.length_append, List.length_map, Nat.sub_zero]) <;> ((repeat' (with_reducible refine And.intro ?_ ?_)) <;> first | exact trivial | assumption | (simp; done) | (simp only [List.length_map] at *; omega) | omega | (simp [D.cells, D.ok, D.one, D.pt, D.pt1]; done))))) | (refine GuardK_split (fun hc => ?_) (fun hc => ?_) <;> (try simp only [hc]) <;> (try simp at hc)) | (refine CondK_split (fun hc => ?_) (fun hc => ?_) <;> (try simp only [hc]) <;> (try simp at hc)) | (with_reducible refine And.intro ?_ ?_; (focus ((repeat' (with_reducible refine And.intro ?_ ?_)) <;> first | exact trivial | assumption | (simp; done) | (simp only [List.length_map] at *; omega) | omega | (simp [D.cells, D.ok, D.one, D.pt, D.pt1]; done)))) | (with_reducible intro x hx) | omega) <;> (try simp only [rowI_len, c1, ro_nil, ro_mov, ro_bin, winD_all, viewS_own', viewO_some, acc_pure, acc_rows, CondK_f, contP_some, lk_hit, lk_miss, Nat.reduceBEq, put_some, ev_t, ev_c, reduceIte, binD, binInt, D.pt0, D.norm1, true_and, and_self, Bool.true_or, List.getElem?_cons_zero, decide_false, view, view2, view1, view0, resK_nil, resK_tmp, ofRes]))
theorem fixed_st : (gridL (heldI 15) (stS (heldI 10) (frm [(5, 40)]))).take 9 = [15, 30] := by
  have hf : frm [(5, 40)] = [(5, 40)] := can_unique _ _ (frm_spec _).1 (by simp [Vi.Can]) (frm_spec _).2
  have h1 : heldI 15 = 15 := by decide
  have h2 : heldI 10 = 10 := by decide
  rw [hf, h1, h2]
  have : gridL 15 (stS 10 [(5, 40)]) = [15, 30] := by
    refine sorted_ext _ _ (gridL_sorted (by decide) _ (stS_sorted (by simp [Vi.Can]) (by decide))) (by simp) fun x => ?_
    rw [mem_gridL (by decide), hasS_iff]
    simp [stS]
    omega
  rw [this]; rfl
theorem fixed_p : PureD Try.prog 8 [] (.bool true) := by
  have hs := startsE_p [(5, 40)] 10 15 9 (by simp) (fun s hs => by
    obtain rfl : s = (5, 40) := by simpa using hs
    simp [Fit]) (by omega)
  rw [fixed_st] at hs
  simp only [LS, rowsS, LI, rowI, List.map_cons, List.map_nil] at hs
  refine pureV Try.func8 low8 (by simp [c8]) ?_
  simp only [c8]
  repeat' ((first | refine Run_seq ?_ | refine Run_skip ?_ | refine Run_block ?_ | refine Run_blk ?_ | refine Run_exit rfl ?_ | refine Run_ret ?_ | refine Run_nil ?_ | refine Run_condK ?_ | refine Run_ops mixed ?_ | refine Run_opsX mixed ?_ | with_reducible refine PostV_open ?_ | with_reducible refine PostG_open ?_ | with_reducible refine PostQ_open ?_ | with_reducible refine ro_callV ?_ | with_reducible refine ro_callVX ?_ | refine CallV_pure (hs) ?_ ?_ | simp (disch := omega) only [w64, wu64, wu32, wu16, wu8, Int.tdiv_eq_ediv_of_nonneg, Int.tmod_eq_emod_of_nonneg] | (with_reducible refine SliceK_own rfl rfl ?_ ?_; (focus ((try simp only [rowsS_len, rowI_len, reduceIte, Int.natCast_nonneg, Int.le_refl, List.length_append, List.length_map, Nat.sub_zero]) <;> ((repeat' (with_reducible refine And.intro ?_ ?_)) <;> first | exact trivial | assumption | (simp; done) | (simp only [List.length_map] at *; omega) | omega | (simp [D.cells, D.ok, D.one, D.pt, D.pt1]; done))))) | (refine GuardK_split (fun hc => ?_) (fun hc => ?_) <;> (try simp only [hc]) <;> (try simp at hc)) | (refine CondK_split (fun hc => ?_) (fun hc => ?_) <;> (try simp only [hc]) <;> (try simp at hc)) | (with_reducible refine And.intro ?_ ?_; (focus ((repeat' (with_reducible refine And.intro ?_ ?_)) <;> first | exact trivial | assumption | (simp; done) | (simp only [List.length_map] at *; omega) | omega | (simp [D.one]; done)))) | (with_reducible intro x hx) | omega) <;> (try simp only [ro_nil, ro_mov, ro_pick, ro_build, ro_slit, SlitK_t, ro_bin, ro_len, ro_load, LoadK_elt, ro_iaddr, IaddrK_list, IaddrR_some, viewS_own', ro_guard, GuardK_tt, contP_some, lk_hit, lk_miss, Nat.reduceBEq, put_some, ev_t, ev_c, argEnv, reduceIte, Nat.reduceAdd, Nat.reduceLeDiff, binD, binInt, aggD, pickD, lenD, loadD, fillD, splice, D.cells, D.ok, D.one, D.pt, D.pt1, D.pt0, D.norm1, cond_true, true_and, and_self, Bool.and_true, Bool.or_false, List.getElem?_cons_zero, List.getElem?_cons_succ, List.getElem?_nil, List.length_cons, List.length_nil, List.take_succ_cons, List.take_zero, List.drop_succ_cons, List.drop_zero, List.drop_nil, List.cons_append, List.nil_append, List.append_nil, List.map_cons, List.map_nil, List.all_cons, List.all_nil, List.not_mem_nil, Nat.zero_add, Int.reduceToNat, Int.reduceLE, beq_self_eq_true, Int.le_refl, Nat.le_refl, Nat.zero_lt_succ, view, view2, view1, view0, mapO, capsD_fn, D.sc, D.sc1, D.sc2, List.mem_cons, or_false, resK_nil, resK_tmp, ofRes]))
  skip
set_option maxHeartbeats 2000000 in
theorem eup_p (m g : Int) (hm : Fit m) (hg : Fit g) : PureD Try.prog 3 [.int .i64 m, .int .i64 g] (.bool true) := by
  refine pureV Try.func3 low3 (by simp [c3]) ?_
  simp only [c3]
  have hu := up_p m g hm hg
  unfold Fit at hm hg
  have mE := mxE
  obtain ⟨d, hd⟩ : ∃ d, d = max g 1 := ⟨_, rfl⟩
  have hd' : max 1 g = d := by omega
  rw [← hd] at hu
  have hd0 : 0 < d := by omega
  have hdn : (d = 0) = False := by simp; omega
  have h1 := upG_ge (a := m) hd0
  have h2 := upG_lt (a := m) hd0
  have h3 := upG_mod (a := m) hd0
  unfold upA at hu
  generalize upG d m = u at hu h1 h2 h3
  by_cases hc : u ≤ 9223372036854775807
  · rw [if_pos hc] at hu
    have q1 : (u ≥ m) = True := by simpa using h1
    have q2 : (u.tmod d == 0) = true := by
      rw [Int.tmod_eq_emod, h3]
      have : d ∣ u := Int.dvd_of_emod_eq_zero h3
      simp [this]
    have q3 : IntKind.u64.wrap (IntKind.u64.wrap u - IntKind.u64.wrap m) = u - m := by simp only [wru]; omega
    have q4 : IntKind.u64.wrap d = d := by simp only [wru]; omega
    have q5 : (u - m < d) = True := by simp; omega
    repeat' ((first | refine Run_seq ?_ | refine Run_skip ?_ | refine Run_block ?_ | refine Run_blk ?_ | refine Run_exit rfl ?_ | refine Run_ret ?_ | refine Run_nil ?_ | refine Run_condK ?_ | refine Run_ops mixed ?_ | refine Run_opsX mixed ?_ | with_reducible refine PostV_open ?_ | with_reducible refine PostG_open ?_ | with_reducible refine PostQ_open ?_ | with_reducible refine ro_callV ?_ | with_reducible refine ro_callVX ?_ | refine CallV_pure (hu) ?_ ?_ | refine CallV_pure (fixed_p) ?_ ?_ | simp (disch := omega) only [w64, wu64, wu32, wu16, wu8, Int.tdiv_eq_ediv_of_nonneg, Int.tmod_eq_emod_of_nonneg] | (with_reducible refine SliceK_own rfl rfl ?_ ?_; (focus ((try simp only [rowsS_len, rowI_len, reduceIte, Int.natCast_nonneg, Int.le_refl, List.length_append, List.length_map, Nat.sub_zero]) <;> ((repeat' (with_reducible refine And.intro ?_ ?_)) <;> first | exact trivial | assumption | (simp; done) | (simp only [List.length_map] at *; omega) | omega | (simp [D.cells, D.ok, D.one, D.pt, D.pt1]; done))))) | (refine GuardK_split (fun hc => ?_) (fun hc => ?_) <;> (try simp only [hc]) <;> (try simp at hc)) | (refine CondK_split (fun hc => ?_) (fun hc => ?_) <;> (try simp only [hc]) <;> (try simp at hc)) | (with_reducible refine And.intro ?_ ?_; (focus ((repeat' (with_reducible refine And.intro ?_ ?_)) <;> first | exact trivial | assumption | (simp; done) | (simp only [List.length_map] at *; omega) | omega | (simp [D.cells, D.ok, D.one, D.pt, D.pt1]; done)))) | (with_reducible intro x hx) | omega) <;> (try simp only [mE, hd', hdn, q1, q2, q3, q4, q5, ro_nil, ro_mov, ro_pick, ro_bin, ro_un, ro_conv, ro_ext, ro_mx, viewS_own', ro_guard, GuardK_tt, CondK_f, contP_some, lk_hit, lk_miss, Nat.reduceBEq, put_some, ev_t, ev_c, argEnv, reduceIte, binD, binInt, okD, unD, pickD, convD, extD, mxD, D.pt, D.pt1, D.pt0, D.norm1, cond_true, true_and, Bool.and_true, Bool.not_true, Bool.or_true, List.getElem?_cons_zero, List.getElem?_cons_succ, List.getElem?_nil, List.append_nil, List.map_cons, List.map_nil, List.all_cons, List.all_nil, ne_eq, not_false_eq_true, Nat.zero_add, decide_true, view, view2, view1, view0, mapO, capsD_fn, D.sc, D.sc1, D.sc2, resK_nil, resK_tmp, ofRes]))
    skip
  · rw [if_neg hc] at hu
    have q1 : (m > 9223372036854775807 - d) = True := by simp; omega
    repeat' ((first | refine Run_seq ?_ | refine Run_skip ?_ | refine Run_block ?_ | refine Run_blk ?_ | refine Run_exit rfl ?_ | refine Run_ret ?_ | refine Run_nil ?_ | refine Run_condK ?_ | refine Run_ops mixed ?_ | refine Run_opsX mixed ?_ | with_reducible refine PostV_open ?_ | with_reducible refine PostG_open ?_ | with_reducible refine PostQ_open ?_ | with_reducible refine ro_callV ?_ | with_reducible refine ro_callVX ?_ | refine CallV_pure (hu) ?_ ?_ | refine CallV_pure (fixed_p) ?_ ?_ | simp (disch := omega) only [w64] | (with_reducible refine SliceK_own rfl rfl ?_ ?_; (focus ((try simp only [rowsS_len, rowI_len, reduceIte, Int.natCast_nonneg, Int.le_refl, List.length_append, List.length_map, Nat.sub_zero]) <;> ((repeat' (with_reducible refine And.intro ?_ ?_)) <;> first | exact trivial | assumption | (simp; done) | (simp only [List.length_map] at *; omega) | omega | (simp [D.cells, D.ok, D.one, D.pt, D.pt1]; done))))) | (refine GuardK_split (fun hc => ?_) (fun hc => ?_) <;> (try simp only [hc]) <;> (try simp at hc)) | (refine CondK_split (fun hc => ?_) (fun hc => ?_) <;> (try simp only [hc]) <;> (try simp at hc)) | (with_reducible refine And.intro ?_ ?_; (focus ((repeat' (with_reducible refine And.intro ?_ ?_)) <;> first | exact trivial | assumption | (simp; done) | (simp only [List.length_map] at *; omega) | omega | (simp [D.cells, D.ok, D.one, D.pt, D.pt1]; done)))) | (with_reducible intro x hx) | omega) <;> (try simp only [mE, hd', q1, ro_nil, ro_mov, ro_pick, ro_bin, ro_un, ro_ext, ro_mx, viewS_own', ro_guard, GuardK_tt, CondK_t, contP_some, lk_hit, lk_miss, Nat.reduceBEq, put_some, ev_t, ev_c, argEnv, reduceIte, binD, binInt, okD, unD, pickD, extD, mxD, D.pt, D.pt1, D.pt0, D.norm1, cond_true, true_and, Bool.and_true, Bool.not_false, Bool.or_true, List.getElem?_cons_zero, List.getElem?_cons_succ, List.getElem?_nil, List.append_nil, List.map_cons, List.map_nil, List.all_cons, List.all_nil, Nat.zero_add, beq_self_eq_true, decide_true, view, view2, view1, view0, mapO, capsD_fn, D.sc, D.sc1, D.sc2, resK_nil, resK_tmp, ofRes, Option.some.injEq, D.bool.injEq]))
    skip
end Go.Proofs.Ytfpohilhapaiiaa
