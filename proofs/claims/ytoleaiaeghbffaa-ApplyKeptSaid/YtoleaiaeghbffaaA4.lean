import Derived.Test.YtoleaiaeghbffaaA3
set_option linter.unusedVariables false
set_option linter.unusedSimpArgs false
set_option linter.unnecessarySimpa false
namespace Go.Proofs.Ytoleaiaeghbffaa
open Go Go.Vi



theorem get_mid {α : Type} {xs ys : List α} {x : α} {i : Nat} : (xs ++ x :: ys)[i]? = if i = xs.length then some x else (xs ++ x :: ys)[i]? := by
  split
  · rename_i h; subst h; simp
  · rfl
theorem get_mid' {α : Type} {xs ys : List α} {x y : α} {i : Nat} (h : i ≠ xs.length) : (xs ++ x :: ys)[i]? = (xs ++ y :: ys)[i]? := by
  by_cases hi : i < xs.length
  · rw [List.getElem?_append_left hi, List.getElem?_append_left hi]
  · rw [List.getElem?_append_right (by omega), List.getElem?_append_right (by omega)]
    obtain ⟨j, hj⟩ : ∃ j, i - xs.length = j + 1 := ⟨i - xs.length - 1, by omega⟩
    rw [hj]; simp
/-- A slice of which it isn't known whether it is nil, in a struct that is handed over: both ways. -/
theorem PureD_nils {P : Program} {f : FuncId} {pre post xs ys : List D} {tg : Bool} {rows : List (List D)} {r : D}
    (h : ∀ b, (b = true → rows = []) → PureD P f (pre ++ .agg (xs ++ .list (some b) tg rows :: ys) :: post) r) : PureD P f (pre ++ .agg (xs ++ .list none tg rows :: ys) :: post) r := by
  refine ⟨(h false (by simp)).enters, fun G w vs hG hl hr => ?_⟩
  have hlv : pre.length < vs.length := by rw [← hl]; simp
  have h1 := hr pre.length (.agg (xs ++ .list none tg rows :: ys)) vs[pre.length] (by simp) (List.getElem?_eq_getElem hlv)
  have key : ∃ b, (b = true → rows = []) ∧ PRep G w (.agg (xs ++ .list (some b) tg rows :: ys)) vs[pre.length] := by
    generalize vs[pre.length] = v at h1
    cases h1 with
    | agg _ us hlen hrep =>
      have hlu : xs.length < us.length := by rw [← hlen]; simp
      have h2 := hrep xs.length (.list none tg rows) us[xs.length] (by simp) (List.getElem?_eq_getElem hlu)
      have h3 : ∃ b, (b = true → rows = []) ∧ PRep G w (.list (some b) tg rows) us[xs.length] := by
        generalize us[xs.length] = u at h2
        cases h2 with
        | list nl tg rows A cap sz vf h1 h2 h3 h4 h5 h9 h6 h7 h8 =>
          refine ⟨A.isNone, fun hA => ?_, .list (some A.isNone) tg rows A cap sz vf (by simp) h2 h3 h4 h5 h9 h6 h7 h8⟩
          have : A = none := by simpa using hA
          exact List.eq_nil_of_length_eq_zero (by have := h2 this; omega)
      obtain ⟨b, hb, h3⟩ := h3
      refine ⟨b, hb, .agg _ us (by simpa using hlen) fun i d v hd hv => ?_⟩
      by_cases hi : i = xs.length
      · subst hi
        simp only [List.getElem?_append_right (Nat.le_refl _), Nat.sub_self, List.getElem?_cons_zero, Option.some.injEq] at hd
        subst hd
        rw [List.getElem?_eq_getElem hlu] at hv
        cases hv
        exact h3
      · exact hrep i d v (by rw [← hd]; exact get_mid' hi) hv
  obtain ⟨b, hb, key⟩ := key
  refine (h b hb).calls G w vs hG (by simpa using hl) fun i d v hd hv => ?_
  by_cases hi : i = pre.length
  · subst hi
    simp only [List.getElem?_append_right (Nat.le_refl _), Nat.sub_self, List.getElem?_cons_zero, Option.some.injEq] at hd
    subst hd
    rw [List.getElem?_eq_getElem hlv] at hv
    cases hv
    exact key
  · exact hr i d v (by rw [← hd]; exact get_mid' hi) hv
theorem mark_0 (b : Bool) (t : Int) (nu np : Option Bool) (gu gp : Bool) (us ps : List (List D)) (ask : List D) (kk : D) (rest : List D) (d : Dn) (hask : ask = [kk, .int .u32 d.c, .int .u64 d.n] ++ rest) (hr : rest.length = 39) (hkk : kk.one = true) (hro : rest.all D.one = true) (gd : Bool) :
    PureD Try.prog 7 [St4 t nu np (some b) gu gp gd us ps [], .agg ask, .int .u64 d.v] (.tup [St4 t none none none false false false us ps [d], .int .i64 0]) := by
  refine pureV Try.func7 low7 (by simp [c7]) ?_
  simp only [c7, hask]
  have hkk' := hkk
  simp only [D.one] at hkk'
  have hat : isAt [] 0 d.c = false := rfl
  have pl := place_p t none none none false false false us ps [] d.c 0 (by simp) (by simp) (by simp)
  simp only [hat] at pl
  have hrow : rowsD [d] = [[.int .u32 d.c, .int .u64 d.n, .int .u64 d.v]] := rfl
  cases b
  · have ins := insertE_p d true (some false)
    simp only [Dn.row, hrow] at ins
    repeat' ((first | refine Run_seq ?_ | refine Run_skip ?_ | refine Run_block ?_ | refine Run_blk ?_ | refine Run_exit rfl ?_ | refine Run_ret ?_ | refine Run_nil ?_ | refine Run_condK ?_ | refine Run_ops mixed ?_ | refine Run_opsX mixed ?_ | with_reducible refine PostV_open ?_ | with_reducible refine PostG_open ?_ | with_reducible refine PostQ_open ?_ | with_reducible refine ro_callA (f := .c (.fn 17 [])) ?_ | with_reducible refine ro_callA' (f := .c (.fn 17 [])) ?_ | with_reducible refine ro_callA (f := .c (.fn 18 [])) ?_ | with_reducible refine ro_callA' (f := .c (.fn 18 [])) ?_ | with_reducible refine ro_callV ?_ | with_reducible refine ro_callVX ?_ | refine CallV_pure (pl) ?_ ?_ | with_reducible refine CallE_use (clone_emp _) (by simp) ?_ | with_reducible refine CallE_use (ins) (by simp) ?_ | simp (disch := omega) only [w64, wu64, wu32, wu16, wu8, Int.tdiv_eq_ediv_of_nonneg, Int.tmod_eq_emod_of_nonneg] | (with_reducible refine SliceK_own rfl rfl ?_ ?_; (focus ((try simp only [rowsD_len, rowsD_take, rowsD_drop, reduceIte, Int.natCast_nonneg, Int.le_refl, List.length_append, List.length_map, Nat.sub_zero]) <;> ((repeat' (with_reducible refine And.intro ?_ ?_)) <;> first | exact trivial | assumption | (simp; done) | (simp only [List.length_map] at *; omega) | omega | (simp [D.cells, D.ok, D.one, D.pt, D.pt1]; done) | exact rowsD_sz)))) | (refine GuardK_split (fun hc => ?_) (fun hc => ?_) <;> (try simp only [hc]) <;> (try simp at hc)) | (refine CondK_split (fun hc => ?_) (fun hc => ?_) <;> (try simp only [hc]) <;> (try simp at hc)) | (with_reducible refine And.intro ?_ ?_; (focus ((repeat' (with_reducible refine And.intro ?_ ?_)) <;> first | exact trivial | assumption | (simp; done) | (simp only [List.length_map] at *; omega) | omega | (simp [D.one]; done) | exact rowsD_sz))) | (with_reducible intro x hx) | omega) <;> (try simp only [hr, hro, hkk', rowsD, ro_nil, ro_mov, ro_build, ro_slit, SlitK_t, ro_bin, ro_faddr, ro_ext, ro_len, ro_load, LoadK_ptr, LoadO_some, LoadR_some, ro_box, ro_alloc, ro_store, StoreK_ptr, StoreO_some, StoreR_some, winD_all, viewS_own', viewO_some, rx_nil, rx_cons, keepK_nil, keepK_cons, keepE_nil, keepE_cons, keepN_nil, keepN_cons, D.names, acc_real, acc_nl, acc_pure, acc_fz, acc_sz, acc_rows, acc_spare, CondK_f, contP_some, lk_hit, lk_miss, Nat.reduceBEq, put_some, put_none, ev_t, ev_c, argEnv, reduceIte, Nat.reduceAdd, Nat.reduceSub, Nat.reduceLeDiff, reduceCtorEq, binD, binInt, aggD, faddrD, extD, lenD, loadD, fillD, splice, D.cells, D.ok, D.one, D.pt, D.pt1, D.pt0, D.norm1, true_and, and_true, and_self, Bool.true_and, Bool.and_true, Bool.and_false, Bool.not_true, Bool.not_false, Bool.or_true, List.getElem?_cons_zero, List.getElem?_cons_succ, List.length_cons, List.length_nil, List.take_succ_cons, List.take_zero, List.take_nil, List.drop_succ_cons, List.drop_zero, List.drop_nil, List.cons_append, List.nil_append, List.append_nil, List.map_cons, List.map_nil, List.all_cons, List.all_nil, List.set_cons_zero, List.set_cons_succ, List.isEmpty_cons, List.isEmpty_nil, List.not_mem_nil, ne_eq, not_false_eq_true, Option.map_some, Nat.zero_add, Nat.add_zero, Nat.sub_self, Nat.lt_irrefl, Nat.le_refl, Nat.lt_add_one, Nat.zero_lt_succ, view, view2, view1, view0, mapO, capsD_fn, D.sc, D.sc1, D.sc2, pull, pull2, pull1, pull0, idx_hit, pullσ, pullOb, Go.Vi.freeze, capt, reachL, reachO, isin, List.flatten_nil, merge, mset, renOb, fr, D.ren, D.renL, List.getD_cons_zero, List.mem_cons, or_false, resK_nil, resK_tmp, resK_cell, ResC_ptr, ResO_some, ResR_some, ResL_some, ofRes, Option.some.injEq, D.agg.injEq, D.tup.injEq, D.list.injEq, List.cons.injEq]))
    rfl
  · have ins := insert0_p true d true (some false)
    simp only [Dn.row, hrow] at ins
    repeat' ((first | refine Run_seq ?_ | refine Run_skip ?_ | refine Run_block ?_ | refine Run_blk ?_ | refine Run_exit rfl ?_ | refine Run_ret ?_ | refine Run_nil ?_ | refine Run_condK ?_ | refine Run_ops mixed ?_ | refine Run_opsX mixed ?_ | with_reducible refine PostV_open ?_ | with_reducible refine PostG_open ?_ | with_reducible refine PostQ_open ?_ | with_reducible refine ro_callA (f := .c (.fn 17 [])) ?_ | with_reducible refine ro_callA' (f := .c (.fn 17 [])) ?_ | with_reducible refine ro_callA (f := .c (.fn 18 [])) ?_ | with_reducible refine ro_callA' (f := .c (.fn 18 [])) ?_ | with_reducible refine ro_callV ?_ | with_reducible refine ro_callVX ?_ | refine CallV_pure (pl) ?_ ?_ | with_reducible refine CallE_use (clone_nil _) (by simp) ?_ | with_reducible refine CallE_use (ins) (by simp) ?_ | simp (disch := omega) only [w64, wu64, wu32, wu16, wu8, Int.tdiv_eq_ediv_of_nonneg, Int.tmod_eq_emod_of_nonneg] | (with_reducible refine SliceK_own rfl rfl ?_ ?_; (focus ((try simp only [rowsD_len, rowsD_take, rowsD_drop, reduceIte, Int.natCast_nonneg, Int.le_refl, List.length_append, List.length_map, Nat.sub_zero]) <;> ((repeat' (with_reducible refine And.intro ?_ ?_)) <;> first | exact trivial | assumption | (simp; done) | (simp only [List.length_map] at *; omega) | omega | (simp [D.cells, D.ok, D.one, D.pt, D.pt1]; done) | exact rowsD_sz)))) | (refine GuardK_split (fun hc => ?_) (fun hc => ?_) <;> (try simp only [hc]) <;> (try simp at hc)) | (refine CondK_split (fun hc => ?_) (fun hc => ?_) <;> (try simp only [hc]) <;> (try simp at hc)) | (with_reducible refine And.intro ?_ ?_; (focus ((repeat' (with_reducible refine And.intro ?_ ?_)) <;> first | exact trivial | assumption | (simp; done) | (simp only [List.length_map] at *; omega) | omega | (simp [D.one]; done) | exact rowsD_sz))) | (with_reducible intro x hx) | omega) <;> (try simp only [hr, hro, hkk', rowsD, ro_nil, ro_mov, ro_build, ro_slit, SlitK_t, ro_bin, ro_faddr, ro_ext, ro_len, ro_load, LoadK_ptr, LoadO_some, LoadR_some, ro_box, ro_alloc, ro_store, StoreK_ptr, StoreO_some, StoreR_some, winD_all, viewS_own', viewO_some, rx_nil, rx_cons, keepK_nil, keepK_cons, keepE_nil, keepE_cons, keepN_nil, keepN_cons, D.names, acc_real, acc_nl, acc_pure, acc_fz, acc_sz, acc_rows, acc_spare, CondK_f, contP_some, lk_hit, lk_miss, Nat.reduceBEq, put_some, put_none, ev_t, ev_c, argEnv, reduceIte, Nat.reduceAdd, Nat.reduceLeDiff, reduceCtorEq, binD, binInt, aggD, faddrD, extD, lenD, loadD, fillD, splice, D.cells, D.ok, D.one, D.pt, D.pt1, D.pt0, D.norm1, true_and, and_true, and_self, Bool.true_and, Bool.and_true, Bool.and_false, Bool.not_false, Bool.or_true, List.getElem?_cons_zero, List.getElem?_cons_succ, List.length_cons, List.length_nil, List.take_succ_cons, List.take_zero, List.take_nil, List.drop_succ_cons, List.drop_zero, List.drop_nil, List.cons_append, List.nil_append, List.append_nil, List.map_cons, List.map_nil, List.all_cons, List.all_nil, List.set_cons_zero, List.set_cons_succ, List.isEmpty_cons, List.not_mem_nil, ne_eq, not_false_eq_true, Option.map_some, Nat.zero_add, Nat.add_zero, Nat.sub_self, Nat.lt_irrefl, Nat.le_refl, Nat.lt_add_one, Nat.zero_lt_succ, view, view2, view1, view0, mapO, capsD_fn, D.sc, D.sc1, D.sc2, pull, pull2, pull1, pull0, pullσ, Go.Vi.freeze, capt, reachL, merge, mset, renOb, fr, D.ren, D.renL, List.mem_cons, or_false, resK_nil, resK_tmp, resK_cell, ResC_ptr, ResO_some, ResR_some, ResL_some, ofRes, Option.some.injEq, D.agg.injEq, D.tup.injEq, D.list.injEq, List.cons.injEq]))
    rfl

/-- What was done, by rising callers. -/
def ins : List Dn → Dn → List Dn
  | [], d => [d]
  | x :: l, d => if x.c < d.c then x :: ins l d else if x.c = d.c then d :: l else d :: x :: l
def low : List Dn → Int → Nat
  | [], _ => 0
  | x :: l, id => if x.c < id then low l id + 1 else 0
def Srt (l : List Dn) : Prop := l.Pairwise fun a b => a.c < b.c
theorem low_le : ∀ (l : List Dn) (id : Int), low l id ≤ l.length
  | [], _ => Nat.le_refl _
  | x :: l, id => by
    have := low_le l id
    unfold low; split <;> simp <;> omega
theorem low_spec : ∀ (l : List Dn) (id : Int), Srt l → ∀ (h : Nat) (e : Dn), l[h]? = some e → (e.c < id ↔ h < low l id)
  | [], _, _, h, e, he => by simp at he
  | x :: l, id, hs, h, e, he => by
    obtain ⟨h1, h2⟩ := List.pairwise_cons.1 hs
    unfold low
    split
    · rename_i hx
      cases h with
      | zero => simp at he; subst he; simp [hx]
      | succ h => rw [low_spec l id h2 h e (by simpa using he)]; omega
    · rename_i hx
      cases h with
      | zero => simp at he; subst he; simp; omega
      | succ h =>
        have := h1 e (List.mem_of_getElem? (by simpa using he))
        simp; omega
theorem put1_ins : ∀ (l : List Dn) (d : Dn), put1 l (low l d.c) d = ins l d
  | [], d => by simp [put1, ins, low, isAt]
  | x :: l, d => by
    unfold low ins
    split
    · rw [← put1_ins l d]
      have : isAt (x :: l) (low l d.c + 1) d.c = isAt l (low l d.c) d.c := by simp [isAt]
      unfold put1
      rw [this]
      split <;> simp
    · have : isAt (x :: l) 0 d.c = (x.c == d.c) := by simp [isAt]
      unfold put1
      rw [this]
      by_cases h : x.c = d.c <;> simp [h]
theorem ins_ne (l : List Dn) (d : Dn) : ins l d ≠ [] := by
  cases l with
  | nil => simp [ins]
  | cons x l => unfold ins; (repeat' split) <;> simp
theorem ins_len : ∀ (l : List Dn) (d : Dn), (ins l d).length ≤ l.length + 1
  | [], d => by simp [ins]
  | x :: l, d => by
    have := ins_len l d
    unfold ins; (repeat' split) <;> simp <;> omega
theorem ins_mem : ∀ (l : List Dn) (d e : Dn), e ∈ ins l d → e = d ∨ e ∈ l
  | [], d, e, h => by simp [ins] at h; exact .inl h
  | x :: l, d, e, h => by
    unfold ins at h
    split at h
    · rcases List.mem_cons.1 h with h | h
      · exact .inr (by simp [h])
      · rcases ins_mem l d e h with h | h
        · exact .inl h
        · exact .inr (by simp [h])
    · split at h
      · rcases List.mem_cons.1 h with h | h
        · exact .inl h
        · exact .inr (by simp [h])
      · rcases List.mem_cons.1 h with h | h
        · exact .inl h
        · exact .inr h
theorem ins_srt : ∀ (l : List Dn) (d : Dn), Srt l → Srt (ins l d)
  | [], d, _ => by simp [ins, Srt]
  | x :: l, d, hs => by
    obtain ⟨h1, h2⟩ := List.pairwise_cons.1 hs
    unfold ins
    split
    · rename_i hx
      refine List.pairwise_cons.2 ⟨fun e he => ?_, ins_srt l d h2⟩
      rcases ins_mem l d e he with rfl | h
      · exact hx
      · exact h1 e h
    · split
      · rename_i hx
        exact List.pairwise_cons.2 ⟨fun e he => by rw [← hx]; exact h1 e he, h2⟩
      · refine List.pairwise_cons.2 ⟨fun e he => ?_, hs⟩
        rcases List.mem_cons.1 he with rfl | h
        · omega
        · have := h1 e h; omega
def find (l : List Dn) (id : Int) : Option Dn := l.find? fun d => d.c == id
theorem find_ins (id : Int) : ∀ (l : List Dn) (d : Dn), find (ins l d) id = if d.c = id then some d else find l id
  | [], d => by by_cases h : d.c = id <;> simp [ins, find, h]
  | x :: l, d => by
    have ih := find_ins id l d
    unfold ins
    split
    · rename_i hx
      by_cases h : x.c = id
      · have : ¬ d.c = id := by omega
        simp [find, h, this]
      · have e1 : find (x :: ins l d) id = find (ins l d) id := by simp [find, h]
        have e2 : find (x :: l) id = find l id := by simp [find, h]
        rw [e1, e2, ih]
    · split
      · rename_i hx
        by_cases h : d.c = id
        · simp [find, h]
        · have : ¬ x.c = id := by omega
          simp [find, h, this]
      · by_cases h : d.c = id <;> simp [find, h]
/-- A mark, of any state whose callers rise. -/
theorem mark_p (t : Int) (nu np nd : Option Bool) (gu gp gd : Bool) (us ps : List (List D)) (l : List Dn) (ask : List D) (kk : D) (rest : List D) (d : Dn) (hask : ask = [kk, .int .u32 d.c, .int .u64 d.n] ++ rest) (hr : rest.length = 39) (hkk : kk.one = true) (hro : rest.all D.one = true)
    (hl : l.length < 4096) (hs : Srt l) (hnd : nd = none ∨ l = [] ∧ nd = some true) :
    PureD Try.prog 7 [St4 t nu np nd gu gp gd us ps l, .agg ask, .int .u64 d.v] (.tup [St4 t none none none false false false us ps (ins l d), .int .i64 0]) := by
  by_cases hne : l = []
  · subst hne
    rcases hnd with rfl | ⟨_, rfl⟩
    · exact PureD_nils (pre := []) (xs := [.int .i64 t, .list nu gu us, .list np gp ps]) (ys := []) (post := [.agg ask, .int .u64 d.v]) fun b _ => mark_0 b t nu np gu gp us ps ask kk rest d hask hr hkk hro gd
    · exact mark_0 true t nu np gu gp us ps ask kk rest d hask hr hkk hro gd
  · rcases hnd with rfl | ⟨h, _⟩
    · rw [← put1_ins]
      exact mark_ne t nu np gu gp gd us ps l ask kk .nilp .nilp rest d _ hask hr hkk hro hne hl (low_le l d.c) (low_spec l d.c hs)
    · exact absurd h hne
end Go.Proofs.Ytoleaiaeghbffaa
