import Derived.Test.YtoleaiaeghbffaaC0
import Derived.Test.YtoleaiaeghbffaaVi25
set_option linter.unusedVariables false
set_option linter.unusedSimpArgs false
set_option linter.unnecessarySimpa false
namespace Go.Proofs.Ytoleaiaeghbffaa
open Go Go.Vi
theorem mixed : Try.prog.follows .mixedOrders = true := by kernel_rfl
structure Dn where
 c : Int
 n : Int
 v : Int
 deriving DecidableEq
def Dn.row (d : Dn) : List D := [.int .u32 d.c, .int .u64 d.n, .int .u64 d.v]
def rowsD (l : List Dn) : List (List D) := l.map Dn.row
theorem rowsD_len {l : List Dn} : (rowsD l).length = l.length := by simp [rowsD]
/-- A rule, an event, settings, a user, a query, a poll. -/
structure Ru where
 freq : Int
 interval : Int
 count : Int
 til : Int
 bm : List Int
 bmd : List Int
 bd : List (Int × Int)
 bsp : List Int
 start : Int
 deriving DecidableEq
structure Ev where
 start : Int
 long : Int
 world : Bool
 again : Bool
 rule : Ru
 ex : List Int
 plus : List Int
 ch : List (Int × Int × Int)
 deriving DecidableEq
structure Se where
 base : Int
 turns : List (Int × Int)
 shifts : List (Int × Int × Int)
 off : List Int
 before : Int
 after : Int
 deriving DecidableEq
structure En where
 id : Int
 ev : Ev
 deriving DecidableEq
structure Us where
 id : Int
 se : Se
 ver : Int
 evs : List En
 deriving DecidableEq
structure Qu where
 a : Int
 b : Int
 long : Int
 grid : Int
 must : List Int
 may : List (Int × Int)
 seats : Int
 apart : List (Int × Int)
 prefer : List (Int × Int × Int)
 deriving DecidableEq
structure Po where
 id : Int
 owner : Int
 qu : Qu
 slots : List Int
 votes : List (Int × Int)
 til : Int
 state : Int
 winner : Int
 deriving DecidableEq
def row1 (k : IntKind) (l : List Int) : List (List D) := l.map fun x => [.int k x]
def row2 (k m : IntKind) (l : List (Int × Int)) : List (List D) := l.map fun x => [.int k x.1, .int m x.2]
def row3 (l : List (Int × Int × Int)) : List (List D) := l.map fun x => [.int .i64 x.1, .int .i64 x.2.1, .int .i64 x.2.2]
abbrev L (rows : List (List D)) : D := .list none false rows
def Ru.cells (r : Ru) : List D := [.int .i64 r.freq, .int .i64 r.interval, .int .i64 r.count, .int .i64 r.til, L (row1 .i64 r.bm), L (row1 .i64 r.bmd), L (row2 .i64 .i64 r.bd), L (row1 .i64 r.bsp), .int .i64 r.start]
def Ev.cells (e : Ev) : List D := [.int .i64 e.start, .int .i64 e.long, .bool e.world, .bool e.again, .int .i64 e.rule.freq, .int .i64 e.rule.interval, .int .i64 e.rule.count, .int .i64 e.rule.til, L (row1 .i64 e.rule.bm), L (row1 .i64 e.rule.bmd), L (row2 .i64 .i64 e.rule.bd), L (row1 .i64 e.rule.bsp), .int .i64 e.rule.start, L (row1 .i64 e.ex), L (row1 .i64 e.plus), L (row3 e.ch)]
def Se.cells (s : Se) : List D := [.int .i64 s.base, L (row2 .i64 .i64 s.turns), L (row3 s.shifts), L (row1 .i64 s.off), .int .i64 s.before, .int .i64 s.after]
def En.row (e : En) : List D := [.int .u32 e.id, .int .i64 e.ev.start, .int .i64 e.ev.long, .bool e.ev.world, .bool e.ev.again, .int .i64 e.ev.rule.freq, .int .i64 e.ev.rule.interval, .int .i64 e.ev.rule.count, .int .i64 e.ev.rule.til, L (row1 .i64 e.ev.rule.bm), L (row1 .i64 e.ev.rule.bmd), L (row2 .i64 .i64 e.ev.rule.bd), L (row1 .i64 e.ev.rule.bsp), .int .i64 e.ev.rule.start, L (row1 .i64 e.ev.ex), L (row1 .i64 e.ev.plus), L (row3 e.ev.ch)]
def rowsE (l : List En) : List (List D) := l.map En.row
def Us.row (u : Us) : List D := [.int .u32 u.id, .int .i64 u.se.base, L (row2 .i64 .i64 u.se.turns), L (row3 u.se.shifts), L (row1 .i64 u.se.off), .int .i64 u.se.before, .int .i64 u.se.after, .int .u64 u.ver, L (rowsE u.evs)]
def rowsU (l : List Us) : List (List D) := l.map Us.row
def Qu.cells (q : Qu) : List D := [.int .i64 q.a, .int .i64 q.b, .int .i64 q.long, .int .i64 q.grid, L (row1 .u32 q.must), L (row2 .u32 .i64 q.may), .int .i64 q.seats, L (row2 .u32 .u32 q.apart), L (row3 q.prefer)]
def Po.row (p : Po) : List D := [.int .u32 p.id, .int .u32 p.owner, .int .i64 p.qu.a, .int .i64 p.qu.b, .int .i64 p.qu.long, .int .i64 p.qu.grid, L (row1 .u32 p.qu.must), L (row2 .u32 .i64 p.qu.may), .int .i64 p.qu.seats, L (row2 .u32 .u32 p.qu.apart), L (row3 p.qu.prefer), L (row1 .i64 p.slots), L (row2 .u32 .i64 p.votes), .int .i64 p.til, .int .i64 p.state, .int .i64 p.winner]
def rowsP (l : List Po) : List (List D) := l.map Po.row
theorem row1_len {k : IntKind} {l : List Int} : (row1 k l).length = l.length := by simp [row1]
theorem row2_len {k m : IntKind} {l : List (Int × Int)} : (row2 k m l).length = l.length := by simp [row2]
theorem row3_len {l : List (Int × Int × Int)} : (row3 l).length = l.length := by simp [row3]
theorem rowsE_len {l : List En} : (rowsE l).length = l.length := by simp [rowsE]
theorem rowsU_len {l : List Us} : (rowsU l).length = l.length := by simp [rowsU]
theorem rowsP_len {l : List Po} : (rowsP l).length = l.length := by simp [rowsP]
theorem row1_get {k : IntKind} {l : List Int} {i : Nat} {x : Int} (h : l[i]? = some x) : (row1 k l)[i]? = some [.int k x] := by simp [row1, h]
theorem row2_get {k m : IntKind} {l : List (Int × Int)} {i : Nat} {x : Int × Int} (h : l[i]? = some x) : (row2 k m l)[i]? = some [.int k x.1, .int m x.2] := by simp [row2, h]
theorem row3_get {l : List (Int × Int × Int)} {i : Nat} {x : Int × Int × Int} (h : l[i]? = some x) : (row3 l)[i]? = some [.int .i64 x.1, .int .i64 x.2.1, .int .i64 x.2.2] := by simp [row3, h]
theorem rowsE_get {l : List En} {i : Nat} {x : En} (h : l[i]? = some x) : (rowsE l)[i]? = some x.row := by simp [rowsE, h]
theorem rowsU_get {l : List Us} {i : Nat} {x : Us} (h : l[i]? = some x) : (rowsU l)[i]? = some x.row := by simp [rowsU, h]
theorem rowsP_get {l : List Po} {i : Nat} {x : Po} (h : l[i]? = some x) : (rowsP l)[i]? = some x.row := by simp [rowsP, h]


def Se.great (s : Se) : Bool := decide (100 < s.turns.length) || decide (30 < s.shifts.length) || decide (100 < s.off.length)
theorem greatSe_p (s : Se) : PureD Try.prog 38 [.agg s.cells] (.bool s.great) := by
 refine pureV Try.func38 low38 (by simp [c38]) ?_
 simp only [c38]
 repeat' ((first | apply Run_seq | apply Run_ret | apply Run_nil | apply Run_ops mixed | with_reducible refine PostV_open ?_ | (refine GuardK_split ?_ ?_ <;> intro hc <;> (try simp only [hc]) <;> try simp at hc) | (with_reducible refine And.intro ?_ ?_; (focus ((repeat' (with_reducible refine And.intro ?_ ?_)) <;> first | exact trivial | assumption | (simp; done) | (simp only [List.length_map] at *; omega) | omega | (simp [D.cells, D.ok, D.one, D.pt, D.pt1]; done)))) | (with_reducible intro x hx) | omega) <;> (try simp only [row1_len, row2_len, row3_len, Se.cells, Nat.reduceBEq, argEnv, reduceIte, Nat.reduceAdd, reduceCtorEq, binD, binInt, pickD, faddrD, lenD, loadD, D.cells, D.ok, D.one, D.pt1, D.pt0, D.norm1, cond_true, cond_false, ne_eq, view, view2, view1, view0, ofRes, fw]))
 all_goals (unfold Se.great; rw [Bool.eq_iff_iff]; simp; omega)
def Ev.great (e : Ev) : Bool := decide (80 < e.ex.length) || decide (80 < e.plus.length) || decide (80 < e.ch.length) || decide (100 < e.rule.bm.length) || decide (100 < e.rule.bmd.length) || decide (200 < e.rule.bd.length) || decide (500 < e.rule.bsp.length)
theorem greatEv_p (s : Ev) : PureD Try.prog 39 [.agg s.cells] (.bool s.great) := by
 refine pureV Try.func39 low39 (by simp [c39]) ?_
 simp only [c39]
 repeat' ((first | apply Run_seq | apply Run_ret | apply Run_nil | apply Run_ops mixed | with_reducible refine PostV_open ?_ | (refine GuardK_split ?_ ?_ <;> intro hc <;> (try simp only [hc]) <;> try simp at hc) | (with_reducible refine And.intro ?_ ?_; (focus ((repeat' (with_reducible refine And.intro ?_ ?_)) <;> first | exact trivial | assumption | (simp; done) | (simp only [List.length_map] at *; omega) | omega | (simp [D.cells, D.ok, D.one, D.pt, D.pt1]; done)))) | (with_reducible intro x hx) | omega) <;> (try simp only [row1_len, row2_len, row3_len, Ev.cells, Nat.reduceBEq, argEnv, reduceIte, Nat.reduceAdd, reduceCtorEq, binD, binInt, pickD, faddrD, lenD, loadD, D.cells, D.ok, D.one, D.pt1, D.pt0, D.norm1, cond_true, cond_false, ne_eq, view, view2, view1, view0, ofRes, fw]))
 all_goals (unfold Ev.great; rw [Bool.eq_iff_iff]; simp; omega)
def Qu.great (s : Qu) : Bool := decide (80 < s.must.length) || decide (40 < s.may.length) || decide (60 < s.apart.length) || decide (30 < s.prefer.length)
theorem greatQu_p (s : Qu) : PureD Try.prog 41 [.agg s.cells] (.bool s.great) := by
 refine pureV Try.func41 low41 (by simp [c41]) ?_
 simp only [c41]
 repeat' ((first | apply Run_seq | apply Run_ret | apply Run_nil | apply Run_ops mixed | with_reducible refine PostV_open ?_ | (refine GuardK_split ?_ ?_ <;> intro hc <;> (try simp only [hc]) <;> try simp at hc) | (with_reducible refine And.intro ?_ ?_; (focus ((repeat' (with_reducible refine And.intro ?_ ?_)) <;> first | exact trivial | assumption | (simp; done) | (simp only [List.length_map] at *; omega) | omega | (simp [D.cells, D.ok, D.one, D.pt, D.pt1]; done)))) | (with_reducible intro x hx) | omega) <;> (try simp only [row1_len, row2_len, row3_len, Qu.cells, Nat.reduceBEq, argEnv, reduceIte, Nat.reduceAdd, reduceCtorEq, binD, binInt, pickD, faddrD, lenD, loadD, D.cells, D.ok, D.one, D.pt1, D.pt0, D.norm1, cond_true, cond_false, ne_eq, view, view2, view1, view0, ofRes, fw]))
 all_goals (unfold Qu.great; rw [Bool.eq_iff_iff]; simp; omega)
def Po.great (s : Po) : Bool := s.qu.great || decide (80 < s.slots.length) || decide (300 < s.votes.length)
theorem greatPo_p (s : Po) : PureD Try.prog 40 [.agg s.row] (.bool s.great) := by
 refine pureV Try.func40 low40 (by simp [c40]) ?_
 simp only [c40, Po.row]
 have hq := greatQu_p s.qu
 simp only [Qu.cells] at hq
 repeat' ((first | apply Run_seq | apply Run_ret | apply Run_nil | apply Run_ops mixed | with_reducible refine PostV_open ?_ | with_reducible refine ro_callV ?_ | refine CallV_pure (hq) ?_ ?_ | (refine GuardK_split ?_ ?_ <;> intro hc <;> (try simp only [hc]) <;> try simp at hc) | (with_reducible refine And.intro ?_ ?_; (focus ((repeat' (with_reducible refine And.intro ?_ ?_)) <;> first | exact trivial | assumption | (simp; done) | (simp only [List.length_map] at *; omega) | omega | (simp [D.cells, D.ok, D.one, D.pt, D.pt1]; done)))) | (with_reducible intro x hx) | omega) <;> (try simp only [row1_len, row2_len, Nat.reduceBEq, argEnv, reduceIte, Nat.reduceAdd, Nat.reduceLeDiff, reduceCtorEq, binD, binInt, pickD, faddrD, lenD, loadD, D.cells, D.ok, D.one, D.pt, D.pt1, D.pt0, D.norm1, cond_true, cond_false, ne_eq, view, view2, view1, view0, mapO, D.sc, D.sc1, D.sc2, ofRes, fw]))
 all_goals (unfold Po.great; rw [Bool.eq_iff_iff]; simp [*]; try omega)
def St (t : Int) (us : List Us) (ps : List Po) (ds : List Dn) : D := .agg [.int .i64 t, L (rowsU us), L (rowsP ps), L (rowsD ds)]
def Us.great (u : Us) : Bool := u.se.great || decide (10 < u.evs.length) || u.evs.any fun e => e.ev.great
def greatSt (us : List Us) (ps : List Po) (ds : List Dn) : Bool := decide (12 < us.length) || decide (8 < ps.length) || decide (100 < ds.length) || us.any Us.great || ps.any Po.great
/-- Lengths that fit. -/
def Us.fits (u : Us) : Prop := u.evs.length ≤ 140737488351232
def fits (us : List Us) (ps : List Po) (ds : List Dn) : Prop := us.length ≤ 1407374883512 ∧ ps.length ≤ 1407374883512 ∧ ds.length ≤ 5864062014677 ∧ ∀ u ∈ us, u.fits
theorem any_drop {α : Type} {l : List α} {f : α → Bool} {i : Nat} {x : α} (h : l[i]? = some x) : (l.drop i).any f = (f x || (l.drop (i + 1)).any f) := by
 obtain ⟨hl, rfl⟩ := List.getElem?_eq_some_iff.1 h
 rw [List.drop_eq_getElem_cons hl, List.any_cons]
set_option maxHeartbeats 4000000 in
theorem greatSt_p (t : Int) (us : List Us) (ps : List Po) (ds : List Dn) (hf : fits us ps ds) : PureD Try.prog 20 [St t us ps ds] (.bool (greatSt us ps ds)) := by
 refine pureV Try.func20 low20 (by simp [c20]) ?_
 simp only [c20, St]
 obtain ⟨f1, f2, f3, f4⟩ := hf
 by_cases h0 : 12 < us.length ∨ 8 < ps.length ∨ 100 < ds.length
 ·have e : greatSt us ps ds = true := by
   unfold greatSt
   rcases h0 with h | h | h <;> simp [h]
  rw [e]
  by_cases h1 : 12 < us.length
  ·have c1 : ((us.length : Int) > 12) = True := by simp; omega
   repeat' ((first | apply Run_seq | apply Run_skip | apply Run_block | apply Run_blk | refine Run_exit rfl ?_ | apply Run_ret | apply Run_nil | apply Run_condK | apply Run_ops mixed | with_reducible refine PostV_open ?_ | with_reducible refine ro_callV ?_ | simp (disch := omega) only [w64, wu64, wu32, wu16, wu8, Int.tdiv_eq_ediv_of_nonneg, Int.tmod_eq_emod_of_nonneg] | ((first | refine GuardK_split ?_ ?_ | refine CondK_split ?_ ?_) <;> intro hc <;> (try simp only [hc]) <;> try simp at hc) | (with_reducible refine And.intro ?_ ?_; (focus ((repeat' (with_reducible refine And.intro ?_ ?_)) <;> first | exact trivial | assumption | (simp; done) | (simp only [List.length_map] at *; omega) | omega | (simp [D.cells, D.ok, D.one, D.pt, D.pt1]; done)))) | (with_reducible intro x hx) | omega) <;> (try simp only [rowsU_len, c1, Nat.reduceBEq, argEnv, reduceIte, Nat.reduceAdd, reduceCtorEq, binD, binInt, pickD, faddrD, lenD, loadD, D.cells, D.ok, D.one, D.pt1, D.pt0, D.norm1, cond_true, ne_eq, view, view2, view1, view0, ofRes, fw]))
  ·have c1 : ((us.length : Int) > 12) = False := by simp; omega
   by_cases h2 : 8 < ps.length
   ·have c2 : ((ps.length : Int) > 8) = True := by simp; omega
    repeat' ((first | apply Run_seq | apply Run_skip | apply Run_block | apply Run_blk | refine Run_exit rfl ?_ | apply Run_ret | apply Run_nil | apply Run_condK | apply Run_ops mixed | with_reducible refine PostV_open ?_ | with_reducible refine ro_callV ?_ | simp (disch := omega) only [w64, wu64, wu32, wu16, wu8, Int.tdiv_eq_ediv_of_nonneg, Int.tmod_eq_emod_of_nonneg] | ((first | refine GuardK_split ?_ ?_ | refine CondK_split ?_ ?_) <;> intro hc <;> (try simp only [hc]) <;> try simp at hc) | (with_reducible refine And.intro ?_ ?_; (focus ((repeat' (with_reducible refine And.intro ?_ ?_)) <;> first | exact trivial | assumption | (simp; done) | (simp only [List.length_map] at *; omega) | omega | (simp [D.cells, D.ok, D.one, D.pt, D.pt1]; done)))) | (with_reducible intro x hx) | omega) <;> (try simp only [rowsU_len, rowsP_len, c1, c2, Nat.reduceBEq, argEnv, reduceIte, Nat.reduceAdd, reduceCtorEq, binD, binInt, pickD, faddrD, lenD, loadD, D.cells, D.ok, D.one, D.pt1, D.pt0, D.norm1, cond_true, cond_false, ne_eq, view, view2, view1, view0, ofRes, fw]))
   ·have c2 : ((ps.length : Int) > 8) = False := by simp; omega
    have c3 : ((ds.length : Int) > 100) = True := by simp; omega
    repeat' ((first | apply Run_seq | apply Run_skip | apply Run_block | apply Run_blk | refine Run_exit rfl ?_ | apply Run_ret | apply Run_nil | apply Run_condK | apply Run_ops mixed | with_reducible refine PostV_open ?_ | with_reducible refine ro_callV ?_ | simp (disch := omega) only [w64, wu64, wu32, wu16, wu8, Int.tdiv_eq_ediv_of_nonneg, Int.tmod_eq_emod_of_nonneg] | ((first | refine GuardK_split ?_ ?_ | refine CondK_split ?_ ?_) <;> intro hc <;> (try simp only [hc]) <;> try simp at hc) | (with_reducible refine And.intro ?_ ?_; (focus ((repeat' (with_reducible refine And.intro ?_ ?_)) <;> first | exact trivial | assumption | (simp; done) | (simp only [List.length_map] at *; omega) | omega | (simp [D.cells, D.ok, D.one, D.pt, D.pt1]; done)))) | (with_reducible intro x hx) | omega) <;> (try simp only [rowsU_len, rowsP_len, rowsD_len, c1, c2, c3, Nat.reduceBEq, argEnv, reduceIte, Nat.reduceAdd, reduceCtorEq, binD, binInt, pickD, faddrD, lenD, loadD, D.cells, D.ok, D.one, D.pt1, D.pt0, D.norm1, cond_false, ne_eq, view, view2, view1, view0, ofRes, fw]))
 have c1 : ((us.length : Int) > 12) = False := by simp; omega
 have c2 : ((ps.length : Int) > 8) = False := by simp; omega
 have c3 : ((ds.length : Int) > 100) = False := by simp; omega
 have e : greatSt us ps ds = (us.any Us.great || ps.any Po.great) := by
  unfold greatSt
  have g1 : ¬ 12 < us.length := fun h => h0 (.inl h)
  have g2 : ¬ 8 < ps.length := fun h => h0 (.inr (.inl h))
  have g3 : ¬ 100 < ds.length := fun h => h0 (.inr (.inr h))
  simp [g1, g2, g3]
 rw [e]
 repeat' ((first | apply Run_seq | apply Run_skip | apply Run_block | apply Run_blk | refine Run_exit rfl ?_ | apply Run_ret | apply Run_nil | apply Run_condK | apply Run_ops mixed | with_reducible refine PostV_open ?_ | with_reducible refine ro_callV ?_ | simp (disch := omega) only [w64, wu64, wu32, wu16, wu8, Int.tdiv_eq_ediv_of_nonneg, Int.tmod_eq_emod_of_nonneg] | ((first | refine GuardK_split ?_ ?_ | refine CondK_split ?_ ?_) <;> intro hc <;> (try simp only [hc]) <;> try simp at hc) | (with_reducible refine And.intro ?_ ?_; (focus ((repeat' (with_reducible refine And.intro ?_ ?_)) <;> first | exact trivial | assumption | (simp; done) | (simp only [List.length_map] at *; omega) | omega | (simp [D.cells, D.ok, D.one, D.pt, D.pt1]; done)))) | (with_reducible intro x hx) | omega) <;> (try simp only [rowsU_len, rowsP_len, rowsD_len, c1, c2, c3, Nat.reduceBEq, argEnv, reduceIte, Nat.reduceAdd, reduceCtorEq, binD, binInt, pickD, faddrD, lenD, loadD, D.cells, D.ok, D.one, D.pt1, cond_false, ne_eq, fw]))
 refine Run_loop (ι := {i : Nat // i ≤ us.length ∧ us.any Us.great = (us.drop i).any Us.great}) (fun i => ([(1, .ptr 0 0 0 1), (25, .int .i64 us.length), (26, .int .i64 i.1)], [⟨true, false, true, false, 4, [[.int .i64 t, L (rowsU us), L (rowsP ps), L (rowsD ds)]], some 0⟩])) (fun i => us.length - i.1) ⟨0, by simp⟩ ?_ ?_
 ·refine Ent_gc [0] (by rfl) (by simp) (by simp [keptW, ObKW, ObW, imp_self, pullOb, or_false]) (by simp [lk_hit, lk_miss, D.pt0, viewS_own', pull, pull2, pull1, pull0, idx_hit, gate, List.mem_cons, or_false, view0])
 rintro ⟨i, hi, hg⟩ hk
 dsimp only at hk ⊢
 by_cases hlt : i < us.length
 ·have c4 : ((i : Int) < (us.length : Int)) = True := by simp; omega
  obtain ⟨u, hu⟩ : ∃ u, us[i]? = some u := ⟨_, List.getElem?_eq_getElem hlt⟩
  have hr := rowsU_get hu
  have had := any_drop (f := Us.great) hu
  have hse := greatSe_p u.se
  simp only [Se.cells] at hse
  have hfu : u.evs.length ≤ 140737488351232 := f4 u (List.mem_of_getElem? hu)
  by_cases hsg : u.se.great = true
  ·have e2 : us.any Us.great = true := by rw [hg, had]; simp [Us.great, hsg]
   rw [e2]
   repeat' ((first | apply Run_seq | apply Run_skip | apply Run_block | apply Run_blk | refine Run_exit rfl ?_ | apply Run_ret | apply Run_nil | apply Run_condK | apply Run_ops mixed | with_reducible refine PostV_open ?_ | with_reducible refine ro_callV ?_ | refine CallV_pure (hse) ?_ ?_ | simp (disch := omega) only [w64, wu64, wu32, wu16, wu8, Int.tdiv_eq_ediv_of_nonneg, Int.tmod_eq_emod_of_nonneg] | ((first | refine GuardK_split ?_ ?_ | refine CondK_split ?_ ?_) <;> intro hc <;> (try simp only [hc]) <;> try simp at hc) | (with_reducible refine And.intro ?_ ?_; (focus ((repeat' (with_reducible refine And.intro ?_ ?_)) <;> first | exact trivial | assumption | (simp; done) | (simp only [List.length_map] at *; omega) | omega | (simp [D.cells, D.ok, D.one, D.pt, D.pt1]; done)))) | (with_reducible intro x hx) | omega) <;> (try simp only [rowsU_len, c4, hr, hsg, Us.row, Nat.reduceBEq, reduceIte, Nat.reduceAdd, Nat.reduceLeDiff, reduceCtorEq, binD, binInt, pickD, faddrD, loadD, splice, D.cells, D.ok, D.one, D.pt, D.pt1, D.pt0, D.norm1, cond_true, ne_eq, view, view2, view1, view0, mapO, D.sc, D.sc1, D.sc2, ofRes, fw]))
   all_goals simp
  have hsg' : u.se.great = false := by simpa using hsg
  by_cases h10 : 10 < u.evs.length
  ·have e2 : us.any Us.great = true := by rw [hg, had]; simp [Us.great, h10]
   rw [e2]
   have c5 : ((u.evs.length : Int) > 10) = True := by simp; omega
   repeat' ((first | apply Run_seq | apply Run_skip | apply Run_block | apply Run_blk | refine Run_exit rfl ?_ | apply Run_ret | apply Run_nil | apply Run_condK | apply Run_ops mixed | with_reducible refine PostV_open ?_ | with_reducible refine ro_callV ?_ | refine CallV_pure (hse) ?_ ?_ | simp (disch := omega) only [w64, wu64, wu32, wu16, wu8, Int.tdiv_eq_ediv_of_nonneg, Int.tmod_eq_emod_of_nonneg] | ((first | refine GuardK_split ?_ ?_ | refine CondK_split ?_ ?_) <;> intro hc <;> (try simp only [hc]) <;> try simp at hc) | (with_reducible refine And.intro ?_ ?_; (focus ((repeat' (with_reducible refine And.intro ?_ ?_)) <;> first | exact trivial | assumption | (simp; done) | (simp only [List.length_map] at *; omega) | omega | (simp [D.cells, D.ok, D.one, D.pt, D.pt1]; done)))) | (with_reducible intro x hx) | omega) <;> (try simp only [rowsE_len, rowsU_len, c4, c5, hr, hsg', Us.row, Nat.reduceBEq, reduceIte, Nat.reduceAdd, Nat.reduceLeDiff, reduceCtorEq, binD, binInt, pickD, faddrD, lenD, loadD, splice, D.cells, D.ok, D.one, D.pt, D.pt1, D.pt0, D.norm1, cond_false, ne_eq, view, view2, view1, view0, mapO, D.sc, D.sc1, D.sc2, ofRes, fw]))
   all_goals simp
  have c5 : ((u.evs.length : Int) > 10) = False := by simp; omega
  repeat' ((first | apply Run_seq | apply Run_skip | apply Run_block | apply Run_blk | refine Run_exit rfl ?_ | apply Run_ret | apply Run_nil | apply Run_condK | apply Run_ops mixed | with_reducible refine PostV_open ?_ | with_reducible refine ro_callV ?_ | refine CallV_pure (hse) ?_ ?_ | simp (disch := omega) only [w64, wu64, wu32, wu16, wu8, Int.tdiv_eq_ediv_of_nonneg, Int.tmod_eq_emod_of_nonneg] | ((first | refine GuardK_split ?_ ?_ | refine CondK_split ?_ ?_) <;> intro hc <;> (try simp only [hc]) <;> try simp at hc) | (with_reducible refine And.intro ?_ ?_; (focus ((repeat' (with_reducible refine And.intro ?_ ?_)) <;> first | exact trivial | assumption | (simp; done) | (simp only [List.length_map] at *; omega) | omega | (simp [D.cells, D.ok, D.one, D.pt, D.pt1]; done)))) | (with_reducible intro x hx) | omega) <;> (try simp only [rowsE_len, rowsU_len, c4, c5, hr, hsg', Us.row, Nat.reduceBEq, reduceIte, Nat.reduceAdd, Nat.reduceLeDiff, reduceCtorEq, binD, binInt, pickD, faddrD, lenD, loadD, splice, D.cells, D.ok, D.one, D.pt, D.pt1, D.pt0, D.norm1, cond_false, ne_eq, view, view2, view1, view0, mapO, D.sc, D.sc1, D.sc2, fw]))
  refine Run_loop (ι := {j : Nat // j ≤ u.evs.length ∧ (u.evs.any fun e => e.ev.great) = (u.evs.drop j).any fun e => e.ev.great}) (fun j => ([(1, .ptr 0 0 0 1), (25, .int .i64 us.length), (26, .int .i64 i), (4, .ptr 1 0 0 1), (45, .int .i64 u.evs.length), (46, .int .i64 j.1)], [⟨true, false, true, false, 4, [[.int .i64 t, L (rowsU us), L (rowsP ps), L (rowsD ds)]], some 0⟩, ⟨true, false, true, false, 9, [u.row], some 0⟩])) (fun j => u.evs.length - j.1) ⟨0, by simp⟩ ?_ ?_
  ·simp only [Us.row]
   refine Ent_gc [0, 1] (by rfl) (by simp) (by simp [keptW, ObKW, ObW, imp_self, pullOb, or_false]) (by simp [lk_hit, lk_miss, D.pt0, viewS_own', pull, pull2, pull1, pull0, idx_hit, idx_miss, sucO_some, gate, List.mem_cons, or_false, view0])
  rintro ⟨j, hj, hgj⟩ hkj
  dsimp only at hkj ⊢
  by_cases hltj : j < u.evs.length
  ·have c6 : ((j : Int) < (u.evs.length : Int)) = True := by simp; omega
   obtain ⟨v, hv⟩ : ∃ v, u.evs[j]? = some v := ⟨_, List.getElem?_eq_getElem hltj⟩
   have hrv := rowsE_get hv
   have hadj := any_drop (f := fun e : En => e.ev.great) hv
   have hev := greatEv_p v.ev
   simp only [Ev.cells] at hev
   by_cases hvg : v.ev.great = true
   ·have e2 : us.any Us.great = true := by rw [hg, had]; simp [Us.great, hgj, hadj, hvg]
    rw [e2]
    repeat' ((first | apply Run_seq | apply Run_skip | apply Run_block | apply Run_blk | refine Run_exit rfl ?_ | apply Run_ret | apply Run_nil | apply Run_condK | apply Run_ops mixed | with_reducible refine PostV_open ?_ | with_reducible refine ro_callV ?_ | refine CallV_pure (hev) ?_ ?_ | simp (disch := omega) only [w64, wu64, wu32, wu16, wu8, Int.tdiv_eq_ediv_of_nonneg, Int.tmod_eq_emod_of_nonneg] | ((first | refine GuardK_split ?_ ?_ | refine CondK_split ?_ ?_) <;> intro hc <;> (try simp only [hc]) <;> try simp at hc) | (with_reducible refine And.intro ?_ ?_; (focus ((repeat' (with_reducible refine And.intro ?_ ?_)) <;> first | exact trivial | assumption | (simp; done) | (simp only [List.length_map] at *; omega) | omega | (simp [D.cells, D.ok, D.one, D.pt, D.pt1]; done)))) | (with_reducible intro x hx) | omega) <;> (try simp only [rowsE_len, c6, hrv, hvg, Us.row, En.row, Nat.reduceBEq, reduceIte, Nat.reduceAdd, binD, binInt, faddrD, loadD, D.pt, D.pt1, D.pt0, D.norm1, view, view2, view1, view0, mapO, D.sc, D.sc1, D.sc2, ofRes, fw]))
    all_goals simp
   have hvg' : v.ev.great = false := by simpa using hvg
   repeat' ((first | apply Run_seq | apply Run_skip | apply Run_block | apply Run_blk | refine Run_exit rfl ?_ | apply Run_ret | apply Run_nil | apply Run_condK | apply Run_ops mixed | with_reducible refine PostV_open ?_ | with_reducible refine ro_callV ?_ | refine CallV_pure (hev) ?_ ?_ | simp (disch := omega) only [w64] | ((first | refine GuardK_split ?_ ?_ | refine CondK_split ?_ ?_) <;> intro hc <;> (try simp only [hc]) <;> try simp at hc) | (with_reducible refine And.intro ?_ ?_; (focus ((repeat' (with_reducible refine And.intro ?_ ?_)) <;> first | exact trivial | assumption | (simp; done) | (simp only [List.length_map] at *; omega) | omega | (simp [D.cells, D.ok, D.one, D.pt, D.pt1]; done)))) | (with_reducible intro x hx) | omega) <;> (try simp only [rowsE_len, c6, hrv, hvg', Us.row, En.row, Nat.reduceBEq, reduceIte, Nat.reduceAdd, binD, binInt, faddrD, loadD, D.pt, D.pt1, D.pt0, D.norm1, view, view2, view1, view0, mapO, D.sc, D.sc1, D.sc2, fw]))
   refine hkj ⟨j + 1, by omega, by rw [hgj, hadj]; simp [hvg']⟩ _ _ (by dsimp only; omega) ?_
   dsimp only [Us.row]
   refine Ent_gc [0, 1] (by rfl) (by simp) (by simp [keptW, ObKW, ObW, imp_self, pullOb, or_false]) (by simp [lk_hit, lk_miss, D.pt0, viewS_own', pull, pull2, pull1, pull0, idx_hit, idx_miss, sucO_some, gate, List.mem_cons, or_false, view0])
  ·have c6 : ((j : Int) < (u.evs.length : Int)) = False := by simp; omega
   repeat' ((first | apply Run_seq | apply Run_skip | apply Run_block | apply Run_blk | refine Run_exit rfl ?_ | apply Run_ret | apply Run_nil | apply Run_condK | apply Run_ops mixed | with_reducible refine PostV_open ?_ | with_reducible refine ro_callV ?_ | simp (disch := omega) only [w64] | ((first | refine GuardK_split ?_ ?_ | refine CondK_split ?_ ?_) <;> intro hc <;> (try simp only [hc]) <;> try simp at hc) | (with_reducible refine And.intro ?_ ?_; (focus ((repeat' (with_reducible refine And.intro ?_ ?_)) <;> first | exact trivial | assumption | (simp; done) | (simp only [List.length_map] at *; omega) | omega | (simp [D.cells, D.ok, D.one, D.pt, D.pt1]; done)))) | (with_reducible intro x hx) | omega) <;> (try simp only [c6, Us.row, Nat.reduceBEq, reduceIte, binD, binInt, fw]))
   refine hk ⟨i + 1, by omega, ?_⟩ _ _ (by dsimp only; omega) ?_
   ·rw [hg, had]
    have : u.great = false := by
     unfold Us.great; rw [hgj, List.drop_eq_nil_of_le (by omega)]; simp [hsg', h10]
    rw [this]; rfl
   dsimp only
   refine Ent_gc [0] (by rfl) (by simp) (by simp [keptW, ObKW, ObW, imp_self, pullOb, or_false]) (by simp [lk_hit, lk_miss, D.pt0, viewS_own', pull, pull2, pull1, pull0, idx_hit, gate, List.mem_cons, or_false, view0])
 ·have c4 : ((i : Int) < (us.length : Int)) = False := by simp; omega
  have e3 : us.any Us.great = false := by rw [hg, List.drop_eq_nil_of_le (by omega)]; rfl
  rw [e3, Bool.false_or]
  clear hk hg e e3
  repeat' ((first | apply Run_seq | apply Run_skip | apply Run_block | apply Run_blk | refine Run_exit rfl ?_ | apply Run_ret | apply Run_nil | apply Run_condK | apply Run_ops mixed | with_reducible refine PostV_open ?_ | with_reducible refine ro_callV ?_ | simp (disch := omega) only [w64, wu64, wu32, wu16, wu8, Int.tdiv_eq_ediv_of_nonneg, Int.tmod_eq_emod_of_nonneg] | ((first | refine GuardK_split ?_ ?_ | refine CondK_split ?_ ?_) <;> intro hc <;> (try simp only [hc]) <;> try simp at hc) | (with_reducible refine And.intro ?_ ?_; (focus ((repeat' (with_reducible refine And.intro ?_ ?_)) <;> first | exact trivial | assumption | (simp; done) | (simp only [List.length_map] at *; omega) | omega | (simp [D.cells, D.ok, D.one, D.pt, D.pt1]; done)))) | (with_reducible intro x hx) | omega) <;> (try simp only [rowsP_len, c4, Nat.reduceBEq, reduceIte, binD, binInt, faddrD, lenD, loadD, fw]))
  refine Run_loop (ι := {j : Nat // j ≤ ps.length ∧ ps.any Po.great = (ps.drop j).any Po.great}) (fun j => ([(1, .ptr 0 0 0 1), (60, .int .i64 ps.length), (61, .int .i64 j.1)], [⟨true, false, true, false, 4, [[.int .i64 t, L (rowsU us), L (rowsP ps), L (rowsD ds)]], some 0⟩])) (fun j => ps.length - j.1) ⟨0, by simp⟩ ?_ ?_
  ·refine Ent_gc [0] (by rfl) (by simp) (by simp [keptW, ObKW, ObW, imp_self, pullOb, or_false]) (by simp [lk_hit, lk_miss, D.pt0, viewS_own', pull, pull2, pull1, pull0, idx_hit, gate, List.mem_cons, or_false, view0])
  rintro ⟨j, hj, hgj⟩ hkj
  dsimp only at hkj ⊢
  by_cases hltj : j < ps.length
  ·have c6 : ((j : Int) < (ps.length : Int)) = True := by simp; omega
   obtain ⟨v, hv⟩ : ∃ v, ps[j]? = some v := ⟨_, List.getElem?_eq_getElem hltj⟩
   have hrv := rowsP_get hv
   have hadj := any_drop (f := Po.great) hv
   have hpo := greatPo_p v
   simp only [Po.row] at hpo
   by_cases hvg : v.great = true
   ·have e2 : ps.any Po.great = true := by rw [hgj, hadj]; simp [hvg]
    rw [e2]
    repeat' ((first | apply Run_seq | apply Run_skip | apply Run_block | apply Run_blk | refine Run_exit rfl ?_ | apply Run_ret | apply Run_nil | apply Run_condK | apply Run_ops mixed | with_reducible refine PostV_open ?_ | with_reducible refine ro_callV ?_ | refine CallV_pure (hpo) ?_ ?_ | simp (disch := omega) only [w64, wu64, wu32, wu16, wu8, Int.tdiv_eq_ediv_of_nonneg, Int.tmod_eq_emod_of_nonneg] | ((first | refine GuardK_split ?_ ?_ | refine CondK_split ?_ ?_) <;> intro hc <;> (try simp only [hc]) <;> try simp at hc) | (with_reducible refine And.intro ?_ ?_; (focus ((repeat' (with_reducible refine And.intro ?_ ?_)) <;> first | exact trivial | assumption | (simp; done) | (simp only [List.length_map] at *; omega) | omega | (simp [D.cells, D.ok, D.one, D.pt, D.pt1]; done)))) | (with_reducible intro x hx) | omega) <;> (try simp only [rowsP_len, c6, hrv, hvg, Po.row, Nat.reduceBEq, reduceIte, Nat.reduceAdd, binD, binInt, faddrD, loadD, D.pt, D.pt1, D.pt0, D.norm1, view, view2, view1, view0, mapO, D.sc, D.sc1, D.sc2, ofRes, fw]))
   have hvg' : v.great = false := by simpa using hvg
   repeat' ((first | apply Run_seq | apply Run_skip | apply Run_block | apply Run_blk | refine Run_exit rfl ?_ | apply Run_ret | apply Run_nil | apply Run_condK | apply Run_ops mixed | with_reducible refine PostV_open ?_ | with_reducible refine ro_callV ?_ | refine CallV_pure (hpo) ?_ ?_ | simp (disch := omega) only [w64] | ((first | refine GuardK_split ?_ ?_ | refine CondK_split ?_ ?_) <;> intro hc <;> (try simp only [hc]) <;> try simp at hc) | (with_reducible refine And.intro ?_ ?_; (focus ((repeat' (with_reducible refine And.intro ?_ ?_)) <;> first | exact trivial | assumption | (simp; done) | (simp only [List.length_map] at *; omega) | omega | (simp [D.cells, D.ok, D.one, D.pt, D.pt1]; done)))) | (with_reducible intro x hx) | omega) <;> (try simp only [rowsP_len, c6, hrv, hvg', Po.row, Nat.reduceBEq, reduceIte, Nat.reduceAdd, binD, binInt, faddrD, loadD, D.pt, D.pt1, D.pt0, D.norm1, view, view2, view1, view0, mapO, D.sc, D.sc1, D.sc2, fw]))
   refine hkj ⟨j + 1, by omega, by rw [hgj, hadj]; simp [hvg']⟩ _ _ (by dsimp only; omega) ?_
   dsimp only
   refine Ent_gc [0] (by rfl) (by simp) (by simp [keptW, ObKW, ObW, imp_self, pullOb, or_false]) (by simp [lk_hit, lk_miss, D.pt0, viewS_own', pull, pull2, pull1, pull0, idx_hit, gate, List.mem_cons, or_false, view0])
  ·have c6 : ((j : Int) < (ps.length : Int)) = False := by simp; omega
   have e3 : ps.any Po.great = false := by rw [hgj, List.drop_eq_nil_of_le (by omega)]; rfl
   rw [e3]
   repeat' ((first | apply Run_seq | apply Run_skip | apply Run_block | apply Run_blk | refine Run_exit rfl ?_ | apply Run_ret | apply Run_nil | apply Run_condK | apply Run_ops mixed | with_reducible refine PostV_open ?_ | with_reducible refine ro_callV ?_ | simp (disch := omega) only [w64, wu64, wu32, wu16, wu8, Int.tdiv_eq_ediv_of_nonneg, Int.tmod_eq_emod_of_nonneg] | ((first | refine GuardK_split ?_ ?_ | refine CondK_split ?_ ?_) <;> intro hc <;> (try simp only [hc]) <;> try simp at hc) | (with_reducible refine And.intro ?_ ?_; (focus ((repeat' (with_reducible refine And.intro ?_ ?_)) <;> first | exact trivial | assumption | (simp; done) | (simp only [List.length_map] at *; omega) | omega | (simp [D.cells, D.ok, D.one, D.pt, D.pt1]; done)))) | (with_reducible intro x hx) | omega) <;> (try simp only [c6, Nat.reduceBEq, reduceIte, binD, binInt, D.pt0, D.norm1, view, view2, view1, view0, ofRes, fw]))
end Go.Proofs.Ytoleaiaeghbffaa

namespace Go.Proofs.Ytoleaiaeghbffaa
open Go Go.Vi


theorem b2 {x y : Int × Int} : ((x.1 == y.1) && (x.2 == y.2)) = decide (x = y) := by
 rw [Bool.eq_iff_iff]; simp [Prod.ext_iff]
theorem b3 {x y : Int × Int × Int} : ((x.1 == y.1) && ((x.2.1 == y.2.1) && (x.2.2 == y.2.2))) = decide (x = y) := by
 rw [Bool.eq_iff_iff]; simp [Prod.ext_iff]
theorem eq_end {α : Type} [DecidableEq α] {a b : List α} {i : Nat} (h : a.take i = b.take i) (hi : ¬ i < a.length) (hl : a.length = b.length) : decide (a = b) = true := by
 rw [List.take_of_length_le (by omega), List.take_of_length_le (by omega)] at h
 simpa using h
theorem eq_step {α : Type} {a b : List α} {i : Nat} {x y : α} (h : a.take i = b.take i) (hx : a[i]? = some x) (hy : b[i]? = some y) (hxy : x = y) : a.take (i + 1) = b.take (i + 1) := by
 rw [List.take_add_one, List.take_add_one, h, hx, hy, hxy]
theorem eq_no {α : Type} [DecidableEq α] {a b : List α} {i : Nat} {x y : α} (hx : a[i]? = some x) (hy : b[i]? = some y) (hxy : ¬ x = y) : decide (a = b) = false := by
 simp only [decide_eq_false_iff_not]
 rintro rfl
 rw [hx] at hy
 exact hxy (by simpa using hy)
theorem eq_len {α : Type} [DecidableEq α] {a b : List α} (h : ¬ a.length = b.length) : decide (a = b) = false := by
 simp only [decide_eq_false_iff_not]
 rintro rfl
 exact h rfl
theorem lenB {a b : Nat} (h : ¬ a = b) : ((a : Int) == (b : Int)) = false := by simp; omega
theorem longs_p (a b : List Int) (ha : a.length ≤ 140737488351232) (hb : b.length ≤ 140737488351232) : PureD Try.prog 43 [L (row1 .i64 a), L (row1 .i64 b)] (.bool (decide (a = b))) := by
 refine pureV Try.func43 low43 (by simp [c43]) ?_
 simp only [c43]
 by_cases hl : ¬ a.length = b.length
 ·have c1 := lenB hl
  rw [eq_len hl]
  repeat' ((first | apply Run_seq | apply Run_skip | apply Run_block | apply Run_blk | refine Run_exit rfl ?_ | apply Run_ret | apply Run_nil | apply Run_condK | apply Run_ops mixed | apply Run_opsX mixed | with_reducible refine PostV_open ?_ | simp (disch := omega) only [w64, wu64, wu32, wu16, wu8, Int.tdiv_eq_ediv_of_nonneg, Int.tmod_eq_emod_of_nonneg] | (refine CondK_split ?_ ?_ <;> intro hc <;> (try simp only [hc]) <;> try simp at hc) | (with_reducible refine And.intro ?_ ?_; (focus ((repeat' (with_reducible refine And.intro ?_ ?_)) <;> first | exact trivial | assumption | (simp; done) | (simp only [List.length_map] at *; omega) | omega | (simp [D.cells, D.ok, D.one, D.pt, D.pt1]; done)))) | (with_reducible intro x hx) | omega) <;> (try simp only [row1_len, Nat.reduceBEq, argEnv, reduceIte, binD, binInt, lenD, D.pt0, D.norm1, view, view2, view1, view0, ofRes, fw]))
 have hl : a.length = b.length := by omega
 have c1 : ((a.length : Int) == (b.length : Int)) = true := by simp [hl]
 repeat' ((first | apply Run_seq | apply Run_skip | apply Run_block | apply Run_blk | refine Run_exit rfl ?_ | apply Run_ret | apply Run_nil | apply Run_condK | apply Run_ops mixed | apply Run_opsX mixed | with_reducible refine PostV_open ?_ | simp (disch := omega) only [w64, wu64, wu32, wu16, wu8, Int.tdiv_eq_ediv_of_nonneg, Int.tmod_eq_emod_of_nonneg] | (refine CondK_split ?_ ?_ <;> intro hc <;> (try simp only [hc]) <;> try simp at hc) | (with_reducible refine And.intro ?_ ?_; (focus ((repeat' (with_reducible refine And.intro ?_ ?_)) <;> first | exact trivial | assumption | (simp; done) | (simp only [List.length_map] at *; omega) | omega | (simp [D.cells, D.ok, D.one, D.pt, D.pt1]; done)))) | (with_reducible intro x hx) | omega) <;> (try simp only [row1_len, Nat.reduceBEq, argEnv, reduceIte, binD, binInt, lenD, D.pt0, D.norm1, view, view2, view1, view0, ofRes, fw]))
 refine Run_loop (ι := {i : Nat // i ≤ a.length ∧ a.take i = b.take i}) (fun i => ([(0, L (row1 .i64 a)), (1, L (row1 .i64 b)), (12, .int .i64 a.length), (13, .int .i64 i.1)], [])) (fun i => a.length - i.1) ⟨0, by simp⟩ ?_ ?_
 ·refine Ent_gc [] (by rfl) (by simp) (by simp [keptW]) (by simp [lk_hit, lk_miss, D.pt0, viewS_own', pull, pull2, pull1, pull0, idx_nil, gate, List.mem_cons, or_false, view0])
 rintro ⟨i, hi, ht⟩ hk
 dsimp only at hk ⊢
 by_cases hlt : i < a.length
 ·have c2 : ((i : Int) < (a.length : Int)) = True := by simp; omega
  obtain ⟨x, hx⟩ : ∃ x, a[i]? = some x := ⟨_, List.getElem?_eq_getElem hlt⟩
  obtain ⟨y, hy⟩ : ∃ y, b[i]? = some y := ⟨_, List.getElem?_eq_getElem (by omega)⟩
  have rx := row1_get (k := .i64) hx
  have ry := row1_get (k := .i64) hy
  by_cases hxy : x = y
  ·have c3 : (x == y) = true := by simpa using hxy
   repeat' ((first | apply Run_seq | apply Run_skip | apply Run_block | apply Run_blk | refine Run_exit rfl ?_ | apply Run_ret | apply Run_nil | apply Run_condK | apply Run_ops mixed | apply Run_opsX mixed | with_reducible refine PostV_open ?_ | simp (disch := omega) only [w64] | (refine CondK_split ?_ ?_ <;> intro hc <;> (try simp only [hc]) <;> try simp at hc) | (with_reducible refine And.intro ?_ ?_; (focus ((repeat' (with_reducible refine And.intro ?_ ?_)) <;> first | exact trivial | assumption | (simp; done) | (simp only [List.length_map] at *; omega) | omega | (simp [D.cells, D.ok, D.one, D.pt, D.pt1]; done)))) | (with_reducible intro x hx) | omega) <;> (try simp only [row1_len, c2, rx, ry, Nat.reduceBEq, reduceIte, binD, binInt, binStr, loadD, D.pt0, D.norm1, view, view2, view1, view0, ofRes, fw]))
   refine hk ⟨i + 1, by omega, eq_step ht hx hy hxy⟩ _ _ (by dsimp only; omega) ?_
   dsimp only
   refine Ent_gc [] (by rfl) (by simp) (by simp [keptW]) (by simp [lk_hit, lk_miss, D.pt0, viewS_own', pull, pull2, pull1, pull0, idx_nil, gate, List.mem_cons, or_false, view0])
  ·have c3 : (x == y) = false := by simpa using hxy
   rw [eq_no hx hy hxy]
   repeat' ((first | apply Run_seq | apply Run_skip | apply Run_block | apply Run_blk | refine Run_exit rfl ?_ | apply Run_ret | apply Run_nil | apply Run_condK | apply Run_ops mixed | apply Run_opsX mixed | with_reducible refine PostV_open ?_ | simp (disch := omega) only [w64] | (refine CondK_split ?_ ?_ <;> intro hc <;> (try simp only [hc]) <;> try simp at hc) | (with_reducible refine And.intro ?_ ?_; (focus ((repeat' (with_reducible refine And.intro ?_ ?_)) <;> first | exact trivial | assumption | (simp; done) | (simp only [List.length_map] at *; omega) | omega | (simp [D.cells, D.ok, D.one, D.pt, D.pt1]; done)))) | (with_reducible intro x hx) | omega) <;> (try simp only [row1_len, c2, rx, ry, Nat.reduceBEq, reduceIte, binD, binInt, binStr, loadD, D.pt0, D.norm1, view, view2, view1, view0, ofRes, fw]))
 ·have c2 : ((i : Int) < (a.length : Int)) = False := by simp; omega
  rw [eq_end ht hlt hl]
  repeat' ((first | apply Run_seq | apply Run_skip | apply Run_block | apply Run_blk | refine Run_exit rfl ?_ | apply Run_ret | apply Run_nil | apply Run_condK | apply Run_ops mixed | apply Run_opsX mixed | with_reducible refine PostV_open ?_ | simp (disch := omega) only [w64, wu64, wu32, wu16, wu8, Int.tdiv_eq_ediv_of_nonneg, Int.tmod_eq_emod_of_nonneg] | (refine CondK_split ?_ ?_ <;> intro hc <;> (try simp only [hc]) <;> try simp at hc) | (with_reducible refine And.intro ?_ ?_; (focus ((repeat' (with_reducible refine And.intro ?_ ?_)) <;> first | exact trivial | assumption | (simp; done) | (simp only [List.length_map] at *; omega) | omega | (simp [D.cells, D.ok, D.one, D.pt, D.pt1]; done)))) | (with_reducible intro x hx) | omega) <;> (try simp only [c2, Nat.reduceBEq, reduceIte, binD, binInt, D.pt0, D.norm1, view, view2, view1, view0, ofRes, fw]))
theorem ints_p (a b : List Int) (ha : a.length ≤ 140737488351232) (hb : b.length ≤ 140737488351232) : PureD Try.prog 64 [L (row1 .i64 a), L (row1 .i64 b)] (.bool (decide (a = b))) := by
 refine pureV Try.func64 low64 (by simp [c64]) ?_
 simp only [c64]
 by_cases hl : ¬ a.length = b.length
 ·have c1 := lenB hl
  rw [eq_len hl]
  repeat' ((first | apply Run_seq | apply Run_skip | apply Run_block | apply Run_blk | refine Run_exit rfl ?_ | apply Run_ret | apply Run_nil | apply Run_condK | apply Run_ops mixed | apply Run_opsX mixed | with_reducible refine PostV_open ?_ | simp (disch := omega) only [w64, wu64, wu32, wu16, wu8, Int.tdiv_eq_ediv_of_nonneg, Int.tmod_eq_emod_of_nonneg] | (refine CondK_split ?_ ?_ <;> intro hc <;> (try simp only [hc]) <;> try simp at hc) | (with_reducible refine And.intro ?_ ?_; (focus ((repeat' (with_reducible refine And.intro ?_ ?_)) <;> first | exact trivial | assumption | (simp; done) | (simp only [List.length_map] at *; omega) | omega | (simp [D.cells, D.ok, D.one, D.pt, D.pt1]; done)))) | (with_reducible intro x hx) | omega) <;> (try simp only [row1_len, Nat.reduceBEq, argEnv, reduceIte, binD, binInt, lenD, D.pt0, D.norm1, view, view2, view1, view0, ofRes, fw]))
 have hl : a.length = b.length := by omega
 have c1 : ((a.length : Int) == (b.length : Int)) = true := by simp [hl]
 repeat' ((first | apply Run_seq | apply Run_skip | apply Run_block | apply Run_blk | refine Run_exit rfl ?_ | apply Run_ret | apply Run_nil | apply Run_condK | apply Run_ops mixed | apply Run_opsX mixed | with_reducible refine PostV_open ?_ | simp (disch := omega) only [w64, wu64, wu32, wu16, wu8, Int.tdiv_eq_ediv_of_nonneg, Int.tmod_eq_emod_of_nonneg] | (refine CondK_split ?_ ?_ <;> intro hc <;> (try simp only [hc]) <;> try simp at hc) | (with_reducible refine And.intro ?_ ?_; (focus ((repeat' (with_reducible refine And.intro ?_ ?_)) <;> first | exact trivial | assumption | (simp; done) | (simp only [List.length_map] at *; omega) | omega | (simp [D.cells, D.ok, D.one, D.pt, D.pt1]; done)))) | (with_reducible intro x hx) | omega) <;> (try simp only [row1_len, Nat.reduceBEq, argEnv, reduceIte, binD, binInt, lenD, D.pt0, D.norm1, view, view2, view1, view0, ofRes, fw]))
 refine Run_loop (ι := {i : Nat // i ≤ a.length ∧ a.take i = b.take i}) (fun i => ([(0, L (row1 .i64 a)), (1, L (row1 .i64 b)), (12, .int .i64 a.length), (13, .int .i64 i.1)], [])) (fun i => a.length - i.1) ⟨0, by simp⟩ ?_ ?_
 ·refine Ent_gc [] (by rfl) (by simp) (by simp [keptW]) (by simp [lk_hit, lk_miss, D.pt0, viewS_own', pull, pull2, pull1, pull0, idx_nil, gate, List.mem_cons, or_false, view0])
 rintro ⟨i, hi, ht⟩ hk
 dsimp only at hk ⊢
 by_cases hlt : i < a.length
 ·have c2 : ((i : Int) < (a.length : Int)) = True := by simp; omega
  obtain ⟨x, hx⟩ : ∃ x, a[i]? = some x := ⟨_, List.getElem?_eq_getElem hlt⟩
  obtain ⟨y, hy⟩ : ∃ y, b[i]? = some y := ⟨_, List.getElem?_eq_getElem (by omega)⟩
  have rx := row1_get (k := .i64) hx
  have ry := row1_get (k := .i64) hy
  by_cases hxy : x = y
  ·have c3 : (x == y) = true := by simpa using hxy
   repeat' ((first | apply Run_seq | apply Run_skip | apply Run_block | apply Run_blk | refine Run_exit rfl ?_ | apply Run_ret | apply Run_nil | apply Run_condK | apply Run_ops mixed | apply Run_opsX mixed | with_reducible refine PostV_open ?_ | simp (disch := omega) only [w64] | (refine CondK_split ?_ ?_ <;> intro hc <;> (try simp only [hc]) <;> try simp at hc) | (with_reducible refine And.intro ?_ ?_; (focus ((repeat' (with_reducible refine And.intro ?_ ?_)) <;> first | exact trivial | assumption | (simp; done) | (simp only [List.length_map] at *; omega) | omega | (simp [D.cells, D.ok, D.one, D.pt, D.pt1]; done)))) | (with_reducible intro x hx) | omega) <;> (try simp only [row1_len, c2, rx, ry, Nat.reduceBEq, reduceIte, binD, binInt, binStr, loadD, D.pt0, D.norm1, view, view2, view1, view0, ofRes, fw]))
   refine hk ⟨i + 1, by omega, eq_step ht hx hy hxy⟩ _ _ (by dsimp only; omega) ?_
   dsimp only
   refine Ent_gc [] (by rfl) (by simp) (by simp [keptW]) (by simp [lk_hit, lk_miss, D.pt0, viewS_own', pull, pull2, pull1, pull0, idx_nil, gate, List.mem_cons, or_false, view0])
  ·have c3 : (x == y) = false := by simpa using hxy
   rw [eq_no hx hy hxy]
   repeat' ((first | apply Run_seq | apply Run_skip | apply Run_block | apply Run_blk | refine Run_exit rfl ?_ | apply Run_ret | apply Run_nil | apply Run_condK | apply Run_ops mixed | apply Run_opsX mixed | with_reducible refine PostV_open ?_ | simp (disch := omega) only [w64] | (refine CondK_split ?_ ?_ <;> intro hc <;> (try simp only [hc]) <;> try simp at hc) | (with_reducible refine And.intro ?_ ?_; (focus ((repeat' (with_reducible refine And.intro ?_ ?_)) <;> first | exact trivial | assumption | (simp; done) | (simp only [List.length_map] at *; omega) | omega | (simp [D.cells, D.ok, D.one, D.pt, D.pt1]; done)))) | (with_reducible intro x hx) | omega) <;> (try simp only [row1_len, c2, rx, ry, Nat.reduceBEq, reduceIte, binD, binInt, binStr, loadD, D.pt0, D.norm1, view, view2, view1, view0, ofRes, fw]))
 ·have c2 : ((i : Int) < (a.length : Int)) = False := by simp; omega
  rw [eq_end ht hlt hl]
  repeat' ((first | apply Run_seq | apply Run_skip | apply Run_block | apply Run_blk | refine Run_exit rfl ?_ | apply Run_ret | apply Run_nil | apply Run_condK | apply Run_ops mixed | apply Run_opsX mixed | with_reducible refine PostV_open ?_ | simp (disch := omega) only [w64, wu64, wu32, wu16, wu8, Int.tdiv_eq_ediv_of_nonneg, Int.tmod_eq_emod_of_nonneg] | (refine CondK_split ?_ ?_ <;> intro hc <;> (try simp only [hc]) <;> try simp at hc) | (with_reducible refine And.intro ?_ ?_; (focus ((repeat' (with_reducible refine And.intro ?_ ?_)) <;> first | exact trivial | assumption | (simp; done) | (simp only [List.length_map] at *; omega) | omega | (simp [D.cells, D.ok, D.one, D.pt, D.pt1]; done)))) | (with_reducible intro x hx) | omega) <;> (try simp only [c2, Nat.reduceBEq, reduceIte, binD, binInt, D.pt0, D.norm1, view, view2, view1, view0, ofRes, fw]))
theorem shifts_p (a b : List (Int × Int × Int)) (ha : a.length ≤ 140737488351232) (hb : b.length ≤ 140737488351232) : PureD Try.prog 63 [L (row3 a), L (row3 b)] (.bool (decide (a = b))) := by
 refine pureV Try.func63 low63 (by simp [c63]) ?_
 simp only [c63]
 by_cases hl : ¬ a.length = b.length
 ·have c1 := lenB hl
  rw [eq_len hl]
  repeat' ((first | apply Run_seq | apply Run_skip | apply Run_block | apply Run_blk | refine Run_exit rfl ?_ | apply Run_ret | apply Run_nil | apply Run_condK | apply Run_ops mixed | apply Run_opsX mixed | with_reducible refine PostV_open ?_ | simp (disch := omega) only [w64, wu64, wu32, wu16, wu8, Int.tdiv_eq_ediv_of_nonneg, Int.tmod_eq_emod_of_nonneg] | (refine CondK_split ?_ ?_ <;> intro hc <;> (try simp only [hc]) <;> try simp at hc) | (with_reducible refine And.intro ?_ ?_; (focus ((repeat' (with_reducible refine And.intro ?_ ?_)) <;> first | exact trivial | assumption | (simp; done) | (simp only [List.length_map] at *; omega) | omega | (simp [D.cells, D.ok, D.one, D.pt, D.pt1]; done)))) | (with_reducible intro x hx) | omega) <;> (try simp only [row3_len, Nat.reduceBEq, argEnv, reduceIte, binD, binInt, lenD, D.pt0, D.norm1, view, view2, view1, view0, ofRes, fw]))
 have hl : a.length = b.length := by omega
 have c1 : ((a.length : Int) == (b.length : Int)) = true := by simp [hl]
 repeat' ((first | apply Run_seq | apply Run_skip | apply Run_block | apply Run_blk | refine Run_exit rfl ?_ | apply Run_ret | apply Run_nil | apply Run_condK | apply Run_ops mixed | apply Run_opsX mixed | with_reducible refine PostV_open ?_ | simp (disch := omega) only [w64, wu64, wu32, wu16, wu8, Int.tdiv_eq_ediv_of_nonneg, Int.tmod_eq_emod_of_nonneg] | (refine CondK_split ?_ ?_ <;> intro hc <;> (try simp only [hc]) <;> try simp at hc) | (with_reducible refine And.intro ?_ ?_; (focus ((repeat' (with_reducible refine And.intro ?_ ?_)) <;> first | exact trivial | assumption | (simp; done) | (simp only [List.length_map] at *; omega) | omega | (simp [D.cells, D.ok, D.one, D.pt, D.pt1]; done)))) | (with_reducible intro x hx) | omega) <;> (try simp only [row3_len, Nat.reduceBEq, argEnv, reduceIte, binD, binInt, lenD, D.pt0, D.norm1, view, view2, view1, view0, ofRes, fw]))
 refine Run_loop (ι := {i : Nat // i ≤ a.length ∧ a.take i = b.take i}) (fun i => ([(0, L (row3 a)), (1, L (row3 b)), (12, .int .i64 a.length), (13, .int .i64 i.1)], [])) (fun i => a.length - i.1) ⟨0, by simp⟩ ?_ ?_
 ·refine Ent_gc [] (by rfl) (by simp) (by simp [keptW]) (by simp [lk_hit, lk_miss, D.pt0, viewS_own', pull, pull2, pull1, pull0, idx_nil, gate, List.mem_cons, or_false, view0])
 rintro ⟨i, hi, ht⟩ hk
 dsimp only at hk ⊢
 by_cases hlt : i < a.length
 ·have c2 : ((i : Int) < (a.length : Int)) = True := by simp; omega
  obtain ⟨x, hx⟩ : ∃ x, a[i]? = some x := ⟨_, List.getElem?_eq_getElem hlt⟩
  obtain ⟨y, hy⟩ : ∃ y, b[i]? = some y := ⟨_, List.getElem?_eq_getElem (by omega)⟩
  have rx := row3_get hx
  have ry := row3_get hy
  have e3 := b3 (x := x) (y := y)
  by_cases hxy : x = y
  ·have c3 : decide (x = y) = true := by simpa using hxy
   repeat' ((first | apply Run_seq | apply Run_skip | apply Run_block | apply Run_blk | refine Run_exit rfl ?_ | apply Run_ret | apply Run_nil | apply Run_condK | apply Run_ops mixed | apply Run_opsX mixed | with_reducible refine PostV_open ?_ | simp (disch := omega) only [w64] | (refine CondK_split ?_ ?_ <;> intro hc <;> (try simp only [hc]) <;> try simp at hc) | (with_reducible refine And.intro ?_ ?_; (focus ((repeat' (with_reducible refine And.intro ?_ ?_)) <;> first | exact trivial | assumption | (simp; done) | (simp only [List.length_map] at *; omega) | omega | (simp [D.cells, D.ok, D.one, D.pt, D.pt1]; done)))) | (with_reducible intro x hx) | omega) <;> (try simp only [row3_len, c2, e3, c3, rx, ry, Nat.reduceBEq, reduceIte, Nat.reduceAdd, binD, binInt, eqD, eqCell, eqCells, eqN, boolD, loadD, cond_true, fw]))
   refine hk ⟨i + 1, by omega, eq_step ht hx hy hxy⟩ _ _ (by dsimp only; omega) ?_
   dsimp only
   refine Ent_gc [] (by rfl) (by simp) (by simp [keptW]) (by simp [lk_hit, lk_miss, D.pt0, viewS_own', pull, pull2, pull1, pull0, idx_nil, gate, List.mem_cons, or_false, view0])
  ·have c3 : decide (x = y) = false := by simpa using hxy
   rw [eq_no hx hy hxy]
   repeat' ((first | apply Run_seq | apply Run_skip | apply Run_block | apply Run_blk | refine Run_exit rfl ?_ | apply Run_ret | apply Run_nil | apply Run_condK | apply Run_ops mixed | apply Run_opsX mixed | with_reducible refine PostV_open ?_ | simp (disch := omega) only [w64, wu64, wu32, wu16, wu8, Int.tdiv_eq_ediv_of_nonneg, Int.tmod_eq_emod_of_nonneg] | (refine CondK_split ?_ ?_ <;> intro hc <;> (try simp only [hc]) <;> try simp at hc) | (with_reducible refine And.intro ?_ ?_; (focus ((repeat' (with_reducible refine And.intro ?_ ?_)) <;> first | exact trivial | assumption | (simp; done) | (simp only [List.length_map] at *; omega) | omega | (simp [D.cells, D.ok, D.one, D.pt, D.pt1]; done)))) | (with_reducible intro x hx) | omega) <;> (try simp only [row3_len, c2, e3, c3, rx, ry, Nat.reduceBEq, reduceIte, Nat.reduceAdd, binD, binInt, eqD, eqCell, eqCells, eqN, boolD, loadD, D.pt0, D.norm1, cond_true, view, view2, view1, view0, ofRes, fw]))
 ·have c2 : ((i : Int) < (a.length : Int)) = False := by simp; omega
  rw [eq_end ht hlt hl]
  repeat' ((first | apply Run_seq | apply Run_skip | apply Run_block | apply Run_blk | refine Run_exit rfl ?_ | apply Run_ret | apply Run_nil | apply Run_condK | apply Run_ops mixed | apply Run_opsX mixed | with_reducible refine PostV_open ?_ | simp (disch := omega) only [w64, wu64, wu32, wu16, wu8, Int.tdiv_eq_ediv_of_nonneg, Int.tmod_eq_emod_of_nonneg] | (refine CondK_split ?_ ?_ <;> intro hc <;> (try simp only [hc]) <;> try simp at hc) | (with_reducible refine And.intro ?_ ?_; (focus ((repeat' (with_reducible refine And.intro ?_ ?_)) <;> first | exact trivial | assumption | (simp; done) | (simp only [List.length_map] at *; omega) | omega | (simp [D.cells, D.ok, D.one, D.pt, D.pt1]; done)))) | (with_reducible intro x hx) | omega) <;> (try simp only [c2, Nat.reduceBEq, reduceIte, binD, binInt, D.pt0, D.norm1, view, view2, view1, view0, ofRes, fw]))
end Go.Proofs.Ytoleaiaeghbffaa

namespace Go.Proofs.Ytoleaiaeghbffaa
open Go Go.Vi


theorem ints9_p (a b : List Int) (ha : a.length ≤ 140737488351232) (hb : b.length ≤ 140737488351232) : PureD Try.prog 88 [L (row1 .i64 a), L (row1 .i64 b)] (.bool (decide (a = b))) := by
 refine pureV Try.func88 low88 (by simp [c88]) ?_
 simp only [c88]
 by_cases hl : ¬ a.length = b.length
 ·have c1 := lenB hl
  rw [eq_len hl]
  repeat' ((first | apply Run_seq | apply Run_skip | apply Run_block | apply Run_blk | refine Run_exit rfl ?_ | apply Run_ret | apply Run_nil | apply Run_condK | apply Run_ops mixed | apply Run_opsX mixed | with_reducible refine PostV_open ?_ | simp (disch := omega) only [w64, wu64, wu32, wu16, wu8, Int.tdiv_eq_ediv_of_nonneg, Int.tmod_eq_emod_of_nonneg] | (refine CondK_split ?_ ?_ <;> intro hc <;> (try simp only [hc]) <;> try simp at hc) | (with_reducible refine And.intro ?_ ?_; (focus ((repeat' (with_reducible refine And.intro ?_ ?_)) <;> first | exact trivial | assumption | (simp; done) | (simp only [List.length_map] at *; omega) | omega | (simp [D.cells, D.ok, D.one, D.pt, D.pt1]; done)))) | (with_reducible intro x hx) | omega) <;> (try simp only [row1_len, Nat.reduceBEq, argEnv, reduceIte, binD, binInt, lenD, D.pt0, D.norm1, view, view2, view1, view0, ofRes, fw]))
 have hl : a.length = b.length := by omega
 have c1 : ((a.length : Int) == (b.length : Int)) = true := by simp [hl]
 repeat' ((first | apply Run_seq | apply Run_skip | apply Run_block | apply Run_blk | refine Run_exit rfl ?_ | apply Run_ret | apply Run_nil | apply Run_condK | apply Run_ops mixed | apply Run_opsX mixed | with_reducible refine PostV_open ?_ | simp (disch := omega) only [w64, wu64, wu32, wu16, wu8, Int.tdiv_eq_ediv_of_nonneg, Int.tmod_eq_emod_of_nonneg] | (refine CondK_split ?_ ?_ <;> intro hc <;> (try simp only [hc]) <;> try simp at hc) | (with_reducible refine And.intro ?_ ?_; (focus ((repeat' (with_reducible refine And.intro ?_ ?_)) <;> first | exact trivial | assumption | (simp; done) | (simp only [List.length_map] at *; omega) | omega | (simp [D.cells, D.ok, D.one, D.pt, D.pt1]; done)))) | (with_reducible intro x hx) | omega) <;> (try simp only [row1_len, Nat.reduceBEq, argEnv, reduceIte, binD, binInt, lenD, D.pt0, D.norm1, view, view2, view1, view0, ofRes, fw]))
 refine Run_loop (ι := {i : Nat // i ≤ a.length ∧ a.take i = b.take i}) (fun i => ([(0, L (row1 .i64 a)), (1, L (row1 .i64 b)), (12, .int .i64 a.length), (13, .int .i64 i.1)], [])) (fun i => a.length - i.1) ⟨0, by simp⟩ ?_ ?_
 ·refine Ent_gc [] (by rfl) (by simp) (by simp [keptW]) (by simp [lk_hit, lk_miss, D.pt0, viewS_own', pull, pull2, pull1, pull0, idx_nil, gate, List.mem_cons, or_false, view0])
 rintro ⟨i, hi, ht⟩ hk
 dsimp only at hk ⊢
 by_cases hlt : i < a.length
 ·have c2 : ((i : Int) < (a.length : Int)) = True := by simp; omega
  obtain ⟨x, hx⟩ : ∃ x, a[i]? = some x := ⟨_, List.getElem?_eq_getElem hlt⟩
  obtain ⟨y, hy⟩ : ∃ y, b[i]? = some y := ⟨_, List.getElem?_eq_getElem (by omega)⟩
  have rx := row1_get (k := .i64) hx
  have ry := row1_get (k := .i64) hy
  by_cases hxy : x = y
  ·have c3 : (x == y) = true := by simpa using hxy
   repeat' ((first | apply Run_seq | apply Run_skip | apply Run_block | apply Run_blk | refine Run_exit rfl ?_ | apply Run_ret | apply Run_nil | apply Run_condK | apply Run_ops mixed | apply Run_opsX mixed | with_reducible refine PostV_open ?_ | simp (disch := omega) only [w64] | (refine CondK_split ?_ ?_ <;> intro hc <;> (try simp only [hc]) <;> try simp at hc) | (with_reducible refine And.intro ?_ ?_; (focus ((repeat' (with_reducible refine And.intro ?_ ?_)) <;> first | exact trivial | assumption | (simp; done) | (simp only [List.length_map] at *; omega) | omega | (simp [D.cells, D.ok, D.one, D.pt, D.pt1]; done)))) | (with_reducible intro x hx) | omega) <;> (try simp only [row1_len, c2, rx, ry, Nat.reduceBEq, reduceIte, binD, binInt, binStr, loadD, D.pt0, D.norm1, view, view2, view1, view0, ofRes, fw]))
   refine hk ⟨i + 1, by omega, eq_step ht hx hy hxy⟩ _ _ (by dsimp only; omega) ?_
   dsimp only
   refine Ent_gc [] (by rfl) (by simp) (by simp [keptW]) (by simp [lk_hit, lk_miss, D.pt0, viewS_own', pull, pull2, pull1, pull0, idx_nil, gate, List.mem_cons, or_false, view0])
  ·have c3 : (x == y) = false := by simpa using hxy
   rw [eq_no hx hy hxy]
   repeat' ((first | apply Run_seq | apply Run_skip | apply Run_block | apply Run_blk | refine Run_exit rfl ?_ | apply Run_ret | apply Run_nil | apply Run_condK | apply Run_ops mixed | apply Run_opsX mixed | with_reducible refine PostV_open ?_ | simp (disch := omega) only [w64] | (refine CondK_split ?_ ?_ <;> intro hc <;> (try simp only [hc]) <;> try simp at hc) | (with_reducible refine And.intro ?_ ?_; (focus ((repeat' (with_reducible refine And.intro ?_ ?_)) <;> first | exact trivial | assumption | (simp; done) | (simp only [List.length_map] at *; omega) | omega | (simp [D.cells, D.ok, D.one, D.pt, D.pt1]; done)))) | (with_reducible intro x hx) | omega) <;> (try simp only [row1_len, c2, rx, ry, Nat.reduceBEq, reduceIte, binD, binInt, binStr, loadD, D.pt0, D.norm1, view, view2, view1, view0, ofRes, fw]))
 ·have c2 : ((i : Int) < (a.length : Int)) = False := by simp; omega
  rw [eq_end ht hlt hl]
  repeat' ((first | apply Run_seq | apply Run_skip | apply Run_block | apply Run_blk | refine Run_exit rfl ?_ | apply Run_ret | apply Run_nil | apply Run_condK | apply Run_ops mixed | apply Run_opsX mixed | with_reducible refine PostV_open ?_ | simp (disch := omega) only [w64, wu64, wu32, wu16, wu8, Int.tdiv_eq_ediv_of_nonneg, Int.tmod_eq_emod_of_nonneg] | (refine CondK_split ?_ ?_ <;> intro hc <;> (try simp only [hc]) <;> try simp at hc) | (with_reducible refine And.intro ?_ ?_; (focus ((repeat' (with_reducible refine And.intro ?_ ?_)) <;> first | exact trivial | assumption | (simp; done) | (simp only [List.length_map] at *; omega) | omega | (simp [D.cells, D.ok, D.one, D.pt, D.pt1]; done)))) | (with_reducible intro x hx) | omega) <;> (try simp only [c2, Nat.reduceBEq, reduceIte, binD, binInt, D.pt0, D.norm1, view, view2, view1, view0, ofRes, fw]))
theorem Ru.eq_iff {a b : Ru} : a = b ↔ (a.freq = b.freq ∧ a.interval = b.interval ∧ a.count = b.count ∧ a.til = b.til ∧ a.bm = b.bm ∧ a.bmd = b.bmd ∧ a.bd = b.bd ∧ a.bsp = b.bsp ∧ a.start = b.start) := by
 cases a; cases b; simp only [Ru.mk.injEq]
def Ru.fits (r : Ru) : Prop := r.bm.length ≤ 140737488351232 ∧ r.bmd.length ≤ 140737488351232 ∧ r.bd.length ≤ 140737488351232 ∧ r.bsp.length ≤ 140737488351232
set_option maxHeartbeats 1000000 in
theorem sameRu_p (a b : Ru) (fa : a.fits) (fb : b.fits) : PureD Try.prog 65 [.agg a.cells, .agg b.cells] (.bool (decide (a = b))) := by
 refine pureV Try.func65 low65 (by simp [c65]) ?_
 simp only [c65, Ru.cells]
 obtain ⟨a1, a2, a3, a4⟩ := fa
 obtain ⟨b1', b2', b3', b4⟩ := fb
 by_cases h : ¬ (b.freq = a.freq ∧ b.interval = a.interval ∧ b.count = a.count ∧ b.til = a.til ∧ b.start = a.start ∧ a.bd.length = b.bd.length)
 ·have e : decide (a = b) = false := by
   simp only [decide_eq_false_iff_not]
   rintro rfl
   exact h ⟨rfl, rfl, rfl, rfl, rfl, rfl⟩
  rw [e]
  repeat' ((first | apply Run_seq | apply Run_skip | apply Run_block | apply Run_blk | refine Run_exit rfl ?_ | apply Run_ret | apply Run_nil | apply Run_condK | apply Run_ops mixed | apply Run_opsX mixed | with_reducible refine PostV_open ?_ | with_reducible refine ro_callV ?_ | simp (disch := omega) only [w64, wu64, wu32, wu16, wu8, Int.tdiv_eq_ediv_of_nonneg, Int.tmod_eq_emod_of_nonneg] | ((first | refine GuardK_split ?_ ?_ | refine CondK_split ?_ ?_) <;> intro hc <;> (try simp only [hc]) <;> try simp at hc) | (with_reducible refine And.intro ?_ ?_; (focus ((repeat' (with_reducible refine And.intro ?_ ?_)) <;> first | exact trivial | assumption | (simp; done) | (simp only [List.length_map] at *; omega) | omega | (simp [D.cells, D.ok, D.one, D.pt, D.pt1]; done)))) | (with_reducible intro x hx) | omega) <;> (try simp only [row2_len, Nat.reduceBEq, argEnv, reduceIte, Nat.reduceAdd, reduceCtorEq, binD, binInt, pickD, faddrD, lenD, loadD, D.cells, D.ok, D.one, D.pt1, D.pt0, D.norm1, cond_true, cond_false, ne_eq, view, view2, view1, view0, ofRes, fw]))
  all_goals (first | (exfalso; simp_all; done) | (exfalso; apply h; simp_all; omega))
 obtain ⟨e1, e2, e3, e4, e5, hl⟩ : (b.freq = a.freq ∧ b.interval = a.interval ∧ b.count = a.count ∧ b.til = a.til ∧ b.start = a.start ∧ a.bd.length = b.bd.length) := by simpa using h
 have c1 : ((a.bd.length : Int) == (b.bd.length : Int)) = true := by simp [hl]
 repeat' ((first | apply Run_seq | apply Run_skip | apply Run_block | apply Run_blk | refine Run_exit rfl ?_ | apply Run_ret | apply Run_nil | apply Run_condK | apply Run_ops mixed | apply Run_opsX mixed | with_reducible refine PostV_open ?_ | with_reducible refine ro_callV ?_ | simp (disch := omega) only [w64, wu64, wu32, wu16, wu8, Int.tdiv_eq_ediv_of_nonneg, Int.tmod_eq_emod_of_nonneg] | ((first | refine GuardK_split ?_ ?_ | refine CondK_split ?_ ?_) <;> intro hc <;> (try simp only [hc]) <;> try simp at hc) | (with_reducible refine And.intro ?_ ?_; (focus ((repeat' (with_reducible refine And.intro ?_ ?_)) <;> first | exact trivial | assumption | (simp; done) | (simp only [List.length_map] at *; omega) | omega | (simp [D.cells, D.ok, D.one, D.pt, D.pt1]; done)))) | (with_reducible intro x hx) | omega) <;> (try simp only [row2_len, e1, e2, e3, e4, e5, Nat.reduceBEq, argEnv, reduceIte, Nat.reduceAdd, reduceCtorEq, binD, binInt, pickD, faddrD, lenD, loadD, D.cells, D.ok, D.one, D.pt1, D.pt0, D.norm1, cond_false, ne_eq, view, view2, view1, view0, ofRes, fw]))
 refine Run_loop (ι := {i : Nat // i ≤ a.bd.length ∧ a.bd.take i = b.bd.take i}) (fun i => ([(2, .ptr 0 0 0 1), (3, .ptr 1 0 0 1), (50, .int .i64 a.bd.length), (51, .int .i64 i.1)], [⟨true, false, true, false, 9, [a.cells], some 0⟩, ⟨true, false, true, false, 9, [b.cells], some 0⟩])) (fun i => a.bd.length - i.1) ⟨0, by simp⟩ ?_ ?_
 ·simp only [Ru.cells, e1, e2, e3, e4, e5]
  refine Ent_gc [0, 1] (by rfl) (by simp) (by simp [keptW, ObKW, ObW, imp_self, pullOb, or_false]) (by simp [lk_hit, lk_miss, D.pt0, viewS_own', pull, pull2, pull1, pull0, idx_hit, idx_miss, sucO_some, gate, List.mem_cons, or_false, view0])
 rintro ⟨i, hi, ht⟩ hk
 dsimp only at hk ⊢
 by_cases hlt : i < a.bd.length
 ·have c2 : ((i : Int) < (a.bd.length : Int)) = True := by simp; omega
  obtain ⟨x, hx⟩ : ∃ x, a.bd[i]? = some x := ⟨_, List.getElem?_eq_getElem hlt⟩
  obtain ⟨y, hy⟩ : ∃ y, b.bd[i]? = some y := ⟨_, List.getElem?_eq_getElem (by omega)⟩
  have rx := row2_get (k := .i64) (m := .i64) hx
  have ry := row2_get (k := .i64) (m := .i64) hy
  have q2 := b2 (x := x) (y := y)
  by_cases hxy : x = y
  ·have c3 : decide (x = y) = true := by simpa using hxy
   repeat' ((first | apply Run_seq | apply Run_skip | apply Run_block | apply Run_blk | refine Run_exit rfl ?_ | apply Run_ret | apply Run_nil | apply Run_condK | apply Run_ops mixed | apply Run_opsX mixed | with_reducible refine PostV_open ?_ | with_reducible refine ro_callV ?_ | simp (disch := omega) only [w64] | ((first | refine GuardK_split ?_ ?_ | refine CondK_split ?_ ?_) <;> intro hc <;> (try simp only [hc]) <;> try simp at hc) | (with_reducible refine And.intro ?_ ?_; (focus ((repeat' (with_reducible refine And.intro ?_ ?_)) <;> first | exact trivial | assumption | (simp; done) | (simp only [List.length_map] at *; omega) | omega | (simp [D.cells, D.ok, D.one, D.pt, D.pt1]; done)))) | (with_reducible intro x hx) | omega) <;> (try simp only [row2_len, c2, q2, c3, rx, ry, Ru.cells, Nat.reduceBEq, reduceIte, Nat.reduceAdd, binD, binInt, eqD, eqCell, eqCells, eqN, boolD, faddrD, loadD, cond_true, fw]))
   refine hk ⟨i + 1, by omega, eq_step ht hx hy hxy⟩ _ _ (by dsimp only; omega) ?_
   dsimp only [Ru.cells]
   refine Ent_gc [0, 1] (by rfl) (by simp) (by simp [keptW, ObKW, ObW, imp_self, pullOb, or_false]) (by simp [lk_hit, lk_miss, D.pt0, viewS_own', pull, pull2, pull1, pull0, idx_hit, idx_miss, sucO_some, gate, List.mem_cons, or_false, view0])
  ·have c3 : decide (x = y) = false := by simpa using hxy
   have e : decide (a = b) = false := by
    have := eq_no hx hy hxy
    simp only [decide_eq_false_iff_not] at this ⊢
    exact fun h => this (by rw [h])
   rw [e]
   repeat' ((first | apply Run_seq | apply Run_skip | apply Run_block | apply Run_blk | refine Run_exit rfl ?_ | apply Run_ret | apply Run_nil | apply Run_condK | apply Run_ops mixed | apply Run_opsX mixed | with_reducible refine PostV_open ?_ | with_reducible refine ro_callV ?_ | simp (disch := omega) only [w64, wu64, wu32, wu16, wu8, Int.tdiv_eq_ediv_of_nonneg, Int.tmod_eq_emod_of_nonneg] | ((first | refine GuardK_split ?_ ?_ | refine CondK_split ?_ ?_) <;> intro hc <;> (try simp only [hc]) <;> try simp at hc) | (with_reducible refine And.intro ?_ ?_; (focus ((repeat' (with_reducible refine And.intro ?_ ?_)) <;> first | exact trivial | assumption | (simp; done) | (simp only [List.length_map] at *; omega) | omega | (simp [D.cells, D.ok, D.one, D.pt, D.pt1]; done)))) | (with_reducible intro x hx) | omega) <;> (try simp only [row2_len, c2, q2, c3, rx, ry, Ru.cells, Nat.reduceBEq, reduceIte, Nat.reduceAdd, binD, binInt, eqD, eqCell, eqCells, eqN, boolD, faddrD, loadD, D.pt0, D.norm1, cond_true, view, view2, view1, view0, ofRes, fw]))
 ·have c2 : ((i : Int) < (a.bd.length : Int)) = False := by simp; omega
  have e : a.bd = b.bd := by simpa using eq_end ht hlt hl
  have e6 : decide (a = b) = (decide (a.bm = b.bm) && (decide (a.bmd = b.bmd) && decide (a.bsp = b.bsp))) := by
   rw [Bool.eq_iff_iff]; simp [Ru.eq_iff, e1, e2, e3, e4, e5, e]
  rw [e6]
  repeat' ((first | apply Run_seq | apply Run_skip | apply Run_block | apply Run_blk | refine Run_exit rfl ?_ | apply Run_ret | apply Run_nil | apply Run_condK | apply Run_ops mixed | apply Run_opsX mixed | with_reducible refine PostV_open ?_ | with_reducible refine ro_callV ?_ | refine CallV_pure (ints9_p _ _ (by omega) (by omega)) ?_ ?_ | simp (disch := omega) only [w64, wu64, wu32, wu16, wu8, Int.tdiv_eq_ediv_of_nonneg, Int.tmod_eq_emod_of_nonneg] | ((first | refine GuardK_split ?_ ?_ | refine CondK_split ?_ ?_) <;> intro hc <;> (try simp only [hc]) <;> try simp at hc) | (with_reducible refine And.intro ?_ ?_; (focus ((repeat' (with_reducible refine And.intro ?_ ?_)) <;> first | exact trivial | assumption | (simp; done) | (simp only [List.length_map] at *; omega) | omega | (simp [D.cells, D.ok, D.one, D.pt, D.pt1]; done)))) | (with_reducible intro x hx) | omega) <;> (try simp only [c2, Ru.cells, Nat.reduceBEq, reduceIte, binD, binInt, pickD, faddrD, loadD, D.pt, D.pt1, D.pt0, D.norm1, cond_true, cond_false, view, view2, view1, view0, mapO, D.sc, D.sc1, D.sc2, ofRes, fw]))
  all_goals skip
end Go.Proofs.Ytoleaiaeghbffaa

namespace Go.Proofs.Ytoleaiaeghbffaa
open Go Go.Vi


theorem rowsDn_get {l : List Dn} {i : Nat} {d : Dn} (h : l[i]? = some d) : (rowsD l)[i]? = some [.int .u32 d.c, .int .u64 d.n, .int .u64 d.v] := by simp [rowsD, h, Dn.row]
theorem bD {x y : Dn} : ((x.c == y.c) && ((x.n == y.n) && (x.v == y.v))) = decide (x = y) := by
 cases x; cases y; rw [Bool.eq_iff_iff]; simp
/-- A state. -/
structure Sta where
 t : Int
 us : List Us
 ps : List Po
 ds : List Dn
 deriving DecidableEq
def Sta.cells (s : Sta) : List D := [.int .i64 s.t, L (rowsU s.us), L (rowsP s.ps), L (rowsD s.ds)]
def Se.fits (s : Se) : Prop := s.turns.length ≤ 140737488351232 ∧ s.shifts.length ≤ 140737488351232 ∧ s.off.length ≤ 140737488351232
def Ev.fits (s : Ev) : Prop := s.rule.fits ∧ s.ex.length ≤ 140737488351232 ∧ s.plus.length ≤ 140737488351232 ∧ s.ch.length ≤ 140737488351232
def Qu.fits (s : Qu) : Prop := s.must.length ≤ 140737488351232 ∧ s.may.length ≤ 140737488351232 ∧ s.apart.length ≤ 140737488351232 ∧ s.prefer.length ≤ 140737488351232
def Po.fits (s : Po) : Prop := s.qu.fits ∧ s.slots.length ≤ 140737488351232 ∧ s.votes.length ≤ 140737488351232
def Us.fit (s : Us) : Prop := s.se.fits ∧ s.evs.length ≤ 140737488351232 ∧ ∀ e ∈ s.evs, e.ev.fits
def Sta.fits (s : Sta) : Prop := s.us.length ≤ 1407374883512 ∧ s.ps.length ≤ 1407374883512 ∧ s.ds.length ≤ 5864062014677 ∧ (∀ u ∈ s.us, u.fit) ∧ ∀ p ∈ s.ps, p.fits
theorem Se.eq_iff {a b : Se} : a = b ↔ (a.base = b.base ∧ a.turns = b.turns ∧ a.shifts = b.shifts ∧ a.off = b.off ∧ a.before = b.before ∧ a.after = b.after) := by
 cases a; cases b; simp only [Se.mk.injEq]
set_option maxHeartbeats 4000000 in
theorem sameSe_p (a b : Se) (fa : a.fits) (fb : b.fits) : PureD Try.prog 31 [.agg a.cells, .agg b.cells] (.bool (decide (a = b))) := by
 refine pureV Try.func31 low31 (by simp [c31]) ?_
 simp only [c31, Se.cells]
 obtain ⟨a1, a2, a3⟩ := fa
 obtain ⟨b1, b2', b3'⟩ := fb
 by_cases h : ¬ (b.base = a.base ∧ b.before = a.before ∧ b.after = a.after ∧ a.turns.length = b.turns.length)
 ·have e : decide (a = b) = false := by
   simp only [decide_eq_false_iff_not]
   rintro rfl
   exact h ⟨rfl, rfl, rfl, rfl⟩
  rw [e]
  repeat' ((first | apply Run_seq | apply Run_skip | apply Run_block | apply Run_blk | refine Run_exit rfl ?_ | apply Run_ret | apply Run_nil | apply Run_condK | apply Run_ops mixed | apply Run_opsX mixed | with_reducible refine PostV_open ?_ | with_reducible refine ro_callV ?_ | simp (disch := omega) only [w64, wu64, wu32, wu16, wu8, Int.tdiv_eq_ediv_of_nonneg, Int.tmod_eq_emod_of_nonneg] | ((first | refine GuardK_split ?_ ?_ | refine CondK_split ?_ ?_) <;> intro hc <;> (try simp only [hc]) <;> try simp at hc) | (with_reducible refine And.intro ?_ ?_; (focus ((repeat' (with_reducible refine And.intro ?_ ?_)) <;> first | exact trivial | assumption | (simp; done) | (simp only [List.length_map] at *; omega) | omega | (simp [D.cells, D.ok, D.one, D.pt, D.pt1]; done)))) | (with_reducible intro x hx) | omega) <;> (try simp only [row2_len, Nat.reduceBEq, argEnv, reduceIte, Nat.reduceAdd, reduceCtorEq, binD, binInt, pickD, faddrD, lenD, loadD, D.cells, D.ok, D.one, D.pt1, D.pt0, D.norm1, cond_true, cond_false, ne_eq, view, view2, view1, view0, ofRes, fw]))
  all_goals (first | (exfalso; simp_all; done) | (exfalso; apply h; simp_all; done) | (exfalso; apply h; simp_all; omega))
 obtain ⟨e0, e1, e2, hl0⟩ : (b.base = a.base ∧ b.before = a.before ∧ b.after = a.after ∧ a.turns.length = b.turns.length) := by simpa using h
 have cl0 : ((a.turns.length : Int) == (b.turns.length : Int)) = true := by simp [hl0]
 repeat' ((first | apply Run_seq | apply Run_skip | apply Run_block | apply Run_blk | refine Run_exit rfl ?_ | apply Run_ret | apply Run_nil | apply Run_condK | apply Run_ops mixed | apply Run_opsX mixed | with_reducible refine PostV_open ?_ | with_reducible refine ro_callV ?_ | simp (disch := omega) only [w64, wu64, wu32, wu16, wu8, Int.tdiv_eq_ediv_of_nonneg, Int.tmod_eq_emod_of_nonneg] | ((first | refine GuardK_split ?_ ?_ | refine CondK_split ?_ ?_) <;> intro hc <;> (try simp only [hc]) <;> try simp at hc) | (with_reducible refine And.intro ?_ ?_; (focus ((repeat' (with_reducible refine And.intro ?_ ?_)) <;> first | exact trivial | assumption | (simp; done) | (simp only [List.length_map] at *; omega) | omega | (simp [D.cells, D.ok, D.one, D.pt, D.pt1]; done)))) | (with_reducible intro x hx) | omega) <;> (try simp only [row2_len, e0, e1, e2, Nat.reduceBEq, argEnv, reduceIte, Nat.reduceAdd, reduceCtorEq, binD, binInt, pickD, faddrD, lenD, loadD, D.cells, D.ok, D.one, D.pt1, D.pt0, D.norm1, cond_true, cond_false, ne_eq, view, view2, view1, view0, ofRes, fw]))
 refine Run_loop (ι := {i : Nat // i ≤ a.turns.length ∧ a.turns.take i = b.turns.take i}) (fun i => ([(2, .ptr 0 0 0 1), (3, .ptr 1 0 0 1), (41, .int .i64 a.turns.length), (42, .int .i64 i.1)], [⟨true, false, true, false, 6, [a.cells], some 0⟩, ⟨true, false, true, false, 6, [b.cells], some 0⟩])) (fun i => a.turns.length - i.1) ⟨0, by simp⟩ ?_ ?_
 ·simp only [Se.cells, e0, e1, e2]
  refine Ent_gc [0, 1] (by rfl) (by simp) (by simp [keptW, ObKW, ObW, imp_self, pullOb, or_false]) (by simp [lk_hit, lk_miss, D.pt0, viewS_own', pull, pull2, pull1, pull0, idx_hit, idx_miss, sucO_some, gate, List.mem_cons, or_false, view0])
 rintro ⟨i, hi, ht⟩ hk
 dsimp only at hk ⊢
 by_cases hlt : i < a.turns.length
 ·have c2 : ((i : Int) < (a.turns.length : Int)) = True := by simp; omega
  obtain ⟨x, hx⟩ : ∃ x, a.turns[i]? = some x := ⟨_, List.getElem?_eq_getElem hlt⟩
  obtain ⟨y, hy⟩ : ∃ y, b.turns[i]? = some y := ⟨_, List.getElem?_eq_getElem (by omega)⟩
  have rx := row2_get (k := .i64) (m := .i64) hx
  have ry := row2_get (k := .i64) (m := .i64) hy
  have q2 := b2 (x := x) (y := y)
  by_cases hxy : x = y
  ·have c3 : decide (x = y) = true := by simpa using hxy
   repeat' ((first | apply Run_seq | apply Run_skip | apply Run_block | apply Run_blk | refine Run_exit rfl ?_ | apply Run_ret | apply Run_nil | apply Run_condK | apply Run_ops mixed | apply Run_opsX mixed | with_reducible refine PostV_open ?_ | with_reducible refine ro_callV ?_ | simp (disch := omega) only [w64] | ((first | refine GuardK_split ?_ ?_ | refine CondK_split ?_ ?_) <;> intro hc <;> (try simp only [hc]) <;> try simp at hc) | (with_reducible refine And.intro ?_ ?_; (focus ((repeat' (with_reducible refine And.intro ?_ ?_)) <;> first | exact trivial | assumption | (simp; done) | (simp only [List.length_map] at *; omega) | omega | (simp [D.cells, D.ok, D.one, D.pt, D.pt1]; done)))) | (with_reducible intro x hx) | omega) <;> (try simp only [row2_len, c2, q2, c3, rx, ry, Se.cells, Nat.reduceBEq, reduceIte, Nat.reduceAdd, binD, binInt, eqD, eqCell, eqCells, eqN, boolD, faddrD, loadD, cond_true, fw]))
   refine hk ⟨i + 1, by omega, eq_step ht hx hy hxy⟩ _ _ (by dsimp only; omega) ?_
   dsimp only [Se.cells]
   refine Ent_gc [0, 1] (by rfl) (by simp) (by simp [keptW, ObKW, ObW, imp_self, pullOb, or_false]) (by simp [lk_hit, lk_miss, D.pt0, viewS_own', pull, pull2, pull1, pull0, idx_hit, idx_miss, sucO_some, gate, List.mem_cons, or_false, view0])
  ·have c3 : decide (x = y) = false := by simpa using hxy
   have e : decide (a = b) = false := by
    have := eq_no hx hy hxy
    simp only [decide_eq_false_iff_not] at this ⊢
    exact fun h => this (by rw [h])
   rw [e]
   repeat' ((first | apply Run_seq | apply Run_skip | apply Run_block | apply Run_blk | refine Run_exit rfl ?_ | apply Run_ret | apply Run_nil | apply Run_condK | apply Run_ops mixed | apply Run_opsX mixed | with_reducible refine PostV_open ?_ | with_reducible refine ro_callV ?_ | simp (disch := omega) only [w64, wu64, wu32, wu16, wu8, Int.tdiv_eq_ediv_of_nonneg, Int.tmod_eq_emod_of_nonneg] | ((first | refine GuardK_split ?_ ?_ | refine CondK_split ?_ ?_) <;> intro hc <;> (try simp only [hc]) <;> try simp at hc) | (with_reducible refine And.intro ?_ ?_; (focus ((repeat' (with_reducible refine And.intro ?_ ?_)) <;> first | exact trivial | assumption | (simp; done) | (simp only [List.length_map] at *; omega) | omega | (simp [D.cells, D.ok, D.one, D.pt, D.pt1]; done)))) | (with_reducible intro x hx) | omega) <;> (try simp only [row2_len, c2, q2, c3, rx, ry, Se.cells, Nat.reduceBEq, reduceIte, Nat.reduceAdd, binD, binInt, eqD, eqCell, eqCells, eqN, boolD, faddrD, loadD, D.pt0, D.norm1, cond_true, view, view2, view1, view0, ofRes, fw]))
 ·have c2 : ((i : Int) < (a.turns.length : Int)) = False := by simp; omega
  have q_turns : a.turns = b.turns := by simpa using eq_end ht hlt hl0
  clear hk ht hlt hi
  have e6 : decide (a = b) = (decide (a.shifts = b.shifts) && decide (a.off = b.off)) := by
   rw [Bool.eq_iff_iff]; simp [Se.eq_iff, e0, e1, e2, q_turns]
  rw [e6]
  have w_shifts := shifts_p a.shifts b.shifts (by omega) (by omega)
  have w_off := ints_p a.off b.off (by omega) (by omega)
  repeat' ((first | apply Run_seq | apply Run_skip | apply Run_block | apply Run_blk | refine Run_exit rfl ?_ | apply Run_ret | apply Run_nil | apply Run_condK | apply Run_ops mixed | apply Run_opsX mixed | with_reducible refine PostV_open ?_ | with_reducible refine ro_callV ?_ | refine CallV_pure (w_shifts) ?_ ?_ | refine CallV_pure (w_off) ?_ ?_ | simp (disch := omega) only [w64, wu64, wu32, wu16, wu8, Int.tdiv_eq_ediv_of_nonneg, Int.tmod_eq_emod_of_nonneg] | ((first | refine GuardK_split ?_ ?_ | refine CondK_split ?_ ?_) <;> intro hc <;> (try simp only [hc]) <;> try simp at hc) | (with_reducible refine And.intro ?_ ?_; (focus ((repeat' (with_reducible refine And.intro ?_ ?_)) <;> first | exact trivial | assumption | (simp; done) | (simp only [List.length_map] at *; omega) | omega | (simp [D.cells, D.ok, D.one, D.pt, D.pt1]; done)))) | (with_reducible intro x hx) | omega) <;> (try simp only [c2, Se.cells, Nat.reduceBEq, reduceIte, Nat.reduceAdd, binD, binInt, pickD, faddrD, loadD, D.pt, D.pt1, D.pt0, D.norm1, cond_true, cond_false, view, view2, view1, view0, mapO, D.sc, D.sc1, D.sc2, ofRes, fw]))
theorem Ev.eq_iff {a b : Ev} : a = b ↔ (a.start = b.start ∧ a.long = b.long ∧ a.world = b.world ∧ a.again = b.again ∧ a.rule = b.rule ∧ a.ex = b.ex ∧ a.plus = b.plus ∧ a.ch = b.ch) := by
 cases a; cases b; simp only [Ev.mk.injEq]
set_option maxHeartbeats 4000000 in
theorem sameEv_p (a b : Ev) (fa : a.fits) (fb : b.fits) : PureD Try.prog 32 [.agg a.cells, .agg b.cells] (.bool (decide (a = b))) := by
 refine pureV Try.func32 low32 (by simp [c32]) ?_
 simp only [c32, Ev.cells]
 obtain ⟨a0, a1, a2, a3⟩ := fa
 obtain ⟨b0, b1, b2', b3'⟩ := fb
 by_cases h : ¬ (b.start = a.start ∧ b.long = a.long ∧ b.again = a.again ∧ b.world = a.world ∧ a.ch.length = b.ch.length)
 ·have e : decide (a = b) = false := by
   simp only [decide_eq_false_iff_not]
   rintro rfl
   exact h ⟨rfl, rfl, rfl, rfl, rfl⟩
  rw [e]
  repeat' ((first | apply Run_seq | apply Run_skip | apply Run_block | apply Run_blk | refine Run_exit rfl ?_ | apply Run_ret | apply Run_nil | apply Run_condK | apply Run_ops mixed | apply Run_opsX mixed | with_reducible refine PostV_open ?_ | with_reducible refine ro_callV ?_ | simp (disch := omega) only [w64, wu64, wu32, wu16, wu8, Int.tdiv_eq_ediv_of_nonneg, Int.tmod_eq_emod_of_nonneg] | ((first | refine GuardK_split ?_ ?_ | refine CondK_split ?_ ?_) <;> intro hc <;> (try simp only [hc]) <;> try simp at hc) | (with_reducible refine And.intro ?_ ?_; (focus ((repeat' (with_reducible refine And.intro ?_ ?_)) <;> first | exact trivial | assumption | (simp; done) | (simp only [List.length_map] at *; omega) | omega | (simp [D.cells, D.ok, D.one, D.pt, D.pt1]; done)))) | (with_reducible intro x hx) | omega) <;> (try simp only [row3_len, Nat.reduceBEq, argEnv, reduceIte, Nat.reduceAdd, reduceCtorEq, binD, binInt, eqD, eqN, boolD, pickD, faddrD, lenD, loadD, D.cells, D.ok, D.one, D.pt1, D.pt0, D.norm1, cond_true, cond_false, ne_eq, view, view2, view1, view0, ofRes, fw]))
  all_goals (first | (exfalso; simp_all; done) | (exfalso; apply h; simp_all; done) | (exfalso; apply h; simp_all; omega))
 obtain ⟨e0, e1, e2, e3, hl0⟩ : (b.start = a.start ∧ b.long = a.long ∧ b.again = a.again ∧ b.world = a.world ∧ a.ch.length = b.ch.length) := by simpa using h
 have cl0 : ((a.ch.length : Int) == (b.ch.length : Int)) = true := by simp [hl0]
 repeat' ((first | apply Run_seq | apply Run_skip | apply Run_block | apply Run_blk | refine Run_exit rfl ?_ | apply Run_ret | apply Run_nil | apply Run_condK | apply Run_ops mixed | apply Run_opsX mixed | with_reducible refine PostV_open ?_ | with_reducible refine ro_callV ?_ | simp (disch := omega) only [w64, wu64, wu32, wu16, wu8, Int.tdiv_eq_ediv_of_nonneg, Int.tmod_eq_emod_of_nonneg] | ((first | refine GuardK_split ?_ ?_ | refine CondK_split ?_ ?_) <;> intro hc <;> (try simp only [hc]) <;> try simp at hc) | (with_reducible refine And.intro ?_ ?_; (focus ((repeat' (with_reducible refine And.intro ?_ ?_)) <;> first | exact trivial | assumption | (simp; done) | (simp only [List.length_map] at *; omega) | omega | (simp [D.cells, D.ok, D.one, D.pt, D.pt1]; done)))) | (with_reducible intro x hx) | omega) <;> (try simp only [row3_len, e0, e1, e2, e3, beq_self_eq_true, Nat.reduceBEq, argEnv, reduceIte, Nat.reduceAdd, reduceCtorEq, binD, binInt, eqD, eqN, boolD, pickD, faddrD, lenD, loadD, D.cells, D.ok, D.one, D.pt1, D.pt0, D.norm1, cond_true, cond_false, ne_eq, beq_self_eq_true, view, view2, view1, view0, ofRes, fw]))
 refine Run_loop (ι := {i : Nat // i ≤ a.ch.length ∧ a.ch.take i = b.ch.take i}) (fun i => ([(2, .ptr 0 0 0 1), (3, .ptr 1 0 0 1), (43, .int .i64 a.ch.length), (44, .int .i64 i.1)], [⟨true, false, true, false, 16, [a.cells], some 0⟩, ⟨true, false, true, false, 16, [b.cells], some 0⟩])) (fun i => a.ch.length - i.1) ⟨0, by simp⟩ ?_ ?_
 ·simp only [Ev.cells, e0, e1, e2, e3]
  refine Ent_gc [0, 1] (by rfl) (by simp) (by simp [keptW, ObKW, ObW, imp_self, pullOb, or_false]) (by simp [lk_hit, lk_miss, D.pt0, viewS_own', pull, pull2, pull1, pull0, idx_hit, idx_miss, sucO_some, gate, List.mem_cons, or_false, view0])
 rintro ⟨i, hi, ht⟩ hk
 dsimp only at hk ⊢
 by_cases hlt : i < a.ch.length
 ·have c2 : ((i : Int) < (a.ch.length : Int)) = True := by simp; omega
  obtain ⟨x, hx⟩ : ∃ x, a.ch[i]? = some x := ⟨_, List.getElem?_eq_getElem hlt⟩
  obtain ⟨y, hy⟩ : ∃ y, b.ch[i]? = some y := ⟨_, List.getElem?_eq_getElem (by omega)⟩
  have rx := row3_get hx
  have ry := row3_get hy
  have q2 := b3 (x := x) (y := y)
  by_cases hxy : x = y
  ·have c3 : decide (x = y) = true := by simpa using hxy
   repeat' ((first | apply Run_seq | apply Run_skip | apply Run_block | apply Run_blk | refine Run_exit rfl ?_ | apply Run_ret | apply Run_nil | apply Run_condK | apply Run_ops mixed | apply Run_opsX mixed | with_reducible refine PostV_open ?_ | with_reducible refine ro_callV ?_ | simp (disch := omega) only [w64] | ((first | refine GuardK_split ?_ ?_ | refine CondK_split ?_ ?_) <;> intro hc <;> (try simp only [hc]) <;> try simp at hc) | (with_reducible refine And.intro ?_ ?_; (focus ((repeat' (with_reducible refine And.intro ?_ ?_)) <;> first | exact trivial | assumption | (simp; done) | (simp only [List.length_map] at *; omega) | omega | (simp [D.cells, D.ok, D.one, D.pt, D.pt1]; done)))) | (with_reducible intro x hx) | omega) <;> (try simp only [row3_len, c2, q2, c3, rx, ry, Ev.cells, Nat.reduceBEq, reduceIte, Nat.reduceAdd, binD, binInt, eqD, eqCell, eqCells, eqN, boolD, faddrD, loadD, cond_true, fw]))
   refine hk ⟨i + 1, by omega, eq_step ht hx hy hxy⟩ _ _ (by dsimp only; omega) ?_
   dsimp only [Ev.cells]
   refine Ent_gc [0, 1] (by rfl) (by simp) (by simp [keptW, ObKW, ObW, imp_self, pullOb, or_false]) (by simp [lk_hit, lk_miss, D.pt0, viewS_own', pull, pull2, pull1, pull0, idx_hit, idx_miss, sucO_some, gate, List.mem_cons, or_false, view0])
  ·have c3 : decide (x = y) = false := by simpa using hxy
   have e : decide (a = b) = false := by
    have := eq_no hx hy hxy
    simp only [decide_eq_false_iff_not] at this ⊢
    exact fun h => this (by rw [h])
   rw [e]
   repeat' ((first | apply Run_seq | apply Run_skip | apply Run_block | apply Run_blk | refine Run_exit rfl ?_ | apply Run_ret | apply Run_nil | apply Run_condK | apply Run_ops mixed | apply Run_opsX mixed | with_reducible refine PostV_open ?_ | with_reducible refine ro_callV ?_ | simp (disch := omega) only [w64, wu64, wu32, wu16, wu8, Int.tdiv_eq_ediv_of_nonneg, Int.tmod_eq_emod_of_nonneg] | ((first | refine GuardK_split ?_ ?_ | refine CondK_split ?_ ?_) <;> intro hc <;> (try simp only [hc]) <;> try simp at hc) | (with_reducible refine And.intro ?_ ?_; (focus ((repeat' (with_reducible refine And.intro ?_ ?_)) <;> first | exact trivial | assumption | (simp; done) | (simp only [List.length_map] at *; omega) | omega | (simp [D.cells, D.ok, D.one, D.pt, D.pt1]; done)))) | (with_reducible intro x hx) | omega) <;> (try simp only [row3_len, c2, q2, c3, rx, ry, Ev.cells, Nat.reduceBEq, reduceIte, Nat.reduceAdd, binD, binInt, eqD, eqCell, eqCells, eqN, boolD, faddrD, loadD, D.pt0, D.norm1, cond_true, view, view2, view1, view0, ofRes, fw]))
 ·have c2 : ((i : Int) < (a.ch.length : Int)) = False := by simp; omega
  have q_ch : a.ch = b.ch := by simpa using eq_end ht hlt hl0
  clear hk ht hlt hi
  have e6 : decide (a = b) = (decide (a.rule = b.rule) && (decide (a.ex = b.ex) && decide (a.plus = b.plus))) := by
   rw [Bool.eq_iff_iff]; simp [Ev.eq_iff, e0, e1, e2, e3, q_ch]
  rw [e6]
  have w_rule := sameRu_p a.rule b.rule a0 b0
  simp only [Ru.cells] at w_rule
  have w_ex := longs_p a.ex b.ex (by omega) (by omega)
  have w_plus := longs_p a.plus b.plus (by omega) (by omega)
  repeat' ((first | apply Run_seq | apply Run_skip | apply Run_block | apply Run_blk | refine Run_exit rfl ?_ | apply Run_ret | apply Run_nil | apply Run_condK | apply Run_ops mixed | apply Run_opsX mixed | with_reducible refine PostV_open ?_ | with_reducible refine ro_callV ?_ | refine CallV_pure (w_rule) ?_ ?_ | refine CallV_pure (w_ex) ?_ ?_ | refine CallV_pure (w_plus) ?_ ?_ | simp (disch := omega) only [w64, wu64, wu32, wu16, wu8, Int.tdiv_eq_ediv_of_nonneg, Int.tmod_eq_emod_of_nonneg] | ((first | refine GuardK_split ?_ ?_ | refine CondK_split ?_ ?_) <;> intro hc <;> (try simp only [hc]) <;> try simp at hc) | (with_reducible refine And.intro ?_ ?_; (focus ((repeat' (with_reducible refine And.intro ?_ ?_)) <;> first | exact trivial | assumption | (simp; done) | (simp only [List.length_map] at *; omega) | omega | (simp [D.cells, D.ok, D.one, D.pt, D.pt1]; done)))) | (with_reducible intro x hx) | omega) <;> (try simp only [c2, Ev.cells, Nat.reduceBEq, reduceIte, Nat.reduceAdd, Nat.reduceLeDiff, binD, binInt, pickD, faddrD, loadD, D.pt, D.pt1, D.pt0, D.norm1, cond_true, cond_false, view, view2, view1, view0, mapO, D.sc, D.sc1, D.sc2, ofRes, fw]))
theorem Qu.eq_iff {a b : Qu} : a = b ↔ (a.a = b.a ∧ a.b = b.b ∧ a.long = b.long ∧ a.grid = b.grid ∧ a.must = b.must ∧ a.may = b.may ∧ a.seats = b.seats ∧ a.apart = b.apart ∧ a.prefer = b.prefer) := by
 cases a; cases b; simp only [Qu.mk.injEq]
set_option maxHeartbeats 4000000 in
theorem sameQu_p (a b : Qu) (fa : a.fits) (fb : b.fits) : PureD Try.prog 42 [.agg a.cells, .agg b.cells] (.bool (decide (a = b))) := by
 refine pureV Try.func42 low42 (by simp [c42]) ?_
 simp only [c42, Qu.cells]
 obtain ⟨a1, a2, a3, a4⟩ := fa
 obtain ⟨b1, b2', b3', b4⟩ := fb
 by_cases h : ¬ (b.a = a.a ∧ b.b = a.b ∧ b.long = a.long ∧ b.grid = a.grid ∧ b.seats = a.seats ∧ a.must.length = b.must.length ∧ a.may.length = b.may.length ∧ a.apart.length = b.apart.length)
 ·have e : decide (a = b) = false := by
   simp only [decide_eq_false_iff_not]
   rintro rfl
   exact h ⟨rfl, rfl, rfl, rfl, rfl, rfl, rfl, rfl⟩
  rw [e]
  repeat' ((first | apply Run_seq | apply Run_skip | apply Run_block | apply Run_blk | refine Run_exit rfl ?_ | apply Run_ret | apply Run_nil | apply Run_condK | apply Run_ops mixed | apply Run_opsX mixed | with_reducible refine PostV_open ?_ | with_reducible refine ro_callV ?_ | simp (disch := omega) only [w64, wu64, wu32, wu16, wu8, Int.tdiv_eq_ediv_of_nonneg, Int.tmod_eq_emod_of_nonneg] | ((first | refine GuardK_split ?_ ?_ | refine CondK_split ?_ ?_) <;> intro hc <;> (try simp only [hc]) <;> try simp at hc) | (with_reducible refine And.intro ?_ ?_; (focus ((repeat' (with_reducible refine And.intro ?_ ?_)) <;> first | exact trivial | assumption | (simp; done) | (simp only [List.length_map] at *; omega) | omega | (simp [D.cells, D.ok, D.one, D.pt, D.pt1]; done)))) | (with_reducible intro x hx) | omega) <;> (try simp only [row1_len, row2_len, Nat.reduceBEq, argEnv, reduceIte, Nat.reduceAdd, Nat.reduceLeDiff, reduceCtorEq, binD, binInt, eqD, eqCell, eqCells, eqN, boolD, pickD, faddrD, lenD, loadD, D.cells, D.ok, D.one, D.pt1, D.pt0, D.norm1, cond_true, cond_false, ne_eq, view, view2, view1, view0, ofRes, fw]))
  all_goals (first | (exfalso; simp_all; done) | (exfalso; apply h; simp_all; done) | (exfalso; apply h; simp_all; omega))
 obtain ⟨e0, e1, e2, e3, e4, hl0, hl1, hl2⟩ : (b.a = a.a ∧ b.b = a.b ∧ b.long = a.long ∧ b.grid = a.grid ∧ b.seats = a.seats ∧ a.must.length = b.must.length ∧ a.may.length = b.may.length ∧ a.apart.length = b.apart.length) := by simpa using h
 have cl0 : ((a.must.length : Int) == (b.must.length : Int)) = true := by simp [hl0]
 have cl1 : ((a.may.length : Int) == (b.may.length : Int)) = true := by simp [hl1]
 have cl2 : ((a.apart.length : Int) == (b.apart.length : Int)) = true := by simp [hl2]
 repeat' ((first | apply Run_seq | apply Run_skip | apply Run_block | apply Run_blk | refine Run_exit rfl ?_ | apply Run_ret | apply Run_nil | apply Run_condK | apply Run_ops mixed | apply Run_opsX mixed | with_reducible refine PostV_open ?_ | with_reducible refine ro_callV ?_ | simp (disch := omega) only [w64, wu64, wu32, wu16, wu8, Int.tdiv_eq_ediv_of_nonneg, Int.tmod_eq_emod_of_nonneg] | ((first | refine GuardK_split ?_ ?_ | refine CondK_split ?_ ?_) <;> intro hc <;> (try simp only [hc]) <;> try simp at hc) | (with_reducible refine And.intro ?_ ?_; (focus ((repeat' (with_reducible refine And.intro ?_ ?_)) <;> first | exact trivial | assumption | (simp; done) | (simp only [List.length_map] at *; omega) | omega | (simp [D.cells, D.ok, D.one, D.pt, D.pt1]; done)))) | (with_reducible intro x hx) | omega) <;> (try simp only [row1_len, row2_len, e0, e1, e2, e3, e4, beq_self_eq_true, Nat.reduceBEq, argEnv, reduceIte, Nat.reduceAdd, Nat.reduceLeDiff, reduceCtorEq, binD, binInt, eqD, eqCell, eqCells, eqN, boolD, pickD, faddrD, lenD, loadD, D.cells, D.ok, D.one, D.pt1, D.pt0, D.norm1, cond_true, cond_false, ne_eq, beq_self_eq_true, view, view2, view1, view0, ofRes, fw]))
 refine Run_loop (ι := {i : Nat // i ≤ a.must.length ∧ a.must.take i = b.must.take i}) (fun i => ([(2, .ptr 0 0 0 1), (3, .ptr 1 0 0 1), (63, .int .i64 a.must.length), (64, .int .i64 i.1)], [⟨true, false, true, false, 9, [a.cells], some 0⟩, ⟨true, false, true, false, 9, [b.cells], some 0⟩])) (fun i => a.must.length - i.1) ⟨0, by simp⟩ ?_ ?_
 ·simp only [Qu.cells, e0, e1, e2, e3, e4]
  refine Ent_gc [0, 1] (by rfl) (by simp) (by simp [keptW, ObKW, ObW, imp_self, pullOb, or_false]) (by simp [lk_hit, lk_miss, D.pt0, viewS_own', pull, pull2, pull1, pull0, idx_hit, idx_miss, sucO_some, gate, List.mem_cons, or_false, view0])
 rintro ⟨i, hi, ht⟩ hk
 dsimp only at hk ⊢
 by_cases hlt : i < a.must.length
 ·have c2 : ((i : Int) < (a.must.length : Int)) = True := by simp; omega
  obtain ⟨x, hx⟩ : ∃ x, a.must[i]? = some x := ⟨_, List.getElem?_eq_getElem hlt⟩
  obtain ⟨y, hy⟩ : ∃ y, b.must[i]? = some y := ⟨_, List.getElem?_eq_getElem (by omega)⟩
  have rx := row1_get (k := .u32) hx
  have ry := row1_get (k := .u32) hy
  by_cases hxy : x = y
  ·have c3 : (x == y) = true := by simpa using hxy
   repeat' ((first | apply Run_seq | apply Run_skip | apply Run_block | apply Run_blk | refine Run_exit rfl ?_ | apply Run_ret | apply Run_nil | apply Run_condK | apply Run_ops mixed | apply Run_opsX mixed | with_reducible refine PostV_open ?_ | with_reducible refine ro_callV ?_ | simp (disch := omega) only [w64] | ((first | refine GuardK_split ?_ ?_ | refine CondK_split ?_ ?_) <;> intro hc <;> (try simp only [hc]) <;> try simp at hc) | (with_reducible refine And.intro ?_ ?_; (focus ((repeat' (with_reducible refine And.intro ?_ ?_)) <;> first | exact trivial | assumption | (simp; done) | (simp only [List.length_map] at *; omega) | omega | (simp [D.cells, D.ok, D.one, D.pt, D.pt1]; done)))) | (with_reducible intro x hx) | omega) <;> (try simp only [row1_len, c2, rx, ry, Qu.cells, Nat.reduceBEq, reduceIte, binD, binInt, binStr, faddrD, loadD, D.pt0, D.norm1, view, view2, view1, view0, ofRes, fw]))
   refine hk ⟨i + 1, by omega, eq_step ht hx hy hxy⟩ _ _ (by dsimp only; omega) ?_
   dsimp only [Qu.cells]
   refine Ent_gc [0, 1] (by rfl) (by simp) (by simp [keptW, ObKW, ObW, imp_self, pullOb, or_false]) (by simp [lk_hit, lk_miss, D.pt0, viewS_own', pull, pull2, pull1, pull0, idx_hit, idx_miss, sucO_some, gate, List.mem_cons, or_false, view0])
  ·have c3 : (x == y) = false := by simpa using hxy
   have e : decide (a = b) = false := by
    have := eq_no hx hy hxy
    simp only [decide_eq_false_iff_not] at this ⊢
    exact fun h => this (by rw [h])
   rw [e]
   repeat' ((first | apply Run_seq | apply Run_skip | apply Run_block | apply Run_blk | refine Run_exit rfl ?_ | apply Run_ret | apply Run_nil | apply Run_condK | apply Run_ops mixed | apply Run_opsX mixed | with_reducible refine PostV_open ?_ | with_reducible refine ro_callV ?_ | simp (disch := omega) only [w64] | ((first | refine GuardK_split ?_ ?_ | refine CondK_split ?_ ?_) <;> intro hc <;> (try simp only [hc]) <;> try simp at hc) | (with_reducible refine And.intro ?_ ?_; (focus ((repeat' (with_reducible refine And.intro ?_ ?_)) <;> first | exact trivial | assumption | (simp; done) | (simp only [List.length_map] at *; omega) | omega | (simp [D.cells, D.ok, D.one, D.pt, D.pt1]; done)))) | (with_reducible intro x hx) | omega) <;> (try simp only [row1_len, c2, rx, ry, Qu.cells, Nat.reduceBEq, reduceIte, binD, binInt, binStr, faddrD, loadD, D.pt0, D.norm1, view, view2, view1, view0, ofRes, fw]))
 ·have c2 : ((i : Int) < (a.must.length : Int)) = False := by simp; omega
  have q_must : a.must = b.must := by simpa using eq_end ht hlt hl0
  clear hk ht hlt hi
  repeat' ((first | apply Run_seq | apply Run_skip | apply Run_block | apply Run_blk | refine Run_exit rfl ?_ | apply Run_ret | apply Run_nil | apply Run_condK | apply Run_ops mixed | apply Run_opsX mixed | with_reducible refine PostV_open ?_ | with_reducible refine ro_callV ?_ | simp (disch := omega) only [w64, wu64, wu32, wu16, wu8, Int.tdiv_eq_ediv_of_nonneg, Int.tmod_eq_emod_of_nonneg] | ((first | refine GuardK_split ?_ ?_ | refine CondK_split ?_ ?_) <;> intro hc <;> (try simp only [hc]) <;> try simp at hc) | (with_reducible refine And.intro ?_ ?_; (focus ((repeat' (with_reducible refine And.intro ?_ ?_)) <;> first | exact trivial | assumption | (simp; done) | (simp only [List.length_map] at *; omega) | omega | (simp [D.cells, D.ok, D.one, D.pt, D.pt1]; done)))) | (with_reducible intro x hx) | omega) <;> (try simp only [row2_len, c2, Qu.cells, Nat.reduceBEq, reduceIte, binD, binInt, faddrD, lenD, loadD, fw]))
  clear c2
  refine Run_loop (ι := {i : Nat // i ≤ a.may.length ∧ a.may.take i = b.may.take i}) (fun i => ([(2, .ptr 0 0 0 1), (3, .ptr 1 0 0 1), (81, .int .i64 a.may.length), (82, .int .i64 i.1)], [⟨true, false, true, false, 9, [a.cells], some 0⟩, ⟨true, false, true, false, 9, [b.cells], some 0⟩])) (fun i => a.may.length - i.1) ⟨0, by simp⟩ ?_ ?_
  ·dsimp only [Qu.cells]
   refine Ent_gc [0, 1] (by rfl) (by simp) (by simp [keptW, ObKW, ObW, imp_self, pullOb, or_false]) (by simp [lk_hit, lk_miss, D.pt0, viewS_own', pull, pull2, pull1, pull0, idx_hit, idx_miss, sucO_some, gate, List.mem_cons, or_false, view0])
  rintro ⟨i, hi, ht⟩ hk
  dsimp only at hk ⊢
  by_cases hlt : i < a.may.length
  ·have c2 : ((i : Int) < (a.may.length : Int)) = True := by simp; omega
   obtain ⟨x, hx⟩ : ∃ x, a.may[i]? = some x := ⟨_, List.getElem?_eq_getElem hlt⟩
   obtain ⟨y, hy⟩ : ∃ y, b.may[i]? = some y := ⟨_, List.getElem?_eq_getElem (by omega)⟩
   have rx := row2_get (k := .u32) (m := .i64) hx
   have ry := row2_get (k := .u32) (m := .i64) hy
   have q2 := b2 (x := x) (y := y)
   by_cases hxy : x = y
   ·have c3 : decide (x = y) = true := by simpa using hxy
    repeat' ((first | apply Run_seq | apply Run_skip | apply Run_block | apply Run_blk | refine Run_exit rfl ?_ | apply Run_ret | apply Run_nil | apply Run_condK | apply Run_ops mixed | apply Run_opsX mixed | with_reducible refine PostV_open ?_ | with_reducible refine ro_callV ?_ | simp (disch := omega) only [w64] | ((first | refine GuardK_split ?_ ?_ | refine CondK_split ?_ ?_) <;> intro hc <;> (try simp only [hc]) <;> try simp at hc) | (with_reducible refine And.intro ?_ ?_; (focus ((repeat' (with_reducible refine And.intro ?_ ?_)) <;> first | exact trivial | assumption | (simp; done) | (simp only [List.length_map] at *; omega) | omega | (simp [D.cells, D.ok, D.one, D.pt, D.pt1]; done)))) | (with_reducible intro x hx) | omega) <;> (try simp only [row2_len, c2, q2, c3, rx, ry, Qu.cells, Nat.reduceBEq, reduceIte, Nat.reduceAdd, binD, binInt, eqD, eqCell, eqCells, eqN, boolD, faddrD, loadD, cond_true, fw]))
    refine hk ⟨i + 1, by omega, eq_step ht hx hy hxy⟩ _ _ (by dsimp only; omega) ?_
    dsimp only [Qu.cells]
    refine Ent_gc [0, 1] (by rfl) (by simp) (by simp [keptW, ObKW, ObW, imp_self, pullOb, or_false]) (by simp [lk_hit, lk_miss, D.pt0, viewS_own', pull, pull2, pull1, pull0, idx_hit, idx_miss, sucO_some, gate, List.mem_cons, or_false, view0])
   ·have c3 : decide (x = y) = false := by simpa using hxy
    have e : decide (a = b) = false := by
     have := eq_no hx hy hxy
     simp only [decide_eq_false_iff_not] at this ⊢
     exact fun h => this (by rw [h])
    rw [e]
    repeat' ((first | apply Run_seq | apply Run_skip | apply Run_block | apply Run_blk | refine Run_exit rfl ?_ | apply Run_ret | apply Run_nil | apply Run_condK | apply Run_ops mixed | apply Run_opsX mixed | with_reducible refine PostV_open ?_ | with_reducible refine ro_callV ?_ | simp (disch := omega) only [w64, wu64, wu32, wu16, wu8, Int.tdiv_eq_ediv_of_nonneg, Int.tmod_eq_emod_of_nonneg] | ((first | refine GuardK_split ?_ ?_ | refine CondK_split ?_ ?_) <;> intro hc <;> (try simp only [hc]) <;> try simp at hc) | (with_reducible refine And.intro ?_ ?_; (focus ((repeat' (with_reducible refine And.intro ?_ ?_)) <;> first | exact trivial | assumption | (simp; done) | (simp only [List.length_map] at *; omega) | omega | (simp [D.cells, D.ok, D.one, D.pt, D.pt1]; done)))) | (with_reducible intro x hx) | omega) <;> (try simp only [row2_len, c2, q2, c3, rx, ry, Qu.cells, Nat.reduceBEq, reduceIte, Nat.reduceAdd, binD, binInt, eqD, eqCell, eqCells, eqN, boolD, faddrD, loadD, D.pt0, D.norm1, cond_true, view, view2, view1, view0, ofRes, fw]))
  ·have c2 : ((i : Int) < (a.may.length : Int)) = False := by simp; omega
   have q_may : a.may = b.may := by simpa using eq_end ht hlt hl1
   clear hk ht hlt hi
   repeat' ((first | apply Run_seq | apply Run_skip | apply Run_block | apply Run_blk | refine Run_exit rfl ?_ | apply Run_ret | apply Run_nil | apply Run_condK | apply Run_ops mixed | apply Run_opsX mixed | with_reducible refine PostV_open ?_ | with_reducible refine ro_callV ?_ | simp (disch := omega) only [w64, wu64, wu32, wu16, wu8, Int.tdiv_eq_ediv_of_nonneg, Int.tmod_eq_emod_of_nonneg] | ((first | refine GuardK_split ?_ ?_ | refine CondK_split ?_ ?_) <;> intro hc <;> (try simp only [hc]) <;> try simp at hc) | (with_reducible refine And.intro ?_ ?_; (focus ((repeat' (with_reducible refine And.intro ?_ ?_)) <;> first | exact trivial | assumption | (simp; done) | (simp only [List.length_map] at *; omega) | omega | (simp [D.cells, D.ok, D.one, D.pt, D.pt1]; done)))) | (with_reducible intro x hx) | omega) <;> (try simp only [row2_len, c2, Qu.cells, Nat.reduceBEq, reduceIte, binD, binInt, faddrD, lenD, loadD, fw]))
   clear c2
   refine Run_loop (ι := {i : Nat // i ≤ a.apart.length ∧ a.apart.take i = b.apart.take i}) (fun i => ([(2, .ptr 0 0 0 1), (3, .ptr 1 0 0 1), (99, .int .i64 a.apart.length), (100, .int .i64 i.1)], [⟨true, false, true, false, 9, [a.cells], some 0⟩, ⟨true, false, true, false, 9, [b.cells], some 0⟩])) (fun i => a.apart.length - i.1) ⟨0, by simp⟩ ?_ ?_
   ·dsimp only [Qu.cells]
    refine Ent_gc [0, 1] (by rfl) (by simp) (by simp [keptW, ObKW, ObW, imp_self, pullOb, or_false]) (by simp [lk_hit, lk_miss, D.pt0, viewS_own', pull, pull2, pull1, pull0, idx_hit, idx_miss, sucO_some, gate, List.mem_cons, or_false, view0])
   rintro ⟨i, hi, ht⟩ hk
   dsimp only at hk ⊢
   by_cases hlt : i < a.apart.length
   ·have c2 : ((i : Int) < (a.apart.length : Int)) = True := by simp; omega
    obtain ⟨x, hx⟩ : ∃ x, a.apart[i]? = some x := ⟨_, List.getElem?_eq_getElem hlt⟩
    obtain ⟨y, hy⟩ : ∃ y, b.apart[i]? = some y := ⟨_, List.getElem?_eq_getElem (by omega)⟩
    have rx := row2_get (k := .u32) (m := .u32) hx
    have ry := row2_get (k := .u32) (m := .u32) hy
    have q2 := b2 (x := x) (y := y)
    by_cases hxy : x = y
    ·have c3 : decide (x = y) = true := by simpa using hxy
     repeat' ((first | apply Run_seq | apply Run_skip | apply Run_block | apply Run_blk | refine Run_exit rfl ?_ | apply Run_ret | apply Run_nil | apply Run_condK | apply Run_ops mixed | apply Run_opsX mixed | with_reducible refine PostV_open ?_ | with_reducible refine ro_callV ?_ | simp (disch := omega) only [w64] | ((first | refine GuardK_split ?_ ?_ | refine CondK_split ?_ ?_) <;> intro hc <;> (try simp only [hc]) <;> try simp at hc) | (with_reducible refine And.intro ?_ ?_; (focus ((repeat' (with_reducible refine And.intro ?_ ?_)) <;> first | exact trivial | assumption | (simp; done) | (simp only [List.length_map] at *; omega) | omega | (simp [D.cells, D.ok, D.one, D.pt, D.pt1]; done)))) | (with_reducible intro x hx) | omega) <;> (try simp only [row2_len, c2, q2, c3, rx, ry, Qu.cells, Nat.reduceBEq, reduceIte, Nat.reduceAdd, binD, binInt, eqD, eqCell, eqCells, eqN, boolD, faddrD, loadD, cond_true, fw]))
     refine hk ⟨i + 1, by omega, eq_step ht hx hy hxy⟩ _ _ (by dsimp only; omega) ?_
     dsimp only [Qu.cells]
     refine Ent_gc [0, 1] (by rfl) (by simp) (by simp [keptW, ObKW, ObW, imp_self, pullOb, or_false]) (by simp [lk_hit, lk_miss, D.pt0, viewS_own', pull, pull2, pull1, pull0, idx_hit, idx_miss, sucO_some, gate, List.mem_cons, or_false, view0])
    ·have c3 : decide (x = y) = false := by simpa using hxy
     have e : decide (a = b) = false := by
      have := eq_no hx hy hxy
      simp only [decide_eq_false_iff_not] at this ⊢
      exact fun h => this (by rw [h])
     rw [e]
     repeat' ((first | apply Run_seq | apply Run_skip | apply Run_block | apply Run_blk | refine Run_exit rfl ?_ | apply Run_ret | apply Run_nil | apply Run_condK | apply Run_ops mixed | apply Run_opsX mixed | with_reducible refine PostV_open ?_ | with_reducible refine ro_callV ?_ | simp (disch := omega) only [w64, wu64, wu32, wu16, wu8, Int.tdiv_eq_ediv_of_nonneg, Int.tmod_eq_emod_of_nonneg] | ((first | refine GuardK_split ?_ ?_ | refine CondK_split ?_ ?_) <;> intro hc <;> (try simp only [hc]) <;> try simp at hc) | (with_reducible refine And.intro ?_ ?_; (focus ((repeat' (with_reducible refine And.intro ?_ ?_)) <;> first | exact trivial | assumption | (simp; done) | (simp only [List.length_map] at *; omega) | omega | (simp [D.cells, D.ok, D.one, D.pt, D.pt1]; done)))) | (with_reducible intro x hx) | omega) <;> (try simp only [row2_len, c2, q2, c3, rx, ry, Qu.cells, Nat.reduceBEq, reduceIte, Nat.reduceAdd, binD, binInt, eqD, eqCell, eqCells, eqN, boolD, faddrD, loadD, D.pt0, D.norm1, cond_true, view, view2, view1, view0, ofRes, fw]))
   ·have c2 : ((i : Int) < (a.apart.length : Int)) = False := by simp; omega
    have q_apart : a.apart = b.apart := by simpa using eq_end ht hlt hl2
    clear hk ht hlt hi
    have e6 : decide (a = b) = decide (a.prefer = b.prefer) := by
     rw [Bool.eq_iff_iff]; simp [Qu.eq_iff, e0, e1, e2, e3, e4, q_must, q_may, q_apart]
    rw [e6]
    have w_prefer := shifts_p a.prefer b.prefer (by omega) (by omega)
    repeat' ((first | apply Run_seq | apply Run_skip | apply Run_block | apply Run_blk | refine Run_exit rfl ?_ | apply Run_ret | apply Run_nil | apply Run_condK | apply Run_ops mixed | apply Run_opsX mixed | with_reducible refine PostV_open ?_ | with_reducible refine ro_callV ?_ | refine CallV_pure (w_prefer) ?_ ?_ | simp (disch := omega) only [w64, wu64, wu32, wu16, wu8, Int.tdiv_eq_ediv_of_nonneg, Int.tmod_eq_emod_of_nonneg] | ((first | refine GuardK_split ?_ ?_ | refine CondK_split ?_ ?_) <;> intro hc <;> (try simp only [hc]) <;> try simp at hc) | (with_reducible refine And.intro ?_ ?_; (focus ((repeat' (with_reducible refine And.intro ?_ ?_)) <;> first | exact trivial | assumption | (simp; done) | (simp only [List.length_map] at *; omega) | omega | (simp [D.cells, D.ok, D.one, D.pt, D.pt1]; done)))) | (with_reducible intro x hx) | omega) <;> (try simp only [c2, Qu.cells, Nat.reduceBEq, reduceIte, binD, binInt, faddrD, loadD, D.pt, D.pt1, D.pt0, D.norm1, view, view2, view1, view0, mapO, D.sc, D.sc1, D.sc2, ofRes, fw]))
end Go.Proofs.Ytoleaiaeghbffaa
