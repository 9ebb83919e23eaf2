import Derived.Test.YtgefljdclekadaaGreatW0
import Derived.Test.YtgefljdclekadaaGreatVi25
set_option linter.unusedVariables false
set_option linter.unusedSimpArgs false
set_option linter.unnecessarySimpa false
namespace Go.Proofs.YtgefljdclekadaaGreat
open Go Go.Vi
theorem mixed : Tryz.prog.follows .mixedOrders = true := by kernel_rfl
structure Dn where
 c : Int
 n : Int
 v : Int
 deriving DecidableEq
def Dn.row (d : Dn) : List D := [.int .u32 d.c, .int .u64 d.n, .int .u64 d.v]
def rowsD (l : List Dn) : List (List D) := l.map Dn.row
theorem rowsD_len {l : List Dn} : (rowsD l).length = l.length := by simp [rowsD]
/-- A rule, an event, settings, a user, a query, a poll. -/
structure Ru where
 freq : Int
 interval : Int
 count : Int
 til : Int
 bm : List Int
 bmd : List Int
 bd : List (Int × Int)
 bsp : List Int
 start : Int
 deriving DecidableEq
structure Ev where
 start : Int
 long : Int
 world : Bool
 again : Bool
 rule : Ru
 ex : List Int
 plus : List Int
 ch : List (Int × Int × Int)
 deriving DecidableEq
structure Se where
 base : Int
 turns : List (Int × Int)
 shifts : List (Int × Int × Int)
 off : List Int
 before : Int
 after : Int
 deriving DecidableEq
structure En where
 id : Int
 ev : Ev
 deriving DecidableEq
structure Us where
 id : Int
 se : Se
 ver : Int
 evs : List En
 deriving DecidableEq
structure Qu where
 a : Int
 b : Int
 long : Int
 grid : Int
 must : List Int
 may : List (Int × Int)
 seats : Int
 apart : List (Int × Int)
 prefer : List (Int × Int × Int)
 deriving DecidableEq
structure Po where
 id : Int
 owner : Int
 qu : Qu
 slots : List Int
 votes : List (Int × Int)
 til : Int
 state : Int
 winner : Int
 deriving DecidableEq
def row1 (k : IntKind) (l : List Int) : List (List D) := l.map fun x => [.int k x]
def row2 (k m : IntKind) (l : List (Int × Int)) : List (List D) := l.map fun x => [.int k x.1, .int m x.2]
def row3 (l : List (Int × Int × Int)) : List (List D) := l.map fun x => [.int .i64 x.1, .int .i64 x.2.1, .int .i64 x.2.2]
abbrev L (rows : List (List D)) : D := .list none false rows
def Ru.cells (r : Ru) : List D := [.int .i64 r.freq, .int .i64 r.interval, .int .i64 r.count, .int .i64 r.til, L (row1 .i64 r.bm), L (row1 .i64 r.bmd), L (row2 .i64 .i64 r.bd), L (row1 .i64 r.bsp), .int .i64 r.start]
def Ev.cells (e : Ev) : List D := [.int .i64 e.start, .int .i64 e.long, .bool e.world, .bool e.again, .int .i64 e.rule.freq, .int .i64 e.rule.interval, .int .i64 e.rule.count, .int .i64 e.rule.til, L (row1 .i64 e.rule.bm), L (row1 .i64 e.rule.bmd), L (row2 .i64 .i64 e.rule.bd), L (row1 .i64 e.rule.bsp), .int .i64 e.rule.start, L (row1 .i64 e.ex), L (row1 .i64 e.plus), L (row3 e.ch)]
def Se.cells (s : Se) : List D := [.int .i64 s.base, L (row2 .i64 .i64 s.turns), L (row3 s.shifts), L (row1 .i64 s.off), .int .i64 s.before, .int .i64 s.after]
def En.row (e : En) : List D := [.int .u32 e.id, .int .i64 e.ev.start, .int .i64 e.ev.long, .bool e.ev.world, .bool e.ev.again, .int .i64 e.ev.rule.freq, .int .i64 e.ev.rule.interval, .int .i64 e.ev.rule.count, .int .i64 e.ev.rule.til, L (row1 .i64 e.ev.rule.bm), L (row1 .i64 e.ev.rule.bmd), L (row2 .i64 .i64 e.ev.rule.bd), L (row1 .i64 e.ev.rule.bsp), .int .i64 e.ev.rule.start, L (row1 .i64 e.ev.ex), L (row1 .i64 e.ev.plus), L (row3 e.ev.ch)]
def rowsE (l : List En) : List (List D) := l.map En.row
def Us.row (u : Us) : List D := [.int .u32 u.id, .int .i64 u.se.base, L (row2 .i64 .i64 u.se.turns), L (row3 u.se.shifts), L (row1 .i64 u.se.off), .int .i64 u.se.before, .int .i64 u.se.after, .int .u64 u.ver, L (rowsE u.evs)]
def rowsU (l : List Us) : List (List D) := l.map Us.row
def Qu.cells (q : Qu) : List D := [.int .i64 q.a, .int .i64 q.b, .int .i64 q.long, .int .i64 q.grid, L (row1 .u32 q.must), L (row2 .u32 .i64 q.may), .int .i64 q.seats, L (row2 .u32 .u32 q.apart), L (row3 q.prefer)]
def Po.row (p : Po) : List D := [.int .u32 p.id, .int .u32 p.owner, .int .i64 p.qu.a, .int .i64 p.qu.b, .int .i64 p.qu.long, .int .i64 p.qu.grid, L (row1 .u32 p.qu.must), L (row2 .u32 .i64 p.qu.may), .int .i64 p.qu.seats, L (row2 .u32 .u32 p.qu.apart), L (row3 p.qu.prefer), L (row1 .i64 p.slots), L (row2 .u32 .i64 p.votes), .int .i64 p.til, .int .i64 p.state, .int .i64 p.winner]
def rowsP (l : List Po) : List (List D) := l.map Po.row
theorem row1_len {k : IntKind} {l : List Int} : (row1 k l).length = l.length := by simp [row1]
theorem row2_len {k m : IntKind} {l : List (Int × Int)} : (row2 k m l).length = l.length := by simp [row2]
theorem row3_len {l : List (Int × Int × Int)} : (row3 l).length = l.length := by simp [row3]
theorem rowsE_len {l : List En} : (rowsE l).length = l.length := by simp [rowsE]
theorem rowsU_len {l : List Us} : (rowsU l).length = l.length := by simp [rowsU]
theorem rowsP_len {l : List Po} : (rowsP l).length = l.length := by simp [rowsP]
theorem row1_get {k : IntKind} {l : List Int} {i : Nat} {x : Int} (h : l[i]? = some x) : (row1 k l)[i]? = some [.int k x] := by simp [row1, h]
theorem row2_get {k m : IntKind} {l : List (Int × Int)} {i : Nat} {x : Int × Int} (h : l[i]? = some x) : (row2 k m l)[i]? = some [.int k x.1, .int m x.2] := by simp [row2, h]
theorem row3_get {l : List (Int × Int × Int)} {i : Nat} {x : Int × Int × Int} (h : l[i]? = some x) : (row3 l)[i]? = some [.int .i64 x.1, .int .i64 x.2.1, .int .i64 x.2.2] := by simp [row3, h]
def Se.great (s : Se) : Bool := decide (100 < s.turns.length) || decide (30 < s.shifts.length) || decide (100 < s.off.length)
def Ev.great (e : Ev) : Bool := decide (80 < e.ex.length) || decide (80 < e.plus.length) || decide (80 < e.ch.length) || decide (100 < e.rule.bm.length) || decide (100 < e.rule.bmd.length) || decide (200 < e.rule.bd.length) || decide (500 < e.rule.bsp.length)
def Qu.great (s : Qu) : Bool := decide (80 < s.must.length) || decide (40 < s.may.length) || decide (60 < s.apart.length) || decide (30 < s.prefer.length)
theorem greatQu_p (s : Qu) : PureD Tryz.prog 48 [.agg s.cells] (.bool s.great) := by
 refine pureV Tryz.func48 low48 (by simp [c48]) ?_
 simp only [c48]
 repeat' ((first | apply Run_seq | apply Run_ret | apply Run_nil | apply Run_ops mixed | with_reducible refine PostV_open ?_ | (refine GuardK_split ?_ ?_ <;> intro hc <;> (try simp only [hc]) <;> try simp at hc) | (with_reducible refine ⟨?_, ?_⟩; (focus ((repeat' with_reducible refine ⟨?_, ?_⟩) <;> first | exact trivial | assumption | (simp; done) | (simp only [List.length_map] at *; omega) | omega | (simp [fs]; done)))) | (with_reducible intro x hx) | omega) <;> (try simp only [row1_len, row2_len, row3_len, Qu.cells, Nat.reduceBEq, reduceIte, Nat.reduceAdd, reduceCtorEq, cond_true, cond_false, ne_eq, fw, fd]))
 all_goals (unfold Qu.great; rw [Bool.eq_iff_iff]; simp; omega)
def Po.great (s : Po) : Bool := s.qu.great || decide (80 < s.slots.length) || decide (300 < s.votes.length)
theorem greatPo_p (s : Po) : PureD Tryz.prog 17 [.agg s.row] (.bool s.great) := by
 refine pureV Tryz.func17 low17 (by simp [c17]) ?_
 simp only [c17, Po.row]
 have hq := greatQu_p s.qu
 simp only [Qu.cells] at hq
 repeat' ((first | apply Run_seq | apply Run_ret | apply Run_nil | apply Run_ops mixed | (with_reducible first | refine PostV_open ?_ | refine ro_callV ?_) | refine CallV_pure (hq) ?_ ?_ | (refine GuardK_split ?_ ?_ <;> intro hc <;> (try simp only [hc]) <;> try simp at hc) | (with_reducible refine ⟨?_, ?_⟩; (focus ((repeat' with_reducible refine ⟨?_, ?_⟩) <;> first | exact trivial | assumption | (simp; done) | (simp only [List.length_map] at *; omega) | omega | (simp [fs]; done)))) | (with_reducible intro x hx) | omega) <;> (try simp only [row1_len, row2_len, Nat.reduceBEq, reduceIte, Nat.reduceAdd, Nat.reduceLeDiff, reduceCtorEq, cond_true, cond_false, ne_eq, fw, fd]))
 all_goals (unfold Po.great; rw [Bool.eq_iff_iff]; simp [*]; try omega)
def Us.great (u : Us) : Bool := u.se.great || decide (10 < u.evs.length) || u.evs.any fun e => e.ev.great
/-- Lengths that fit. -/
def Us.fits (u : Us) : Prop := u.evs.length ≤ 140737488351232
def fits (us : List Us) (ps : List Po) (ds : List Dn) : Prop := us.length ≤ 1407374883512 ∧ ps.length ≤ 1407374883512 ∧ ds.length ≤ 5864062014677 ∧ ∀ u ∈ us, u.fits
end Go.Proofs.YtgefljdclekadaaGreat

namespace Go.Proofs.YtgefljdclekadaaGreat
open Go Go.Vi


theorem b2 {x y : Int × Int} : ((x.1 == y.1) && (x.2 == y.2)) = decide (x = y) := by
 rw [Bool.eq_iff_iff]; simp [Prod.ext_iff]
theorem b3 {x y : Int × Int × Int} : ((x.1 == y.1) && ((x.2.1 == y.2.1) && (x.2.2 == y.2.2))) = decide (x = y) := by
 rw [Bool.eq_iff_iff]; simp [Prod.ext_iff]
theorem eq_end {α : Type} [DecidableEq α] {a b : List α} {i : Nat} (h : a.take i = b.take i) (hi : ¬ i < a.length) (hl : a.length = b.length) : decide (a = b) = true := by
 rw [List.take_of_length_le (by omega), List.take_of_length_le (by omega)] at h
 simpa using h
theorem eq_step {α : Type} {a b : List α} {i : Nat} {x y : α} (h : a.take i = b.take i) (hx : a[i]? = some x) (hy : b[i]? = some y) (hxy : x = y) : a.take (i + 1) = b.take (i + 1) := by
 rw [List.take_add_one, List.take_add_one, h, hx, hy, hxy]
theorem eq_no {α : Type} [DecidableEq α] {a b : List α} {i : Nat} {x y : α} (hx : a[i]? = some x) (hy : b[i]? = some y) (hxy : ¬ x = y) : decide (a = b) = false := by
 simp only [decide_eq_false_iff_not]
 rintro rfl
 rw [hx] at hy
 exact hxy (by simpa using hy)
theorem eq_len {α : Type} [DecidableEq α] {a b : List α} (h : ¬ a.length = b.length) : decide (a = b) = false := by
 simp only [decide_eq_false_iff_not]
 rintro rfl
 exact h rfl
theorem lenB {a b : Nat} (h : ¬ a = b) : ((a : Int) == (b : Int)) = false := by simp; omega
theorem longs_p (a b : List Int) (ha : a.length ≤ 140737488351232) (hb : b.length ≤ 140737488351232) : PureD Tryz.prog 70 [L (row1 .i64 a), L (row1 .i64 b)] (.bool (decide (a = b))) := by
 refine pureV Tryz.func70 low70 (by simp [c70]) ?_
 simp only [c70]
 by_cases hl : ¬ a.length = b.length
 ·have c1 := lenB hl
  rw [eq_len hl]
  repeat' ((first | apply Run_seq | apply Run_skip | apply Run_block | apply Run_blk | refine Run_exit rfl ?_ | apply Run_ret | apply Run_nil | apply Run_condK | apply Run_ops mixed | apply Run_opsX mixed | with_reducible refine PostV_open ?_ | simp (disch := omega) only [w64, wu64, wu32, wu16, wu8, Int.tdiv_eq_ediv_of_nonneg, Int.tmod_eq_emod_of_nonneg] | (refine CondK_split ?_ ?_ <;> intro hc <;> (try simp only [hc]) <;> try simp at hc) | (with_reducible refine ⟨?_, ?_⟩; (focus ((repeat' with_reducible refine ⟨?_, ?_⟩) <;> first | exact trivial | assumption | (simp; done) | (simp only [List.length_map] at *; omega) | omega | (simp [fs]; done)))) | (with_reducible intro x hx) | omega) <;> (try simp only [row1_len, Nat.reduceBEq, reduceIte, fw, fd]))
 have hl : a.length = b.length := by omega
 have c1 : ((a.length : Int) == (b.length : Int)) = true := by simp [hl]
 repeat' ((first | apply Run_seq | apply Run_skip | apply Run_block | apply Run_blk | refine Run_exit rfl ?_ | apply Run_ret | apply Run_nil | apply Run_condK | apply Run_ops mixed | apply Run_opsX mixed | with_reducible refine PostV_open ?_ | simp (disch := omega) only [w64, wu64, wu32, wu16, wu8, Int.tdiv_eq_ediv_of_nonneg, Int.tmod_eq_emod_of_nonneg] | (refine CondK_split ?_ ?_ <;> intro hc <;> (try simp only [hc]) <;> try simp at hc) | (with_reducible refine ⟨?_, ?_⟩; (focus ((repeat' with_reducible refine ⟨?_, ?_⟩) <;> first | exact trivial | assumption | (simp; done) | (simp only [List.length_map] at *; omega) | omega | (simp [fs]; done)))) | (with_reducible intro x hx) | omega) <;> (try simp only [row1_len, Nat.reduceBEq, reduceIte, fw, fd]))
 refine Run_loop (ι := {i : Nat // i ≤ a.length ∧ a.take i = b.take i}) (fun i => ([(0, L (row1 .i64 a)), (1, L (row1 .i64 b)), (12, .int .i64 a.length), (13, .int .i64 i.1)], [])) (fun i => a.length - i.1) ⟨0, by simp⟩ ?_ ?_
 ·refine Ent_gc [] (by rfl) (by simp) (by simp [keptW]) (by simp [fg])
 rintro ⟨i, hi, ht⟩ hk
 dsimp only at hk ⊢
 by_cases hlt : i < a.length
 ·have c2 : ((i : Int) < (a.length : Int)) = True := by simp; omega
  obtain ⟨x, hx⟩ : ∃ x, a[i]? = some x := ⟨_, List.getElem?_eq_getElem hlt⟩
  obtain ⟨y, hy⟩ : ∃ y, b[i]? = some y := ⟨_, List.getElem?_eq_getElem (by omega)⟩
  have rx := row1_get (k := .i64) hx
  have ry := row1_get (k := .i64) hy
  by_cases hxy : x = y
  ·have c3 : (x == y) = true := by simpa using hxy
   repeat' ((first | apply Run_seq | apply Run_skip | apply Run_block | apply Run_blk | refine Run_exit rfl ?_ | apply Run_ret | apply Run_nil | apply Run_condK | apply Run_ops mixed | apply Run_opsX mixed | with_reducible refine PostV_open ?_ | simp (disch := omega) only [w64] | (refine CondK_split ?_ ?_ <;> intro hc <;> (try simp only [hc]) <;> try simp at hc) | (with_reducible refine ⟨?_, ?_⟩; (focus ((repeat' with_reducible refine ⟨?_, ?_⟩) <;> first | exact trivial | assumption | (simp; done) | (simp only [List.length_map] at *; omega) | omega | (simp [fs]; done)))) | (with_reducible intro x hx) | omega) <;> (try simp only [row1_len, c2, rx, ry, Nat.reduceBEq, reduceIte, fw, fd]))
   refine hk ⟨i + 1, by omega, eq_step ht hx hy hxy⟩ _ _ (by dsimp only; omega) ?_
   dsimp only
   refine Ent_gc [] (by rfl) (by simp) (by simp [keptW]) (by simp [fg])
  ·have c3 : (x == y) = false := by simpa using hxy
   rw [eq_no hx hy hxy]
   repeat' ((first | apply Run_seq | apply Run_skip | apply Run_block | apply Run_blk | refine Run_exit rfl ?_ | apply Run_ret | apply Run_nil | apply Run_condK | apply Run_ops mixed | apply Run_opsX mixed | with_reducible refine PostV_open ?_ | simp (disch := omega) only [w64] | (refine CondK_split ?_ ?_ <;> intro hc <;> (try simp only [hc]) <;> try simp at hc) | (with_reducible refine ⟨?_, ?_⟩; (focus ((repeat' with_reducible refine ⟨?_, ?_⟩) <;> first | exact trivial | assumption | (simp; done) | (simp only [List.length_map] at *; omega) | omega | (simp [fs]; done)))) | (with_reducible intro x hx) | omega) <;> (try simp only [row1_len, c2, rx, ry, Nat.reduceBEq, reduceIte, fw, fd]))
 ·have c2 : ((i : Int) < (a.length : Int)) = False := by simp; omega
  rw [eq_end ht hlt hl]
  repeat' ((first | apply Run_seq | apply Run_skip | apply Run_block | apply Run_blk | refine Run_exit rfl ?_ | apply Run_ret | apply Run_nil | apply Run_condK | apply Run_ops mixed | apply Run_opsX mixed | with_reducible refine PostV_open ?_ | simp (disch := omega) only [w64, wu64, wu32, wu16, wu8, Int.tdiv_eq_ediv_of_nonneg, Int.tmod_eq_emod_of_nonneg] | (refine CondK_split ?_ ?_ <;> intro hc <;> (try simp only [hc]) <;> try simp at hc) | (with_reducible refine ⟨?_, ?_⟩; (focus ((repeat' with_reducible refine ⟨?_, ?_⟩) <;> first | exact trivial | assumption | (simp; done) | (simp only [List.length_map] at *; omega) | omega | (simp [fs]; done)))) | (with_reducible intro x hx) | omega) <;> (try simp only [c2, Nat.reduceBEq, reduceIte, fw, fd]))
theorem shifts_p (a b : List (Int × Int × Int)) (ha : a.length ≤ 140737488351232) (hb : b.length ≤ 140737488351232) : PureD Tryz.prog 108 [L (row3 a), L (row3 b)] (.bool (decide (a = b))) := by
 refine pureV Tryz.func108 low108 (by simp [c108]) ?_
 simp only [c108]
 by_cases hl : ¬ a.length = b.length
 ·have c1 := lenB hl
  rw [eq_len hl]
  repeat' ((first | apply Run_seq | apply Run_skip | apply Run_block | apply Run_blk | refine Run_exit rfl ?_ | apply Run_ret | apply Run_nil | apply Run_condK | apply Run_ops mixed | apply Run_opsX mixed | with_reducible refine PostV_open ?_ | simp (disch := omega) only [w64, wu64, wu32, wu16, wu8, Int.tdiv_eq_ediv_of_nonneg, Int.tmod_eq_emod_of_nonneg] | (refine CondK_split ?_ ?_ <;> intro hc <;> (try simp only [hc]) <;> try simp at hc) | (with_reducible refine ⟨?_, ?_⟩; (focus ((repeat' with_reducible refine ⟨?_, ?_⟩) <;> first | exact trivial | assumption | (simp; done) | (simp only [List.length_map] at *; omega) | omega | (simp [fs]; done)))) | (with_reducible intro x hx) | omega) <;> (try simp only [row3_len, Nat.reduceBEq, reduceIte, fw, fd]))
 have hl : a.length = b.length := by omega
 have c1 : ((a.length : Int) == (b.length : Int)) = true := by simp [hl]
 repeat' ((first | apply Run_seq | apply Run_skip | apply Run_block | apply Run_blk | refine Run_exit rfl ?_ | apply Run_ret | apply Run_nil | apply Run_condK | apply Run_ops mixed | apply Run_opsX mixed | with_reducible refine PostV_open ?_ | simp (disch := omega) only [w64, wu64, wu32, wu16, wu8, Int.tdiv_eq_ediv_of_nonneg, Int.tmod_eq_emod_of_nonneg] | (refine CondK_split ?_ ?_ <;> intro hc <;> (try simp only [hc]) <;> try simp at hc) | (with_reducible refine ⟨?_, ?_⟩; (focus ((repeat' with_reducible refine ⟨?_, ?_⟩) <;> first | exact trivial | assumption | (simp; done) | (simp only [List.length_map] at *; omega) | omega | (simp [fs]; done)))) | (with_reducible intro x hx) | omega) <;> (try simp only [row3_len, Nat.reduceBEq, reduceIte, fw, fd]))
 refine Run_loop (ι := {i : Nat // i ≤ a.length ∧ a.take i = b.take i}) (fun i => ([(0, L (row3 a)), (1, L (row3 b)), (12, .int .i64 a.length), (13, .int .i64 i.1)], [])) (fun i => a.length - i.1) ⟨0, by simp⟩ ?_ ?_
 ·refine Ent_gc [] (by rfl) (by simp) (by simp [keptW]) (by simp [fg])
 rintro ⟨i, hi, ht⟩ hk
 dsimp only at hk ⊢
 by_cases hlt : i < a.length
 ·have c2 : ((i : Int) < (a.length : Int)) = True := by simp; omega
  obtain ⟨x, hx⟩ : ∃ x, a[i]? = some x := ⟨_, List.getElem?_eq_getElem hlt⟩
  obtain ⟨y, hy⟩ : ∃ y, b[i]? = some y := ⟨_, List.getElem?_eq_getElem (by omega)⟩
  have rx := row3_get hx
  have ry := row3_get hy
  have e3 := b3 (x := x) (y := y)
  by_cases hxy : x = y
  ·have c3 : decide (x = y) = true := by simpa using hxy
   repeat' ((first | apply Run_seq | apply Run_skip | apply Run_block | apply Run_blk | refine Run_exit rfl ?_ | apply Run_ret | apply Run_nil | apply Run_condK | apply Run_ops mixed | apply Run_opsX mixed | with_reducible refine PostV_open ?_ | simp (disch := omega) only [w64] | (refine CondK_split ?_ ?_ <;> intro hc <;> (try simp only [hc]) <;> try simp at hc) | (with_reducible refine ⟨?_, ?_⟩; (focus ((repeat' with_reducible refine ⟨?_, ?_⟩) <;> first | exact trivial | assumption | (simp; done) | (simp only [List.length_map] at *; omega) | omega | (simp [fs]; done)))) | (with_reducible intro x hx) | omega) <;> (try simp only [row3_len, c2, e3, c3, rx, ry, Nat.reduceBEq, reduceIte, Nat.reduceAdd, cond_true, fw, fd]))
   refine hk ⟨i + 1, by omega, eq_step ht hx hy hxy⟩ _ _ (by dsimp only; omega) ?_
   dsimp only
   refine Ent_gc [] (by rfl) (by simp) (by simp [keptW]) (by simp [fg])
  ·have c3 : decide (x = y) = false := by simpa using hxy
   rw [eq_no hx hy hxy]
   repeat' ((first | apply Run_seq | apply Run_skip | apply Run_block | apply Run_blk | refine Run_exit rfl ?_ | apply Run_ret | apply Run_nil | apply Run_condK | apply Run_ops mixed | apply Run_opsX mixed | with_reducible refine PostV_open ?_ | simp (disch := omega) only [w64, wu64, wu32, wu16, wu8, Int.tdiv_eq_ediv_of_nonneg, Int.tmod_eq_emod_of_nonneg] | (refine CondK_split ?_ ?_ <;> intro hc <;> (try simp only [hc]) <;> try simp at hc) | (with_reducible refine ⟨?_, ?_⟩; (focus ((repeat' with_reducible refine ⟨?_, ?_⟩) <;> first | exact trivial | assumption | (simp; done) | (simp only [List.length_map] at *; omega) | omega | (simp [fs]; done)))) | (with_reducible intro x hx) | omega) <;> (try simp only [row3_len, c2, e3, c3, rx, ry, Nat.reduceBEq, reduceIte, Nat.reduceAdd, cond_true, fw, fd]))
 ·have c2 : ((i : Int) < (a.length : Int)) = False := by simp; omega
  rw [eq_end ht hlt hl]
  repeat' ((first | apply Run_seq | apply Run_skip | apply Run_block | apply Run_blk | refine Run_exit rfl ?_ | apply Run_ret | apply Run_nil | apply Run_condK | apply Run_ops mixed | apply Run_opsX mixed | with_reducible refine PostV_open ?_ | simp (disch := omega) only [w64, wu64, wu32, wu16, wu8, Int.tdiv_eq_ediv_of_nonneg, Int.tmod_eq_emod_of_nonneg] | (refine CondK_split ?_ ?_ <;> intro hc <;> (try simp only [hc]) <;> try simp at hc) | (with_reducible refine ⟨?_, ?_⟩; (focus ((repeat' with_reducible refine ⟨?_, ?_⟩) <;> first | exact trivial | assumption | (simp; done) | (simp only [List.length_map] at *; omega) | omega | (simp [fs]; done)))) | (with_reducible intro x hx) | omega) <;> (try simp only [c2, Nat.reduceBEq, reduceIte, fw, fd]))
end Go.Proofs.YtgefljdclekadaaGreat

namespace Go.Proofs.YtgefljdclekadaaGreat
open Go Go.Vi


theorem Ru.eq_iff {a b : Ru} : a = b ↔ (a.freq = b.freq ∧ a.interval = b.interval ∧ a.count = b.count ∧ a.til = b.til ∧ a.bm = b.bm ∧ a.bmd = b.bmd ∧ a.bd = b.bd ∧ a.bsp = b.bsp ∧ a.start = b.start) := by
 cases a; cases b; simp only [Ru.mk.injEq]
def Ru.fits (r : Ru) : Prop := r.bm.length ≤ 140737488351232 ∧ r.bmd.length ≤ 140737488351232 ∧ r.bd.length ≤ 140737488351232 ∧ r.bsp.length ≤ 140737488351232
end Go.Proofs.YtgefljdclekadaaGreat
