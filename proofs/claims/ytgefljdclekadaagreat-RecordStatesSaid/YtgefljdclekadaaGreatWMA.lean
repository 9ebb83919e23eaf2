import Derived.Test.YtgefljdclekadaaGreatW0
import Derived.Test.YtgefljdclekadaaGreatVi25
set_option linter.unusedVariables false
set_option linter.unusedSimpArgs false
namespace Go.Proofs.YtgefljdclekadaaGreat
open Go Go.Vi
theorem mixed : Tryz.prog.follows .mixedOrders = true := by kernel_rfl
structure Dn where
 c : Int
 n : Int
 v : Int
 deriving DecidableEq
def Dn.row (d : Dn) : List D := [.int .u32 d.c, .int .u64 d.n, .int .u64 d.v]
def eE (l : List Dn) : List (List D) := l.map Dn.row
theorem cL {l : List Dn} : (eE l).length = l.length := by simp [eE]
structure Ru where
 freq : Int
 interval : Int
 count : Int
 til : Int
 bm : List Int
 bmd : List Int
 bd : List (Int × Int)
 bsp : List Int
 start : Int
 deriving DecidableEq
structure Ev where
 start : Int
 long : Int
 world : Bool
 again : Bool
 rule : Ru
 ex : List Int
 plus : List Int
 ch : List (Int × Int × Int)
 deriving DecidableEq
structure Se where
 base : Int
 turns : List (Int × Int)
 shifts : List (Int × Int × Int)
 off : List Int
 before : Int
 after : Int
 deriving DecidableEq
structure En where
 id : Int
 ev : Ev
 deriving DecidableEq
structure Us where
 id : Int
 se : Se
 ver : Int
 evs : List En
 deriving DecidableEq
structure Qu where
 a : Int
 b : Int
 long : Int
 grid : Int
 must : List Int
 may : List (Int × Int)
 seats : Int
 apart : List (Int × Int)
 prefer : List (Int × Int × Int)
 deriving DecidableEq
structure Po where
 id : Int
 owner : Int
 qu : Qu
 slots : List Int
 votes : List (Int × Int)
 til : Int
 state : Int
 winner : Int
 deriving DecidableEq
def aJ (k : IntKind) (l : List Int) : List (List D) := l.map fun x => [.int k x]
def aV (k m : IntKind) (l : List (Int × Int)) : List (List D) := l.map fun x => [.int k x.1, .int m x.2]
def bo (l : List (Int × Int × Int)) : List (List D) := l.map fun x => [.int .i64 x.1, .int .i64 x.2.1, .int .i64 x.2.2]
abbrev L (rows : List (List D)) : D := .list none false rows
def Ru.cells (r : Ru) : List D := [.int .i64 r.freq, .int .i64 r.interval, .int .i64 r.count, .int .i64 r.til, L (aJ .i64 r.bm), L (aJ .i64 r.bmd), L (aV .i64 .i64 r.bd), L (aJ .i64 r.bsp), .int .i64 r.start]
def Ev.cells (e : Ev) : List D := [.int .i64 e.start, .int .i64 e.long, .bool e.world, .bool e.again, .int .i64 e.rule.freq, .int .i64 e.rule.interval, .int .i64 e.rule.count, .int .i64 e.rule.til, L (aJ .i64 e.rule.bm), L (aJ .i64 e.rule.bmd), L (aV .i64 .i64 e.rule.bd), L (aJ .i64 e.rule.bsp), .int .i64 e.rule.start, L (aJ .i64 e.ex), L (aJ .i64 e.plus), L (bo e.ch)]
def Se.cells (s : Se) : List D := [.int .i64 s.base, L (aV .i64 .i64 s.turns), L (bo s.shifts), L (aJ .i64 s.off), .int .i64 s.before, .int .i64 s.after]
def En.row (e : En) : List D := [.int .u32 e.id, .int .i64 e.ev.start, .int .i64 e.ev.long, .bool e.ev.world, .bool e.ev.again, .int .i64 e.ev.rule.freq, .int .i64 e.ev.rule.interval, .int .i64 e.ev.rule.count, .int .i64 e.ev.rule.til, L (aJ .i64 e.ev.rule.bm), L (aJ .i64 e.ev.rule.bmd), L (aV .i64 .i64 e.ev.rule.bd), L (aJ .i64 e.ev.rule.bsp), .int .i64 e.ev.rule.start, L (aJ .i64 e.ev.ex), L (aJ .i64 e.ev.plus), L (bo e.ev.ch)]
def cW (l : List En) : List (List D) := l.map En.row
def Us.row (u : Us) : List D := [.int .u32 u.id, .int .i64 u.se.base, L (aV .i64 .i64 u.se.turns), L (bo u.se.shifts), L (aJ .i64 u.se.off), .int .i64 u.se.before, .int .i64 u.se.after, .int .u64 u.ver, L (cW u.evs)]
def bP (l : List Us) : List (List D) := l.map Us.row
def Qu.cells (q : Qu) : List D := [.int .i64 q.a, .int .i64 q.b, .int .i64 q.long, .int .i64 q.grid, L (aJ .u32 q.must), L (aV .u32 .i64 q.may), .int .i64 q.seats, L (aV .u32 .u32 q.apart), L (bo q.prefer)]
def Po.row (p : Po) : List D := [.int .u32 p.id, .int .u32 p.owner, .int .i64 p.qu.a, .int .i64 p.qu.b, .int .i64 p.qu.long, .int .i64 p.qu.grid, L (aJ .u32 p.qu.must), L (aV .u32 .i64 p.qu.may), .int .i64 p.qu.seats, L (aV .u32 .u32 p.qu.apart), L (bo p.qu.prefer), L (aJ .i64 p.slots), L (aV .u32 .i64 p.votes), .int .i64 p.til, .int .i64 p.state, .int .i64 p.winner]
def bO (l : List Po) : List (List D) := l.map Po.row
theorem aI {k : IntKind} {l : List Int} : (aJ k l).length = l.length := by simp [aJ]
theorem aD {k m : IntKind} {l : List (Int × Int)} : (aV k m l).length = l.length := by simp [aV]
theorem aR {l : List (Int × Int × Int)} : (bo l).length = l.length := by simp [bo]
theorem dP {l : List En} : (cW l).length = l.length := by simp [cW]
theorem cO {l : List Us} : (bP l).length = l.length := by simp [bP]
theorem cM {l : List Po} : (bO l).length = l.length := by simp [bO]
theorem bS {k : IntKind} {l : List Int} {i : Nat} {x : Int} (h : l[i]? = some x) : (aJ k l)[i]? = some [.int k x] := by simp [aJ, h]
theorem bu {k m : IntKind} {l : List (Int × Int)} {i : Nat} {x : Int × Int} (h : l[i]? = some x) : (aV k m l)[i]? = some [.int k x.1, .int m x.2] := by simp [aV, h]
theorem dj {l : List (Int × Int × Int)} {i : Nat} {x : Int × Int × Int} (h : l[i]? = some x) : (bo l)[i]? = some [.int .i64 x.1, .int .i64 x.2.1, .int .i64 x.2.2] := by simp [bo, h]
theorem jj {l : List En} {i : Nat} {x : En} (h : l[i]? = some x) : (cW l)[i]? = some x.row := by simp [cW, h]
theorem jl {l : List Us} {i : Nat} {x : Us} (h : l[i]? = some x) : (bP l)[i]? = some x.row := by simp [bP, h]
theorem jk {l : List Po} {i : Nat} {x : Po} (h : l[i]? = some x) : (bO l)[i]? = some x.row := by simp [bO, h]
def Se.great (s : Se) : Bool := decide (100 < s.turns.length) || decide (30 < s.shifts.length) || decide (100 < s.off.length)
theorem r9 (s : Se) : aP Tryz.prog 32 [.agg s.cells] (.bool s.great) := by
 refine bf Tryz.func32 low32 (by simp [c32]) ?_
 simp only [c32]
 repeat' ((first | apply ah | apply ai | apply af | apply ak mixed | with_reducible refine ac ?_ | (refine aj ?_ ?_ <;> intro hc <;> (try simp only [hc]) <;> try simp at hc) | (with_reducible refine ⟨?_, ?_⟩; (focus ((repeat' with_reducible refine ⟨?_, ?_⟩) <;> first | exact trivial | assumption | (simp; done) | (simp only [zA] at *; omega) | omega | (simp [fs]; done)))) | (with_reducible intro x hx) | omega) <;> (try simp only [aI, aD, aR, Se.cells, Nat.reduceBEq, reduceIte, Nat.reduceAdd, reduceCtorEq, cond_true, cond_false, ne_eq, fw, fd]))
 all_goals (unfold Se.great; rw [zN]; simp; omega)
def Ev.great (e : Ev) : Bool := decide (80 < e.ex.length) || decide (80 < e.plus.length) || decide (80 < e.ch.length) || decide (100 < e.rule.bm.length) || decide (100 < e.rule.bmd.length) || decide (200 < e.rule.bd.length) || decide (500 < e.rule.bsp.length)
theorem rX (s : Ev) : aP Tryz.prog 33 [.agg s.cells] (.bool s.great) := by
 refine bf Tryz.func33 low33 (by simp [c33]) ?_
 simp only [c33]
 repeat' ((first | apply ah | apply ai | apply af | apply ak mixed | with_reducible refine ac ?_ | (refine aj ?_ ?_ <;> intro hc <;> (try simp only [hc]) <;> try simp at hc) | (with_reducible refine ⟨?_, ?_⟩; (focus ((repeat' with_reducible refine ⟨?_, ?_⟩) <;> first | exact trivial | assumption | (simp; done) | (simp only [zA] at *; omega) | omega | (simp [fs]; done)))) | (with_reducible intro x hx) | omega) <;> (try simp only [aI, aD, aR, Ev.cells, Nat.reduceBEq, reduceIte, Nat.reduceAdd, reduceCtorEq, cond_true, cond_false, ne_eq, fw, fd]))
 all_goals (unfold Ev.great; rw [zN]; simp; omega)
def Qu.great (s : Qu) : Bool := decide (80 < s.must.length) || decide (40 < s.may.length) || decide (60 < s.apart.length) || decide (30 < s.prefer.length)
theorem rZ (s : Qu) : aP Tryz.prog 48 [.agg s.cells] (.bool s.great) := by
 refine bf Tryz.func48 low48 (by simp [c48]) ?_
 simp only [c48]
 repeat' ((first | apply ah | apply ai | apply af | apply ak mixed | with_reducible refine ac ?_ | (refine aj ?_ ?_ <;> intro hc <;> (try simp only [hc]) <;> try simp at hc) | (with_reducible refine ⟨?_, ?_⟩; (focus ((repeat' with_reducible refine ⟨?_, ?_⟩) <;> first | exact trivial | assumption | (simp; done) | (simp only [zA] at *; omega) | omega | (simp [fs]; done)))) | (with_reducible intro x hx) | omega) <;> (try simp only [aI, aD, aR, Qu.cells, Nat.reduceBEq, reduceIte, Nat.reduceAdd, reduceCtorEq, cond_true, cond_false, ne_eq, fw, fd]))
 all_goals (unfold Qu.great; rw [zN]; simp; omega)
def Po.great (s : Po) : Bool := s.qu.great || decide (80 < s.slots.length) || decide (300 < s.votes.length)
theorem rY (s : Po) : aP Tryz.prog 17 [.agg s.row] (.bool s.great) := by
 refine bf Tryz.func17 low17 (by simp [c17]) ?_
 simp only [c17, Po.row]
 have hq := rZ s.qu
 simp only [Qu.cells] at hq
 repeat' ((first | apply ah | apply ai | apply af | apply ak mixed | (with_reducible first | refine ac ?_ | refine ar ?_) | refine ae (hq) ?_ ?_ | (refine aj ?_ ?_ <;> intro hc <;> (try simp only [hc]) <;> try simp at hc) | (with_reducible refine ⟨?_, ?_⟩; (focus ((repeat' with_reducible refine ⟨?_, ?_⟩) <;> first | exact trivial | assumption | (simp; done) | (simp only [zA] at *; omega) | omega | (simp [fs]; done)))) | (with_reducible intro x hx) | omega) <;> (try simp only [aI, aD, Nat.reduceBEq, reduceIte, Nat.reduceAdd, Nat.reduceLeDiff, reduceCtorEq, cond_true, cond_false, ne_eq, fw, fd]))
 all_goals (unfold Po.great; rw [zN]; simp [*]; try omega)
def St (t : Int) (us : List Us) (ps : List Po) (ds : List Dn) : D := .agg [.int .i64 t, L (bP us), L (bO ps), L (eE ds)]
def Us.great (u : Us) : Bool := u.se.great || decide (10 < u.evs.length) || u.evs.any fun e => e.ev.great
def eQ (us : List Us) (ps : List Po) (ds : List Dn) : Bool := decide (12 < us.length) || decide (8 < ps.length) || decide (100 < ds.length) || us.any Us.great || ps.any Po.great
def Us.fits (u : Us) : Prop := u.evs.length ≤ 140737488351232
def fits (us : List Us) (ps : List Po) (ds : List Dn) : Prop := us.length ≤ 1407374883512 ∧ ps.length ≤ 1407374883512 ∧ ds.length ≤ 5864062014677 ∧ ∀ u ∈ us, u.fits
theorem j7 {α : Type} {l : List α} {f : α → Bool} {i : Nat} {x : α} (h : l[i]? = some x) : (l.drop i).any f = (f x || (l.drop (i + 1)).any f) := by
 obtain ⟨hl, rfl⟩ := zG.1 h
 rw [List.drop_eq_getElem_cons hl, List.any_cons]
set_option maxHeartbeats 4000000 in
theorem lX (t : Int) (us : List Us) (ps : List Po) (ds : List Dn) (hf : fits us ps ds) : aP Tryz.prog 11 [St t us ps ds] (.bool (eQ us ps ds)) := by
 refine bf Tryz.func11 low11 (by simp [c11]) ?_
 simp only [c11, St]
 obtain ⟨f1, f2, f3, f4⟩ := hf
 by_cases h0 : 12 < us.length ∨ 8 < ps.length ∨ 100 < ds.length
 ·have e : eQ us ps ds = true := by
   unfold eQ
   rcases h0 with h | h | h <;> simp [h]
  rw [e]
  by_cases h1 : 12 < us.length
  ·have c1 : ((us.length : Int) > 12) = True := by simp; omega
   repeat' ((first | apply ah | apply al | apply ao | apply av | refine aq rfl ?_ | apply ai | apply af | apply ab | apply ak mixed | (with_reducible first | refine ac ?_ | refine ar ?_) | simp (disch := omega) only [aW, aF, aK, aL, bg, zI, zH] | ((first | refine aj ?_ ?_ | refine aa ?_ ?_) <;> intro hc <;> (try simp only [hc]) <;> try simp at hc) | (with_reducible refine ⟨?_, ?_⟩; (focus ((repeat' with_reducible refine ⟨?_, ?_⟩) <;> first | exact trivial | assumption | (simp; done) | (simp only [zA] at *; omega) | omega | (simp [fs]; done)))) | (with_reducible intro x hx) | omega) <;> (try simp only [cO, c1, Nat.reduceBEq, reduceIte, Nat.reduceAdd, reduceCtorEq, cond_true, ne_eq, fw, fd]))
  ·have c1 : ((us.length : Int) > 12) = False := by simp; omega
   by_cases h2 : 8 < ps.length
   ·have c2 : ((ps.length : Int) > 8) = True := by simp; omega
    repeat' ((first | apply ah | apply al | apply ao | apply av | refine aq rfl ?_ | apply ai | apply af | apply ab | apply ak mixed | (with_reducible first | refine ac ?_ | refine ar ?_) | simp (disch := omega) only [aW, aF, aK, aL, bg, zI, zH] | ((first | refine aj ?_ ?_ | refine aa ?_ ?_) <;> intro hc <;> (try simp only [hc]) <;> try simp at hc) | (with_reducible refine ⟨?_, ?_⟩; (focus ((repeat' with_reducible refine ⟨?_, ?_⟩) <;> first | exact trivial | assumption | (simp; done) | (simp only [zA] at *; omega) | omega | (simp [fs]; done)))) | (with_reducible intro x hx) | omega) <;> (try simp only [cO, cM, c1, c2, Nat.reduceBEq, reduceIte, Nat.reduceAdd, reduceCtorEq, cond_true, cond_false, ne_eq, fw, fd]))
   ·have c2 : ((ps.length : Int) > 8) = False := by simp; omega
    have c3 : ((ds.length : Int) > 100) = True := by simp; omega
    repeat' ((first | apply ah | apply al | apply ao | apply av | refine aq rfl ?_ | apply ai | apply af | apply ab | apply ak mixed | (with_reducible first | refine ac ?_ | refine ar ?_) | simp (disch := omega) only [aW, aF, aK, aL, bg, zI, zH] | ((first | refine aj ?_ ?_ | refine aa ?_ ?_) <;> intro hc <;> (try simp only [hc]) <;> try simp at hc) | (with_reducible refine ⟨?_, ?_⟩; (focus ((repeat' with_reducible refine ⟨?_, ?_⟩) <;> first | exact trivial | assumption | (simp; done) | (simp only [zA] at *; omega) | omega | (simp [fs]; done)))) | (with_reducible intro x hx) | omega) <;> (try simp only [cO, cM, cL, c1, c2, c3, Nat.reduceBEq, reduceIte, Nat.reduceAdd, reduceCtorEq, cond_false, ne_eq, fw, fd]))
 have c1 : ((us.length : Int) > 12) = False := by simp; omega
 have c2 : ((ps.length : Int) > 8) = False := by simp; omega
 have c3 : ((ds.length : Int) > 100) = False := by simp; omega
 have e : eQ us ps ds = (us.any Us.great || ps.any Po.great) := by
  unfold eQ
  have g1 : ¬ 12 < us.length := fun h => h0 (.inl h)
  have g2 : ¬ 8 < ps.length := fun h => h0 (.inr (.inl h))
  have g3 : ¬ 100 < ds.length := fun h => h0 (.inr (.inr h))
  simp [g1, g2, g3]
 rw [e]
 repeat' ((first | apply ah | apply al | apply ao | apply av | refine aq rfl ?_ | apply ai | apply af | apply ab | apply ak mixed | (with_reducible first | refine ac ?_ | refine ar ?_) | simp (disch := omega) only [aW, aF, aK, aL, bg, zI, zH] | ((first | refine aj ?_ ?_ | refine aa ?_ ?_) <;> intro hc <;> (try simp only [hc]) <;> try simp at hc) | (with_reducible refine ⟨?_, ?_⟩; (focus ((repeat' with_reducible refine ⟨?_, ?_⟩) <;> first | exact trivial | assumption | (simp; done) | (simp only [zA] at *; omega) | omega | (simp [fs]; done)))) | (with_reducible intro x hx) | omega) <;> (try simp only [cO, cM, cL, c1, c2, c3, Nat.reduceBEq, reduceIte, Nat.reduceAdd, reduceCtorEq, cond_false, ne_eq, fw, fd]))
 refine aM (ι := {i : Nat // i ≤ us.length ∧ us.any Us.great = (us.drop i).any Us.great}) (fun i => ([(1, .ptr 0 0 0 1), (25, .int .i64 us.length), (26, .int .i64 i.1)], [⟨true, false, true, false, 4, [[.int .i64 t, L (bP us), L (bO ps), L (eE ds)]], some 0⟩])) (fun i => us.length - i.1) ⟨0, by simp⟩ ?_ ?_
 ·refine aC [0] (by rfl) (by simp) (by simp [fg]) (by simp [fg])
 rintro ⟨i, hi, hg⟩ hk
 dsimp only at hk ⊢
 by_cases hlt : i < us.length
 ·have c4 : ((i : Int) < (us.length : Int)) = True := by simp; omega
  obtain ⟨u, hu⟩ : ∃ u, us[i]? = some u := ⟨_, zD hlt⟩
  have hr := jl hu
  have had := j7 (f := Us.great) hu
  have hse := r9 u.se
  simp only [Se.cells] at hse
  have hfu : u.evs.length ≤ 140737488351232 := f4 u (zE hu)
  by_cases hsg : u.se.great = true
  ·have e2 : us.any Us.great = true := by rw [hg, had]; simp [Us.great, hsg]
   rw [e2]
   repeat' ((first | apply ah | apply al | apply ao | apply av | refine aq rfl ?_ | apply ai | apply af | apply ab | apply ak mixed | (with_reducible first | refine ac ?_ | refine ar ?_) | refine ae (hse) ?_ ?_ | simp (disch := omega) only [aW, aF, aK, aL, bg, zI, zH] | ((first | refine aj ?_ ?_ | refine aa ?_ ?_) <;> intro hc <;> (try simp only [hc]) <;> try simp at hc) | (with_reducible refine ⟨?_, ?_⟩; (focus ((repeat' with_reducible refine ⟨?_, ?_⟩) <;> first | exact trivial | assumption | (simp; done) | (simp only [zA] at *; omega) | omega | (simp [fs]; done)))) | (with_reducible intro x hx) | omega) <;> (try simp only [cO, c4, hr, hsg, Us.row, Nat.reduceBEq, reduceIte, Nat.reduceAdd, Nat.reduceLeDiff, reduceCtorEq, cond_true, ne_eq, fw, fd]))
   all_goals simp
  have hsg' : u.se.great = false := by simpa using hsg
  by_cases h10 : 10 < u.evs.length
  ·have e2 : us.any Us.great = true := by rw [hg, had]; simp [Us.great, h10]
   rw [e2]
   have c5 : ((u.evs.length : Int) > 10) = True := by simp; omega
   repeat' ((first | apply ah | apply al | apply ao | apply av | refine aq rfl ?_ | apply ai | apply af | apply ab | apply ak mixed | (with_reducible first | refine ac ?_ | refine ar ?_) | refine ae (hse) ?_ ?_ | simp (disch := omega) only [aW, aF, aK, aL, bg, zI, zH] | ((first | refine aj ?_ ?_ | refine aa ?_ ?_) <;> intro hc <;> (try simp only [hc]) <;> try simp at hc) | (with_reducible refine ⟨?_, ?_⟩; (focus ((repeat' with_reducible refine ⟨?_, ?_⟩) <;> first | exact trivial | assumption | (simp; done) | (simp only [zA] at *; omega) | omega | (simp [fs]; done)))) | (with_reducible intro x hx) | omega) <;> (try simp only [dP, cO, c4, c5, hr, hsg', Us.row, Nat.reduceBEq, reduceIte, Nat.reduceAdd, Nat.reduceLeDiff, reduceCtorEq, cond_false, ne_eq, fw, fd]))
   all_goals simp
  have c5 : ((u.evs.length : Int) > 10) = False := by simp; omega
  repeat' ((first | apply ah | apply al | apply ao | apply av | refine aq rfl ?_ | apply ai | apply af | apply ab | apply ak mixed | (with_reducible first | refine ac ?_ | refine ar ?_) | refine ae (hse) ?_ ?_ | simp (disch := omega) only [aW, aF, aK, aL, bg, zI, zH] | ((first | refine aj ?_ ?_ | refine aa ?_ ?_) <;> intro hc <;> (try simp only [hc]) <;> try simp at hc) | (with_reducible refine ⟨?_, ?_⟩; (focus ((repeat' with_reducible refine ⟨?_, ?_⟩) <;> first | exact trivial | assumption | (simp; done) | (simp only [zA] at *; omega) | omega | (simp [fs]; done)))) | (with_reducible intro x hx) | omega) <;> (try simp only [dP, cO, c4, c5, hr, hsg', Us.row, Nat.reduceBEq, reduceIte, Nat.reduceAdd, Nat.reduceLeDiff, reduceCtorEq, cond_false, ne_eq, fw, fd]))
  refine aM (ι := {j : Nat // j ≤ u.evs.length ∧ (u.evs.any fun e => e.ev.great) = (u.evs.drop j).any fun e => e.ev.great}) (fun j => ([(1, .ptr 0 0 0 1), (25, .int .i64 us.length), (26, .int .i64 i), (4, .ptr 1 0 0 1), (45, .int .i64 u.evs.length), (46, .int .i64 j.1)], [⟨true, false, true, false, 4, [[.int .i64 t, L (bP us), L (bO ps), L (eE ds)]], some 0⟩, ⟨true, false, true, false, 9, [u.row], some 0⟩])) (fun j => u.evs.length - j.1) ⟨0, by simp⟩ ?_ ?_
  ·simp only [Us.row]
   refine aC [0, 1] (by rfl) (by simp) (by simp [fg]) (by simp [fg])
  rintro ⟨j, hj, hgj⟩ hkj
  dsimp only at hkj ⊢
  by_cases hltj : j < u.evs.length
  ·have c6 : ((j : Int) < (u.evs.length : Int)) = True := by simp; omega
   obtain ⟨v, hv⟩ : ∃ v, u.evs[j]? = some v := ⟨_, zD hltj⟩
   have hrv := jj hv
   have hadj := j7 (f := fun e : En => e.ev.great) hv
   have hev := rX v.ev
   simp only [Ev.cells] at hev
   by_cases hvg : v.ev.great = true
   ·have e2 : us.any Us.great = true := by rw [hg, had]; simp [Us.great, hgj, hadj, hvg]
    rw [e2]
    repeat' ((first | apply ah | apply al | apply ao | apply av | refine aq rfl ?_ | apply ai | apply af | apply ab | apply ak mixed | (with_reducible first | refine ac ?_ | refine ar ?_) | refine ae (hev) ?_ ?_ | simp (disch := omega) only [aW, aF, aK, aL, bg, zI, zH] | ((first | refine aj ?_ ?_ | refine aa ?_ ?_) <;> intro hc <;> (try simp only [hc]) <;> try simp at hc) | (with_reducible refine ⟨?_, ?_⟩; (focus ((repeat' with_reducible refine ⟨?_, ?_⟩) <;> first | exact trivial | assumption | (simp; done) | (simp only [zA] at *; omega) | omega | (simp [fs]; done)))) | (with_reducible intro x hx) | omega) <;> (try simp only [dP, c6, hrv, hvg, Us.row, En.row, Nat.reduceBEq, reduceIte, Nat.reduceAdd, fw, fd]))
    all_goals simp
   have hvg' : v.ev.great = false := by simpa using hvg
   repeat' ((first | apply ah | apply al | apply ao | apply av | refine aq rfl ?_ | apply ai | apply af | apply ab | apply ak mixed | (with_reducible first | refine ac ?_ | refine ar ?_) | refine ae (hev) ?_ ?_ | simp (disch := omega) only [aW] | ((first | refine aj ?_ ?_ | refine aa ?_ ?_) <;> intro hc <;> (try simp only [hc]) <;> try simp at hc) | (with_reducible refine ⟨?_, ?_⟩; (focus ((repeat' with_reducible refine ⟨?_, ?_⟩) <;> first | exact trivial | assumption | (simp; done) | (simp only [zA] at *; omega) | omega | (simp [fs]; done)))) | (with_reducible intro x hx) | omega) <;> (try simp only [dP, c6, hrv, hvg', Us.row, En.row, Nat.reduceBEq, reduceIte, Nat.reduceAdd, fw, fd]))
   refine hkj ⟨j + 1, by omega, by rw [hgj, hadj]; simp [hvg']⟩ _ _ (by dsimp only; omega) ?_
   dsimp only [Us.row]
   refine aC [0, 1] (by rfl) (by simp) (by simp [fg]) (by simp [fg])
  ·have c6 : ((j : Int) < (u.evs.length : Int)) = False := by simp; omega
   repeat' ((first | apply ah | apply al | apply ao | apply av | refine aq rfl ?_ | apply ai | apply af | apply ab | apply ak mixed | (with_reducible first | refine ac ?_ | refine ar ?_) | simp (disch := omega) only [aW] | ((first | refine aj ?_ ?_ | refine aa ?_ ?_) <;> intro hc <;> (try simp only [hc]) <;> try simp at hc) | (with_reducible refine ⟨?_, ?_⟩; (focus ((repeat' with_reducible refine ⟨?_, ?_⟩) <;> first | exact trivial | assumption | (simp; done) | (simp only [zA] at *; omega) | omega | (simp [fs]; done)))) | (with_reducible intro x hx) | omega) <;> (try simp only [c6, Us.row, Nat.reduceBEq, reduceIte, fH, bh, fw]))
   refine hk ⟨i + 1, by omega, ?_⟩ _ _ (by dsimp only; omega) ?_
   ·rw [hg, had]
    have : u.great = false := by
     unfold Us.great; rw [hgj, List.drop_eq_nil_of_le (by omega)]; simp [hsg', h10]
    rw [this]; rfl
   dsimp only
   refine aC [0] (by rfl) (by simp) (by simp [fg]) (by simp [fg])
 ·have c4 : ((i : Int) < (us.length : Int)) = False := by simp; omega
  have e3 : us.any Us.great = false := by rw [hg, List.drop_eq_nil_of_le (by omega)]; rfl
  rw [e3, Bool.false_or]
  clear hk hg e e3
  repeat' ((first | apply ah | apply al | apply ao | apply av | refine aq rfl ?_ | apply ai | apply af | apply ab | apply ak mixed | (with_reducible first | refine ac ?_ | refine ar ?_) | simp (disch := omega) only [aW, aF, aK, aL, bg, zI, zH] | ((first | refine aj ?_ ?_ | refine aa ?_ ?_) <;> intro hc <;> (try simp only [hc]) <;> try simp at hc) | (with_reducible refine ⟨?_, ?_⟩; (focus ((repeat' with_reducible refine ⟨?_, ?_⟩) <;> first | exact trivial | assumption | (simp; done) | (simp only [zA] at *; omega) | omega | (simp [fs]; done)))) | (with_reducible intro x hx) | omega) <;> (try simp only [cM, c4, Nat.reduceBEq, reduceIte, fw, fd]))
  refine aM (ι := {j : Nat // j ≤ ps.length ∧ ps.any Po.great = (ps.drop j).any Po.great}) (fun j => ([(1, .ptr 0 0 0 1), (60, .int .i64 ps.length), (61, .int .i64 j.1)], [⟨true, false, true, false, 4, [[.int .i64 t, L (bP us), L (bO ps), L (eE ds)]], some 0⟩])) (fun j => ps.length - j.1) ⟨0, by simp⟩ ?_ ?_
  ·refine aC [0] (by rfl) (by simp) (by simp [fg]) (by simp [fg])
  rintro ⟨j, hj, hgj⟩ hkj
  dsimp only at hkj ⊢
  by_cases hltj : j < ps.length
  ·have c6 : ((j : Int) < (ps.length : Int)) = True := by simp; omega
   obtain ⟨v, hv⟩ : ∃ v, ps[j]? = some v := ⟨_, zD hltj⟩
   have hrv := jk hv
   have hadj := j7 (f := Po.great) hv
   have hpo := rY v
   simp only [Po.row] at hpo
   by_cases hvg : v.great = true
   ·have e2 : ps.any Po.great = true := by rw [hgj, hadj]; simp [hvg]
    rw [e2]
    repeat' ((first | apply ah | apply al | apply ao | apply av | refine aq rfl ?_ | apply ai | apply af | apply ab | apply ak mixed | (with_reducible first | refine ac ?_ | refine ar ?_) | refine ae (hpo) ?_ ?_ | simp (disch := omega) only [aW, aF, aK, aL, bg, zI, zH] | ((first | refine aj ?_ ?_ | refine aa ?_ ?_) <;> intro hc <;> (try simp only [hc]) <;> try simp at hc) | (with_reducible refine ⟨?_, ?_⟩; (focus ((repeat' with_reducible refine ⟨?_, ?_⟩) <;> first | exact trivial | assumption | (simp; done) | (simp only [zA] at *; omega) | omega | (simp [fs]; done)))) | (with_reducible intro x hx) | omega) <;> (try simp only [cM, c6, hrv, hvg, Po.row, Nat.reduceBEq, reduceIte, Nat.reduceAdd, fw, fd]))
   have hvg' : v.great = false := by simpa using hvg
   repeat' ((first | apply ah | apply al | apply ao | apply av | refine aq rfl ?_ | apply ai | apply af | apply ab | apply ak mixed | (with_reducible first | refine ac ?_ | refine ar ?_) | refine ae (hpo) ?_ ?_ | simp (disch := omega) only [aW] | ((first | refine aj ?_ ?_ | refine aa ?_ ?_) <;> intro hc <;> (try simp only [hc]) <;> try simp at hc) | (with_reducible refine ⟨?_, ?_⟩; (focus ((repeat' with_reducible refine ⟨?_, ?_⟩) <;> first | exact trivial | assumption | (simp; done) | (simp only [zA] at *; omega) | omega | (simp [fs]; done)))) | (with_reducible intro x hx) | omega) <;> (try simp only [cM, c6, hrv, hvg', Po.row, Nat.reduceBEq, reduceIte, Nat.reduceAdd, fw, fd]))
   refine hkj ⟨j + 1, by omega, by rw [hgj, hadj]; simp [hvg']⟩ _ _ (by dsimp only; omega) ?_
   dsimp only
   refine aC [0] (by rfl) (by simp) (by simp [fg]) (by simp [fg])
  ·have c6 : ((j : Int) < (ps.length : Int)) = False := by simp; omega
   have e3 : ps.any Po.great = false := by rw [hgj, List.drop_eq_nil_of_le (by omega)]; rfl
   rw [e3]
   repeat' ((first | apply ah | apply al | apply ao | apply av | refine aq rfl ?_ | apply ai | apply af | apply ab | apply ak mixed | (with_reducible first | refine ac ?_ | refine ar ?_) | simp (disch := omega) only [aW, aF, aK, aL, bg, zI, zH] | ((first | refine aj ?_ ?_ | refine aa ?_ ?_) <;> intro hc <;> (try simp only [hc]) <;> try simp at hc) | (with_reducible refine ⟨?_, ?_⟩; (focus ((repeat' with_reducible refine ⟨?_, ?_⟩) <;> first | exact trivial | assumption | (simp; done) | (simp only [zA] at *; omega) | omega | (simp [fs]; done)))) | (with_reducible intro x hx) | omega) <;> (try simp only [c6, Nat.reduceBEq, reduceIte, fw, fd]))
end Go.Proofs.YtgefljdclekadaaGreat

namespace Go.Proofs.YtgefljdclekadaaGreat
open Go Go.Vi
theorem b2 {x y : Int × Int} : ((x.1 == y.1) && (x.2 == y.2)) = decide (x = y) := by
 rw [zN]; simp [Prod.ext_iff]
theorem b3 {x y : Int × Int × Int} : ((x.1 == y.1) && ((x.2.1 == y.2.1) && (x.2.2 == y.2.2))) = decide (x = y) := by
 rw [zN]; simp [Prod.ext_iff]
theorem bQ {α : Type} [DecidableEq α] {a b : List α} {i : Nat} (h : a.take i = b.take i) (hi : ¬ i < a.length) (hl : a.length = b.length) : decide (a = b) = true := by
 rw [List.take_of_length_le (by omega), List.take_of_length_le (by omega)] at h
 simpa using h
theorem bw {α : Type} {a b : List α} {i : Nat} {x y : α} (h : a.take i = b.take i) (hx : a[i]? = some x) (hy : b[i]? = some y) (hxy : x = y) : a.take (i + 1) = b.take (i + 1) := by
 rw [List.take_add_one, List.take_add_one, h, hx, hy, hxy]
theorem cF {α : Type} [DecidableEq α] {a b : List α} {i : Nat} {x y : α} (hx : a[i]? = some x) (hy : b[i]? = some y) (hxy : ¬ x = y) : decide (a = b) = false := by
 simp only [decide_eq_false_iff_not]
 rintro rfl
 rw [hx] at hy
 exact hxy (by simpa using hy)
theorem cY {α : Type} [DecidableEq α] {a b : List α} (h : ¬ a.length = b.length) : decide (a = b) = false := by
 simp only [decide_eq_false_iff_not]
 rintro rfl
 exact h rfl
theorem gp {a b : Nat} (h : ¬ a = b) : ((a : Int) == (b : Int)) = false := by simp; omega
theorem m2 (a b : List Int) (ha : a.length ≤ 140737488351232) (hb : b.length ≤ 140737488351232) : aP Tryz.prog 70 [L (aJ .i64 a), L (aJ .i64 b)] (.bool (decide (a = b))) := by
 refine bf Tryz.func70 low70 (by simp [c70]) ?_
 simp only [c70]
 by_cases hl : ¬ a.length = b.length
 ·have c1 := gp hl
  rw [cY hl]
  repeat' ((first | apply ah | apply al | apply ao | apply av | refine aq rfl ?_ | apply ai | apply af | apply ab | apply ak mixed | apply ap mixed | with_reducible refine ac ?_ | simp (disch := omega) only [aW, aF, aK, aL, bg, zI, zH] | (refine aa ?_ ?_ <;> intro hc <;> (try simp only [hc]) <;> try simp at hc) | (with_reducible refine ⟨?_, ?_⟩; (focus ((repeat' with_reducible refine ⟨?_, ?_⟩) <;> first | exact trivial | assumption | (simp; done) | (simp only [zA] at *; omega) | omega | (simp [fs]; done)))) | (with_reducible intro x hx) | omega) <;> (try simp only [aI, Nat.reduceBEq, reduceIte, fw, fd]))
 have hl : a.length = b.length := by omega
 have c1 : ((a.length : Int) == (b.length : Int)) = true := by simp [hl]
 repeat' ((first | apply ah | apply al | apply ao | apply av | refine aq rfl ?_ | apply ai | apply af | apply ab | apply ak mixed | apply ap mixed | with_reducible refine ac ?_ | simp (disch := omega) only [aW, aF, aK, aL, bg, zI, zH] | (refine aa ?_ ?_ <;> intro hc <;> (try simp only [hc]) <;> try simp at hc) | (with_reducible refine ⟨?_, ?_⟩; (focus ((repeat' with_reducible refine ⟨?_, ?_⟩) <;> first | exact trivial | assumption | (simp; done) | (simp only [zA] at *; omega) | omega | (simp [fs]; done)))) | (with_reducible intro x hx) | omega) <;> (try simp only [aI, Nat.reduceBEq, reduceIte, fw, fd]))
 refine aM (ι := {i : Nat // i ≤ a.length ∧ a.take i = b.take i}) (fun i => ([(0, L (aJ .i64 a)), (1, L (aJ .i64 b)), (12, .int .i64 a.length), (13, .int .i64 i.1)], [])) (fun i => a.length - i.1) ⟨0, by simp⟩ ?_ ?_
 ·refine aC [] (by rfl) (by simp) (by simp [bx]) (by simp [fg])
 rintro ⟨i, hi, ht⟩ hk
 dsimp only at hk ⊢
 by_cases hlt : i < a.length
 ·have c2 : ((i : Int) < (a.length : Int)) = True := by simp; omega
  obtain ⟨x, hx⟩ : ∃ x, a[i]? = some x := ⟨_, zD hlt⟩
  obtain ⟨y, hy⟩ : ∃ y, b[i]? = some y := ⟨_, zD (by omega)⟩
  have rx := bS (k := .i64) hx
  have ry := bS (k := .i64) hy
  by_cases hxy : x = y
  ·have c3 : (x == y) = true := by simpa using hxy
   repeat' ((first | apply ah | apply al | apply ao | apply av | refine aq rfl ?_ | apply ai | apply af | apply ab | apply ak mixed | apply ap mixed | with_reducible refine ac ?_ | simp (disch := omega) only [aW] | (refine aa ?_ ?_ <;> intro hc <;> (try simp only [hc]) <;> try simp at hc) | (with_reducible refine ⟨?_, ?_⟩; (focus ((repeat' with_reducible refine ⟨?_, ?_⟩) <;> first | exact trivial | assumption | (simp; done) | (simp only [zA] at *; omega) | omega | (simp [fs]; done)))) | (with_reducible intro x hx) | omega) <;> (try simp only [aI, c2, rx, ry, Nat.reduceBEq, reduceIte, fw, fd]))
   refine hk ⟨i + 1, by omega, bw ht hx hy hxy⟩ _ _ (by dsimp only; omega) ?_
   dsimp only
   refine aC [] (by rfl) (by simp) (by simp [bx]) (by simp [fg])
  ·have c3 : (x == y) = false := by simpa using hxy
   rw [cF hx hy hxy]
   repeat' ((first | apply ah | apply al | apply ao | apply av | refine aq rfl ?_ | apply ai | apply af | apply ab | apply ak mixed | apply ap mixed | with_reducible refine ac ?_ | simp (disch := omega) only [aW] | (refine aa ?_ ?_ <;> intro hc <;> (try simp only [hc]) <;> try simp at hc) | (with_reducible refine ⟨?_, ?_⟩; (focus ((repeat' with_reducible refine ⟨?_, ?_⟩) <;> first | exact trivial | assumption | (simp; done) | (simp only [zA] at *; omega) | omega | (simp [fs]; done)))) | (with_reducible intro x hx) | omega) <;> (try simp only [aI, c2, rx, ry, Nat.reduceBEq, reduceIte, fw, fd]))
 ·have c2 : ((i : Int) < (a.length : Int)) = False := by simp; omega
  rw [bQ ht hlt hl]
  repeat' ((first | apply ah | apply al | apply ao | apply av | refine aq rfl ?_ | apply ai | apply af | apply ab | apply ak mixed | apply ap mixed | with_reducible refine ac ?_ | simp (disch := omega) only [aW, aF, aK, aL, bg, zI, zH] | (refine aa ?_ ?_ <;> intro hc <;> (try simp only [hc]) <;> try simp at hc) | (with_reducible refine ⟨?_, ?_⟩; (focus ((repeat' with_reducible refine ⟨?_, ?_⟩) <;> first | exact trivial | assumption | (simp; done) | (simp only [zA] at *; omega) | omega | (simp [fs]; done)))) | (with_reducible intro x hx) | omega) <;> (try simp only [c2, Nat.reduceBEq, reduceIte, fw, fd]))
theorem y0 (a b : List Int) (ha : a.length ≤ 140737488351232) (hb : b.length ≤ 140737488351232) : aP Tryz.prog 117 [L (aJ .i64 a), L (aJ .i64 b)] (.bool (decide (a = b))) := by
 refine bf Tryz.func117 low117 (by simp [c117]) ?_
 simp only [c117]
 by_cases hl : ¬ a.length = b.length
 ·have c1 := gp hl
  rw [cY hl]
  repeat' ((first | apply ah | apply al | apply ao | apply av | refine aq rfl ?_ | apply ai | apply af | apply ab | apply ak mixed | apply ap mixed | with_reducible refine ac ?_ | simp (disch := omega) only [aW, aF, aK, aL, bg, zI, zH] | (refine aa ?_ ?_ <;> intro hc <;> (try simp only [hc]) <;> try simp at hc) | (with_reducible refine ⟨?_, ?_⟩; (focus ((repeat' with_reducible refine ⟨?_, ?_⟩) <;> first | exact trivial | assumption | (simp; done) | (simp only [zA] at *; omega) | omega | (simp [fs]; done)))) | (with_reducible intro x hx) | omega) <;> (try simp only [aI, Nat.reduceBEq, reduceIte, fw, fd]))
 have hl : a.length = b.length := by omega
 have c1 : ((a.length : Int) == (b.length : Int)) = true := by simp [hl]
 repeat' ((first | apply ah | apply al | apply ao | apply av | refine aq rfl ?_ | apply ai | apply af | apply ab | apply ak mixed | apply ap mixed | with_reducible refine ac ?_ | simp (disch := omega) only [aW, aF, aK, aL, bg, zI, zH] | (refine aa ?_ ?_ <;> intro hc <;> (try simp only [hc]) <;> try simp at hc) | (with_reducible refine ⟨?_, ?_⟩; (focus ((repeat' with_reducible refine ⟨?_, ?_⟩) <;> first | exact trivial | assumption | (simp; done) | (simp only [zA] at *; omega) | omega | (simp [fs]; done)))) | (with_reducible intro x hx) | omega) <;> (try simp only [aI, Nat.reduceBEq, reduceIte, fw, fd]))
 refine aM (ι := {i : Nat // i ≤ a.length ∧ a.take i = b.take i}) (fun i => ([(0, L (aJ .i64 a)), (1, L (aJ .i64 b)), (12, .int .i64 a.length), (13, .int .i64 i.1)], [])) (fun i => a.length - i.1) ⟨0, by simp⟩ ?_ ?_
 ·refine aC [] (by rfl) (by simp) (by simp [bx]) (by simp [fg])
 rintro ⟨i, hi, ht⟩ hk
 dsimp only at hk ⊢
 by_cases hlt : i < a.length
 ·have c2 : ((i : Int) < (a.length : Int)) = True := by simp; omega
  obtain ⟨x, hx⟩ : ∃ x, a[i]? = some x := ⟨_, zD hlt⟩
  obtain ⟨y, hy⟩ : ∃ y, b[i]? = some y := ⟨_, zD (by omega)⟩
  have rx := bS (k := .i64) hx
  have ry := bS (k := .i64) hy
  by_cases hxy : x = y
  ·have c3 : (x == y) = true := by simpa using hxy
   repeat' ((first | apply ah | apply al | apply ao | apply av | refine aq rfl ?_ | apply ai | apply af | apply ab | apply ak mixed | apply ap mixed | with_reducible refine ac ?_ | simp (disch := omega) only [aW] | (refine aa ?_ ?_ <;> intro hc <;> (try simp only [hc]) <;> try simp at hc) | (with_reducible refine ⟨?_, ?_⟩; (focus ((repeat' with_reducible refine ⟨?_, ?_⟩) <;> first | exact trivial | assumption | (simp; done) | (simp only [zA] at *; omega) | omega | (simp [fs]; done)))) | (with_reducible intro x hx) | omega) <;> (try simp only [aI, c2, rx, ry, Nat.reduceBEq, reduceIte, fw, fd]))
   refine hk ⟨i + 1, by omega, bw ht hx hy hxy⟩ _ _ (by dsimp only; omega) ?_
   dsimp only
   refine aC [] (by rfl) (by simp) (by simp [bx]) (by simp [fg])
  ·have c3 : (x == y) = false := by simpa using hxy
   rw [cF hx hy hxy]
   repeat' ((first | apply ah | apply al | apply ao | apply av | refine aq rfl ?_ | apply ai | apply af | apply ab | apply ak mixed | apply ap mixed | with_reducible refine ac ?_ | simp (disch := omega) only [aW] | (refine aa ?_ ?_ <;> intro hc <;> (try simp only [hc]) <;> try simp at hc) | (with_reducible refine ⟨?_, ?_⟩; (focus ((repeat' with_reducible refine ⟨?_, ?_⟩) <;> first | exact trivial | assumption | (simp; done) | (simp only [zA] at *; omega) | omega | (simp [fs]; done)))) | (with_reducible intro x hx) | omega) <;> (try simp only [aI, c2, rx, ry, Nat.reduceBEq, reduceIte, fw, fd]))
 ·have c2 : ((i : Int) < (a.length : Int)) = False := by simp; omega
  rw [bQ ht hlt hl]
  repeat' ((first | apply ah | apply al | apply ao | apply av | refine aq rfl ?_ | apply ai | apply af | apply ab | apply ak mixed | apply ap mixed | with_reducible refine ac ?_ | simp (disch := omega) only [aW, aF, aK, aL, bg, zI, zH] | (refine aa ?_ ?_ <;> intro hc <;> (try simp only [hc]) <;> try simp at hc) | (with_reducible refine ⟨?_, ?_⟩; (focus ((repeat' with_reducible refine ⟨?_, ?_⟩) <;> first | exact trivial | assumption | (simp; done) | (simp only [zA] at *; omega) | omega | (simp [fs]; done)))) | (with_reducible intro x hx) | omega) <;> (try simp only [c2, Nat.reduceBEq, reduceIte, fw, fd]))
theorem oW (a b : List (Int × Int × Int)) (ha : a.length ≤ 140737488351232) (hb : b.length ≤ 140737488351232) : aP Tryz.prog 108 [L (bo a), L (bo b)] (.bool (decide (a = b))) := by
 refine bf Tryz.func108 low108 (by simp [c108]) ?_
 simp only [c108]
 by_cases hl : ¬ a.length = b.length
 ·have c1 := gp hl
  rw [cY hl]
  repeat' ((first | apply ah | apply al | apply ao | apply av | refine aq rfl ?_ | apply ai | apply af | apply ab | apply ak mixed | apply ap mixed | with_reducible refine ac ?_ | simp (disch := omega) only [aW, aF, aK, aL, bg, zI, zH] | (refine aa ?_ ?_ <;> intro hc <;> (try simp only [hc]) <;> try simp at hc) | (with_reducible refine ⟨?_, ?_⟩; (focus ((repeat' with_reducible refine ⟨?_, ?_⟩) <;> first | exact trivial | assumption | (simp; done) | (simp only [zA] at *; omega) | omega | (simp [fs]; done)))) | (with_reducible intro x hx) | omega) <;> (try simp only [aR, Nat.reduceBEq, reduceIte, fw, fd]))
 have hl : a.length = b.length := by omega
 have c1 : ((a.length : Int) == (b.length : Int)) = true := by simp [hl]
 repeat' ((first | apply ah | apply al | apply ao | apply av | refine aq rfl ?_ | apply ai | apply af | apply ab | apply ak mixed | apply ap mixed | with_reducible refine ac ?_ | simp (disch := omega) only [aW, aF, aK, aL, bg, zI, zH] | (refine aa ?_ ?_ <;> intro hc <;> (try simp only [hc]) <;> try simp at hc) | (with_reducible refine ⟨?_, ?_⟩; (focus ((repeat' with_reducible refine ⟨?_, ?_⟩) <;> first | exact trivial | assumption | (simp; done) | (simp only [zA] at *; omega) | omega | (simp [fs]; done)))) | (with_reducible intro x hx) | omega) <;> (try simp only [aR, Nat.reduceBEq, reduceIte, fw, fd]))
 refine aM (ι := {i : Nat // i ≤ a.length ∧ a.take i = b.take i}) (fun i => ([(0, L (bo a)), (1, L (bo b)), (12, .int .i64 a.length), (13, .int .i64 i.1)], [])) (fun i => a.length - i.1) ⟨0, by simp⟩ ?_ ?_
 ·refine aC [] (by rfl) (by simp) (by simp [bx]) (by simp [fg])
 rintro ⟨i, hi, ht⟩ hk
 dsimp only at hk ⊢
 by_cases hlt : i < a.length
 ·have c2 : ((i : Int) < (a.length : Int)) = True := by simp; omega
  obtain ⟨x, hx⟩ : ∃ x, a[i]? = some x := ⟨_, zD hlt⟩
  obtain ⟨y, hy⟩ : ∃ y, b[i]? = some y := ⟨_, zD (by omega)⟩
  have rx := dj hx
  have ry := dj hy
  have e3 := b3 (x := x) (y := y)
  by_cases hxy : x = y
  ·have c3 : decide (x = y) = true := by simpa using hxy
   repeat' ((first | apply ah | apply al | apply ao | apply av | refine aq rfl ?_ | apply ai | apply af | apply ab | apply ak mixed | apply ap mixed | with_reducible refine ac ?_ | simp (disch := omega) only [aW] | (refine aa ?_ ?_ <;> intro hc <;> (try simp only [hc]) <;> try simp at hc) | (with_reducible refine ⟨?_, ?_⟩; (focus ((repeat' with_reducible refine ⟨?_, ?_⟩) <;> first | exact trivial | assumption | (simp; done) | (simp only [zA] at *; omega) | omega | (simp [fs]; done)))) | (with_reducible intro x hx) | omega) <;> (try simp only [aR, c2, e3, c3, rx, ry, Nat.reduceBEq, reduceIte, Nat.reduceAdd, cond_true, fw, fd]))
   refine hk ⟨i + 1, by omega, bw ht hx hy hxy⟩ _ _ (by dsimp only; omega) ?_
   dsimp only
   refine aC [] (by rfl) (by simp) (by simp [bx]) (by simp [fg])
  ·have c3 : decide (x = y) = false := by simpa using hxy
   rw [cF hx hy hxy]
   repeat' ((first | apply ah | apply al | apply ao | apply av | refine aq rfl ?_ | apply ai | apply af | apply ab | apply ak mixed | apply ap mixed | with_reducible refine ac ?_ | simp (disch := omega) only [aW, aF, aK, aL, bg, zI, zH] | (refine aa ?_ ?_ <;> intro hc <;> (try simp only [hc]) <;> try simp at hc) | (with_reducible refine ⟨?_, ?_⟩; (focus ((repeat' with_reducible refine ⟨?_, ?_⟩) <;> first | exact trivial | assumption | (simp; done) | (simp only [zA] at *; omega) | omega | (simp [fs]; done)))) | (with_reducible intro x hx) | omega) <;> (try simp only [aR, c2, e3, c3, rx, ry, Nat.reduceBEq, reduceIte, Nat.reduceAdd, cond_true, fw, fd]))
 ·have c2 : ((i : Int) < (a.length : Int)) = False := by simp; omega
  rw [bQ ht hlt hl]
  repeat' ((first | apply ah | apply al | apply ao | apply av | refine aq rfl ?_ | apply ai | apply af | apply ab | apply ak mixed | apply ap mixed | with_reducible refine ac ?_ | simp (disch := omega) only [aW, aF, aK, aL, bg, zI, zH] | (refine aa ?_ ?_ <;> intro hc <;> (try simp only [hc]) <;> try simp at hc) | (with_reducible refine ⟨?_, ?_⟩; (focus ((repeat' with_reducible refine ⟨?_, ?_⟩) <;> first | exact trivial | assumption | (simp; done) | (simp only [zA] at *; omega) | omega | (simp [fs]; done)))) | (with_reducible intro x hx) | omega) <;> (try simp only [c2, Nat.reduceBEq, reduceIte, fw, fd]))
end Go.Proofs.YtgefljdclekadaaGreat

namespace Go.Proofs.YtgefljdclekadaaGreat
open Go Go.Vi
theorem wj (a b : List Int) (ha : a.length ≤ 140737488351232) (hb : b.length ≤ 140737488351232) : aP Tryz.prog 112 [L (aJ .i64 a), L (aJ .i64 b)] (.bool (decide (a = b))) := by
 refine bf Tryz.func112 low112 (by simp [c112]) ?_
 simp only [c112]
 by_cases hl : ¬ a.length = b.length
 ·have c1 := gp hl
  rw [cY hl]
  repeat' ((first | apply ah | apply al | apply ao | apply av | refine aq rfl ?_ | apply ai | apply af | apply ab | apply ak mixed | apply ap mixed | with_reducible refine ac ?_ | simp (disch := omega) only [aW, aF, aK, aL, bg, zI, zH] | (refine aa ?_ ?_ <;> intro hc <;> (try simp only [hc]) <;> try simp at hc) | (with_reducible refine ⟨?_, ?_⟩; (focus ((repeat' with_reducible refine ⟨?_, ?_⟩) <;> first | exact trivial | assumption | (simp; done) | (simp only [zA] at *; omega) | omega | (simp [fs]; done)))) | (with_reducible intro x hx) | omega) <;> (try simp only [aI, Nat.reduceBEq, reduceIte, fw, fd]))
 have hl : a.length = b.length := by omega
 have c1 : ((a.length : Int) == (b.length : Int)) = true := by simp [hl]
 repeat' ((first | apply ah | apply al | apply ao | apply av | refine aq rfl ?_ | apply ai | apply af | apply ab | apply ak mixed | apply ap mixed | with_reducible refine ac ?_ | simp (disch := omega) only [aW, aF, aK, aL, bg, zI, zH] | (refine aa ?_ ?_ <;> intro hc <;> (try simp only [hc]) <;> try simp at hc) | (with_reducible refine ⟨?_, ?_⟩; (focus ((repeat' with_reducible refine ⟨?_, ?_⟩) <;> first | exact trivial | assumption | (simp; done) | (simp only [zA] at *; omega) | omega | (simp [fs]; done)))) | (with_reducible intro x hx) | omega) <;> (try simp only [aI, Nat.reduceBEq, reduceIte, fw, fd]))
 refine aM (ι := {i : Nat // i ≤ a.length ∧ a.take i = b.take i}) (fun i => ([(0, L (aJ .i64 a)), (1, L (aJ .i64 b)), (12, .int .i64 a.length), (13, .int .i64 i.1)], [])) (fun i => a.length - i.1) ⟨0, by simp⟩ ?_ ?_
 ·refine aC [] (by rfl) (by simp) (by simp [bx]) (by simp [fg])
 rintro ⟨i, hi, ht⟩ hk
 dsimp only at hk ⊢
 by_cases hlt : i < a.length
 ·have c2 : ((i : Int) < (a.length : Int)) = True := by simp; omega
  obtain ⟨x, hx⟩ : ∃ x, a[i]? = some x := ⟨_, zD hlt⟩
  obtain ⟨y, hy⟩ : ∃ y, b[i]? = some y := ⟨_, zD (by omega)⟩
  have rx := bS (k := .i64) hx
  have ry := bS (k := .i64) hy
  by_cases hxy : x = y
  ·have c3 : (x == y) = true := by simpa using hxy
   repeat' ((first | apply ah | apply al | apply ao | apply av | refine aq rfl ?_ | apply ai | apply af | apply ab | apply ak mixed | apply ap mixed | with_reducible refine ac ?_ | simp (disch := omega) only [aW] | (refine aa ?_ ?_ <;> intro hc <;> (try simp only [hc]) <;> try simp at hc) | (with_reducible refine ⟨?_, ?_⟩; (focus ((repeat' with_reducible refine ⟨?_, ?_⟩) <;> first | exact trivial | assumption | (simp; done) | (simp only [zA] at *; omega) | omega | (simp [fs]; done)))) | (with_reducible intro x hx) | omega) <;> (try simp only [aI, c2, rx, ry, Nat.reduceBEq, reduceIte, fw, fd]))
   refine hk ⟨i + 1, by omega, bw ht hx hy hxy⟩ _ _ (by dsimp only; omega) ?_
   dsimp only
   refine aC [] (by rfl) (by simp) (by simp [bx]) (by simp [fg])
  ·have c3 : (x == y) = false := by simpa using hxy
   rw [cF hx hy hxy]
   repeat' ((first | apply ah | apply al | apply ao | apply av | refine aq rfl ?_ | apply ai | apply af | apply ab | apply ak mixed | apply ap mixed | with_reducible refine ac ?_ | simp (disch := omega) only [aW] | (refine aa ?_ ?_ <;> intro hc <;> (try simp only [hc]) <;> try simp at hc) | (with_reducible refine ⟨?_, ?_⟩; (focus ((repeat' with_reducible refine ⟨?_, ?_⟩) <;> first | exact trivial | assumption | (simp; done) | (simp only [zA] at *; omega) | omega | (simp [fs]; done)))) | (with_reducible intro x hx) | omega) <;> (try simp only [aI, c2, rx, ry, Nat.reduceBEq, reduceIte, fw, fd]))
 ·have c2 : ((i : Int) < (a.length : Int)) = False := by simp; omega
  rw [bQ ht hlt hl]
  repeat' ((first | apply ah | apply al | apply ao | apply av | refine aq rfl ?_ | apply ai | apply af | apply ab | apply ak mixed | apply ap mixed | with_reducible refine ac ?_ | simp (disch := omega) only [aW, aF, aK, aL, bg, zI, zH] | (refine aa ?_ ?_ <;> intro hc <;> (try simp only [hc]) <;> try simp at hc) | (with_reducible refine ⟨?_, ?_⟩; (focus ((repeat' with_reducible refine ⟨?_, ?_⟩) <;> first | exact trivial | assumption | (simp; done) | (simp only [zA] at *; omega) | omega | (simp [fs]; done)))) | (with_reducible intro x hx) | omega) <;> (try simp only [c2, Nat.reduceBEq, reduceIte, fw, fd]))
theorem Ru.eq_iff {a b : Ru} : a = b ↔ (a.freq = b.freq ∧ a.interval = b.interval ∧ a.count = b.count ∧ a.til = b.til ∧ a.bm = b.bm ∧ a.bmd = b.bmd ∧ a.bd = b.bd ∧ a.bsp = b.bsp ∧ a.start = b.start) := by
 cases a; cases b; simp only [Ru.mk.injEq]
def Ru.fits (r : Ru) : Prop := r.bm.length ≤ 140737488351232 ∧ r.bmd.length ≤ 140737488351232 ∧ r.bd.length ≤ 140737488351232 ∧ r.bsp.length ≤ 140737488351232
set_option maxHeartbeats 1000000 in
theorem oU (a b : Ru) (fa : a.fits) (fb : b.fits) : aP Tryz.prog 82 [.agg a.cells, .agg b.cells] (.bool (decide (a = b))) := by
 refine bf Tryz.func82 low82 (by simp [c82]) ?_
 simp only [c82, Ru.cells]
 obtain ⟨a1, a2, a3, a4⟩ := fa
 obtain ⟨b1', b2', b3', b4⟩ := fb
 by_cases h : ¬ (b.freq = a.freq ∧ b.interval = a.interval ∧ b.count = a.count ∧ b.til = a.til ∧ b.start = a.start ∧ a.bd.length = b.bd.length)
 ·have e : decide (a = b) = false := by
   simp only [decide_eq_false_iff_not]
   rintro rfl
   exact h ⟨rfl, rfl, rfl, rfl, rfl, rfl⟩
  rw [e]
  repeat' ((first | apply ah | apply al | apply ao | apply av | refine aq rfl ?_ | apply ai | apply af | apply ab | apply ak mixed | apply ap mixed | (with_reducible first | refine ac ?_ | refine ar ?_) | simp (disch := omega) only [aW, aF, aK, aL, bg, zI, zH] | ((first | refine aj ?_ ?_ | refine aa ?_ ?_) <;> intro hc <;> (try simp only [hc]) <;> try simp at hc) | (with_reducible refine ⟨?_, ?_⟩; (focus ((repeat' with_reducible refine ⟨?_, ?_⟩) <;> first | exact trivial | assumption | (simp; done) | (simp only [zA] at *; omega) | omega | (simp [fs]; done)))) | (with_reducible intro x hx) | omega) <;> (try simp only [aD, Nat.reduceBEq, reduceIte, Nat.reduceAdd, reduceCtorEq, cond_true, cond_false, ne_eq, fw, fd]))
  all_goals (first | (exfalso; simp_all; done) | (exfalso; apply h; simp_all; omega))
 obtain ⟨e1, e2, e3, e4, e5, hl⟩ : (b.freq = a.freq ∧ b.interval = a.interval ∧ b.count = a.count ∧ b.til = a.til ∧ b.start = a.start ∧ a.bd.length = b.bd.length) := by simpa using h
 have c1 : ((a.bd.length : Int) == (b.bd.length : Int)) = true := by simp [hl]
 repeat' ((first | apply ah | apply al | apply ao | apply av | refine aq rfl ?_ | apply ai | apply af | apply ab | apply ak mixed | apply ap mixed | (with_reducible first | refine ac ?_ | refine ar ?_) | simp (disch := omega) only [aW, aF, aK, aL, bg, zI, zH] | ((first | refine aj ?_ ?_ | refine aa ?_ ?_) <;> intro hc <;> (try simp only [hc]) <;> try simp at hc) | (with_reducible refine ⟨?_, ?_⟩; (focus ((repeat' with_reducible refine ⟨?_, ?_⟩) <;> first | exact trivial | assumption | (simp; done) | (simp only [zA] at *; omega) | omega | (simp [fs]; done)))) | (with_reducible intro x hx) | omega) <;> (try simp only [aD, e1, e2, e3, e4, e5, Nat.reduceBEq, reduceIte, Nat.reduceAdd, reduceCtorEq, cond_false, ne_eq, fw, fd]))
 refine aM (ι := {i : Nat // i ≤ a.bd.length ∧ a.bd.take i = b.bd.take i}) (fun i => ([(2, .ptr 0 0 0 1), (3, .ptr 1 0 0 1), (50, .int .i64 a.bd.length), (51, .int .i64 i.1)], [⟨true, false, true, false, 9, [a.cells], some 0⟩, ⟨true, false, true, false, 9, [b.cells], some 0⟩])) (fun i => a.bd.length - i.1) ⟨0, by simp⟩ ?_ ?_
 ·simp only [Ru.cells, e1, e2, e3, e4, e5]
  refine aC [0, 1] (by rfl) (by simp) (by simp [fg]) (by simp [fg])
 rintro ⟨i, hi, ht⟩ hk
 dsimp only at hk ⊢
 by_cases hlt : i < a.bd.length
 ·have c2 : ((i : Int) < (a.bd.length : Int)) = True := by simp; omega
  obtain ⟨x, hx⟩ : ∃ x, a.bd[i]? = some x := ⟨_, zD hlt⟩
  obtain ⟨y, hy⟩ : ∃ y, b.bd[i]? = some y := ⟨_, zD (by omega)⟩
  have rx := bu (k := .i64) (m := .i64) hx
  have ry := bu (k := .i64) (m := .i64) hy
  have q2 := b2 (x := x) (y := y)
  by_cases hxy : x = y
  ·have c3 : decide (x = y) = true := by simpa using hxy
   repeat' ((first | apply ah | apply al | apply ao | apply av | refine aq rfl ?_ | apply ai | apply af | apply ab | apply ak mixed | apply ap mixed | (with_reducible first | refine ac ?_ | refine ar ?_) | simp (disch := omega) only [aW] | ((first | refine aj ?_ ?_ | refine aa ?_ ?_) <;> intro hc <;> (try simp only [hc]) <;> try simp at hc) | (with_reducible refine ⟨?_, ?_⟩; (focus ((repeat' with_reducible refine ⟨?_, ?_⟩) <;> first | exact trivial | assumption | (simp; done) | (simp only [zA] at *; omega) | omega | (simp [fs]; done)))) | (with_reducible intro x hx) | omega) <;> (try simp only [aD, c2, q2, c3, rx, ry, Ru.cells, Nat.reduceBEq, reduceIte, Nat.reduceAdd, cond_true, fw, fd]))
   refine hk ⟨i + 1, by omega, bw ht hx hy hxy⟩ _ _ (by dsimp only; omega) ?_
   dsimp only [Ru.cells]
   refine aC [0, 1] (by rfl) (by simp) (by simp [fg]) (by simp [fg])
  ·have c3 : decide (x = y) = false := by simpa using hxy
   have e : decide (a = b) = false := by
    have := cF hx hy hxy
    simp only [decide_eq_false_iff_not] at this ⊢
    exact fun h => this (by rw [h])
   rw [e]
   repeat' ((first | apply ah | apply al | apply ao | apply av | refine aq rfl ?_ | apply ai | apply af | apply ab | apply ak mixed | apply ap mixed | (with_reducible first | refine ac ?_ | refine ar ?_) | simp (disch := omega) only [aW, aF, aK, aL, bg, zI, zH] | ((first | refine aj ?_ ?_ | refine aa ?_ ?_) <;> intro hc <;> (try simp only [hc]) <;> try simp at hc) | (with_reducible refine ⟨?_, ?_⟩; (focus ((repeat' with_reducible refine ⟨?_, ?_⟩) <;> first | exact trivial | assumption | (simp; done) | (simp only [zA] at *; omega) | omega | (simp [fs]; done)))) | (with_reducible intro x hx) | omega) <;> (try simp only [aD, c2, q2, c3, rx, ry, Ru.cells, Nat.reduceBEq, reduceIte, Nat.reduceAdd, cond_true, fw, fd]))
 ·have c2 : ((i : Int) < (a.bd.length : Int)) = False := by simp; omega
  have e : a.bd = b.bd := by simpa using bQ ht hlt hl
  have e6 : decide (a = b) = (decide (a.bm = b.bm) && (decide (a.bmd = b.bmd) && decide (a.bsp = b.bsp))) := by
   rw [zN]; simp [Ru.eq_iff, e1, e2, e3, e4, e5, e]
  rw [e6]
  repeat' ((first | apply ah | apply al | apply ao | apply av | refine aq rfl ?_ | apply ai | apply af | apply ab | apply ak mixed | apply ap mixed | (with_reducible first | refine ac ?_ | refine ar ?_) | refine ae (wj _ _ (by omega) (by omega)) ?_ ?_ | simp (disch := omega) only [aW, aF, aK, aL, bg, zI, zH] | ((first | refine aj ?_ ?_ | refine aa ?_ ?_) <;> intro hc <;> (try simp only [hc]) <;> try simp at hc) | (with_reducible refine ⟨?_, ?_⟩; (focus ((repeat' with_reducible refine ⟨?_, ?_⟩) <;> first | exact trivial | assumption | (simp; done) | (simp only [zA] at *; omega) | omega | (simp [fs]; done)))) | (with_reducible intro x hx) | omega) <;> (try simp only [c2, Ru.cells, Nat.reduceBEq, reduceIte, cond_true, cond_false, fw, fd]))
  all_goals skip
end Go.Proofs.YtgefljdclekadaaGreat
