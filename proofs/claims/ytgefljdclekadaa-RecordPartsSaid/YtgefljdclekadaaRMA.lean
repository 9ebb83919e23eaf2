import Derived.Test.YtgefljdclekadaaR0
import Derived.Test.YtgefljdclekadaaVi25
set_option linter.unusedVariables false
set_option linter.unusedSimpArgs false
namespace Go.Proofs.Ytgefljdclekadaa
open Go Go.Vi
theorem mixed : Try.prog.follows .mixedOrders = true := by kernel_rfl
structure Dn where
 c : Int
 n : Int
 v : Int
 deriving DecidableEq
def Dn.row (d : Dn) : List D := [.int .u32 d.c, .int .u64 d.n, .int .u64 d.v]
def sy (l : List Dn) : List (List D) := l.map Dn.row
theorem iw {l : List Dn} : (sy l).length = l.length := by simp [sy]
structure Ru where
 freq : Int
 interval : Int
 count : Int
 til : Int
 bm : List Int
 bmd : List Int
 bd : List (Int × Int)
 bsp : List Int
 start : Int
 deriving DecidableEq
structure Ev where
 start : Int
 long : Int
 world : Bool
 again : Bool
 rule : Ru
 ex : List Int
 plus : List Int
 ch : List (Int × Int × Int)
 deriving DecidableEq
structure Se where
 base : Int
 turns : List (Int × Int)
 shifts : List (Int × Int × Int)
 off : List Int
 before : Int
 after : Int
 deriving DecidableEq
structure En where
 id : Int
 ev : Ev
 deriving DecidableEq
structure Us where
 id : Int
 se : Se
 ver : Int
 evs : List En
 deriving DecidableEq
structure Qu where
 a : Int
 b : Int
 long : Int
 grid : Int
 must : List Int
 may : List (Int × Int)
 seats : Int
 apart : List (Int × Int)
 prefer : List (Int × Int × Int)
 deriving DecidableEq
structure Po where
 id : Int
 owner : Int
 qu : Qu
 slots : List Int
 votes : List (Int × Int)
 til : Int
 state : Int
 winner : Int
 deriving DecidableEq
def aI (k : IntKind) (l : List Int) : List (List D) := l.map fun x => [.int k x]
def aS (k m : IntKind) (l : List (Int × Int)) : List (List D) := l.map fun x => [.int k x.1, .int m x.2]
def bh (l : List (Int × Int × Int)) : List (List D) := l.map fun x => [.int .i64 x.1, .int .i64 x.2.1, .int .i64 x.2.2]
abbrev L (rows : List (List D)) : D := .list none false rows
def Ru.cells (r : Ru) : List D := [.int .i64 r.freq, .int .i64 r.interval, .int .i64 r.count, .int .i64 r.til, L (aI .i64 r.bm), L (aI .i64 r.bmd), L (aS .i64 .i64 r.bd), L (aI .i64 r.bsp), .int .i64 r.start]
def Ev.cells (e : Ev) : List D := [.int .i64 e.start, .int .i64 e.long, .bool e.world, .bool e.again, .int .i64 e.rule.freq, .int .i64 e.rule.interval, .int .i64 e.rule.count, .int .i64 e.rule.til, L (aI .i64 e.rule.bm), L (aI .i64 e.rule.bmd), L (aS .i64 .i64 e.rule.bd), L (aI .i64 e.rule.bsp), .int .i64 e.rule.start, L (aI .i64 e.ex), L (aI .i64 e.plus), L (bh e.ch)]
def Se.cells (s : Se) : List D := [.int .i64 s.base, L (aS .i64 .i64 s.turns), L (bh s.shifts), L (aI .i64 s.off), .int .i64 s.before, .int .i64 s.after]
def En.row (e : En) : List D := [.int .u32 e.id, .int .i64 e.ev.start, .int .i64 e.ev.long, .bool e.ev.world, .bool e.ev.again, .int .i64 e.ev.rule.freq, .int .i64 e.ev.rule.interval, .int .i64 e.ev.rule.count, .int .i64 e.ev.rule.til, L (aI .i64 e.ev.rule.bm), L (aI .i64 e.ev.rule.bmd), L (aS .i64 .i64 e.ev.rule.bd), L (aI .i64 e.ev.rule.bsp), .int .i64 e.ev.rule.start, L (aI .i64 e.ev.ex), L (aI .i64 e.ev.plus), L (bh e.ev.ch)]
def sB (l : List En) : List (List D) := l.map En.row
def Us.row (u : Us) : List D := [.int .u32 u.id, .int .i64 u.se.base, L (aS .i64 .i64 u.se.turns), L (bh u.se.shifts), L (aI .i64 u.se.off), .int .i64 u.se.before, .int .i64 u.se.after, .int .u64 u.ver, L (sB u.evs)]
def tO (l : List Us) : List (List D) := l.map Us.row
def Qu.cells (q : Qu) : List D := [.int .i64 q.a, .int .i64 q.b, .int .i64 q.long, .int .i64 q.grid, L (aI .u32 q.must), L (aS .u32 .i64 q.may), .int .i64 q.seats, L (aS .u32 .u32 q.apart), L (bh q.prefer)]
def Po.row (p : Po) : List D := [.int .u32 p.id, .int .u32 p.owner, .int .i64 p.qu.a, .int .i64 p.qu.b, .int .i64 p.qu.long, .int .i64 p.qu.grid, L (aI .u32 p.qu.must), L (aS .u32 .i64 p.qu.may), .int .i64 p.qu.seats, L (aS .u32 .u32 p.qu.apart), L (bh p.qu.prefer), L (aI .i64 p.slots), L (aS .u32 .i64 p.votes), .int .i64 p.til, .int .i64 p.state, .int .i64 p.winner]
def sa (l : List Po) : List (List D) := l.map Po.row
theorem aE {k : IntKind} {l : List Int} : (aI k l).length = l.length := by simp [aI]
theorem aF {k m : IntKind} {l : List (Int × Int)} : (aS k m l).length = l.length := by simp [aS]
theorem aQ {l : List (Int × Int × Int)} : (bh l).length = l.length := by simp [bh]
theorem iz {l : List En} : (sB l).length = l.length := by simp [sB]
theorem iD {l : List Us} : (tO l).length = l.length := by simp [tO]
theorem iI {l : List Po} : (sa l).length = l.length := by simp [sa]
theorem bR {k : IntKind} {l : List Int} {i : Nat} {x : Int} (h : l[i]? = some x) : (aI k l)[i]? = some [.int k x] := by simp [aI, h]
theorem bO {k m : IntKind} {l : List (Int × Int)} {i : Nat} {x : Int × Int} (h : l[i]? = some x) : (aS k m l)[i]? = some [.int k x.1, .int m x.2] := by simp [aS, h]
theorem dc {l : List (Int × Int × Int)} {i : Nat} {x : Int × Int × Int} (h : l[i]? = some x) : (bh l)[i]? = some [.int .i64 x.1, .int .i64 x.2.1, .int .i64 x.2.2] := by simp [bh, h]
def Se.great (s : Se) : Bool := decide (100 < s.turns.length) || decide (30 < s.shifts.length) || decide (100 < s.off.length)
theorem qt (s : Se) : br Try.prog 14 [.agg s.cells] (.bool s.great) := by
 refine bX Try.func14 low14 (by simp [c14]) ?_
 simp only [c14]
 repeat' ((first | apply ai | apply al | apply aj | apply ak mixed | with_reducible refine ax ?_ | (refine ac ?_ ?_ <;> intro hc <;> (try simp only [hc]) <;> try simp at hc) | (with_reducible refine ⟨?_, ?_⟩; (focus ((repeat' with_reducible refine ⟨?_, ?_⟩) <;> first | exact trivial | assumption | (simp; done) | (simp only [List.length_map] at *; omega) | omega | (simp [fs]; done)))) | (with_reducible intro x hx) | omega) <;> (try simp only [aE, aF, aQ, iz, iD, iI, iw, Se.cells, Ev.cells, Qu.cells, Ru.cells, Nat.reduceBEq, reduceIte, Nat.reduceEqDiff, Nat.reduceAdd, Nat.reduceSub, Nat.reduceMul, Nat.reduceLT, Nat.reduceLeDiff, reduceCtorEq, cond_true, cond_false, implies_true, ne_eq, Int.reduceToNat, Int.reduceLT, Int.reduceLE, Int.reduceEq, Int.reduceBEq, beq_self_eq_true, Int.reduceNeg, IntKind.bits, Int.reducePow, Nat.reducePow, fw, fd]))
 all_goals (unfold Se.great; rw [Bool.eq_iff_iff]; simp; omega)
def Ev.great (e : Ev) : Bool := decide (80 < e.ex.length) || decide (80 < e.plus.length) || decide (80 < e.ch.length) || decide (100 < e.rule.bm.length) || decide (100 < e.rule.bmd.length) || decide (200 < e.rule.bd.length) || decide (500 < e.rule.bsp.length)
theorem qN (s : Ev) : br Try.prog 15 [.agg s.cells] (.bool s.great) := by
 refine bX Try.func15 low15 (by simp [c15]) ?_
 simp only [c15]
 repeat' ((first | apply ai | apply al | apply aj | apply ak mixed | with_reducible refine ax ?_ | (refine ac ?_ ?_ <;> intro hc <;> (try simp only [hc]) <;> try simp at hc) | (with_reducible refine ⟨?_, ?_⟩; (focus ((repeat' with_reducible refine ⟨?_, ?_⟩) <;> first | exact trivial | assumption | (simp; done) | (simp only [List.length_map] at *; omega) | omega | (simp [fs]; done)))) | (with_reducible intro x hx) | omega) <;> (try simp only [aE, aF, aQ, iz, iD, iI, iw, Se.cells, Ev.cells, Qu.cells, Ru.cells, Nat.reduceBEq, reduceIte, Nat.reduceEqDiff, Nat.reduceAdd, Nat.reduceSub, Nat.reduceMul, Nat.reduceLT, Nat.reduceLeDiff, reduceCtorEq, cond_true, cond_false, implies_true, ne_eq, Int.reduceToNat, Int.reduceLT, Int.reduceLE, Int.reduceEq, Int.reduceBEq, beq_self_eq_true, Int.reduceNeg, IntKind.bits, Int.reducePow, Nat.reducePow, fw, fd]))
 all_goals (unfold Ev.great; rw [Bool.eq_iff_iff]; simp; omega)
def Qu.great (s : Qu) : Bool := decide (80 < s.must.length) || decide (40 < s.may.length) || decide (60 < s.apart.length) || decide (30 < s.prefer.length)
theorem qH (s : Qu) : br Try.prog 16 [.agg s.cells] (.bool s.great) := by
 refine bX Try.func16 low16 (by simp [c16]) ?_
 simp only [c16]
 repeat' ((first | apply ai | apply al | apply aj | apply ak mixed | with_reducible refine ax ?_ | (refine ac ?_ ?_ <;> intro hc <;> (try simp only [hc]) <;> try simp at hc) | (with_reducible refine ⟨?_, ?_⟩; (focus ((repeat' with_reducible refine ⟨?_, ?_⟩) <;> first | exact trivial | assumption | (simp; done) | (simp only [List.length_map] at *; omega) | omega | (simp [fs]; done)))) | (with_reducible intro x hx) | omega) <;> (try simp only [aE, aF, aQ, iz, iD, iI, iw, Se.cells, Ev.cells, Qu.cells, Ru.cells, Nat.reduceBEq, reduceIte, Nat.reduceEqDiff, Nat.reduceAdd, Nat.reduceSub, Nat.reduceMul, Nat.reduceLT, Nat.reduceLeDiff, reduceCtorEq, cond_true, cond_false, implies_true, ne_eq, Int.reduceToNat, Int.reduceLT, Int.reduceLE, Int.reduceEq, Int.reduceBEq, beq_self_eq_true, Int.reduceNeg, IntKind.bits, Int.reducePow, Nat.reducePow, fw, fd]))
 all_goals (unfold Qu.great; rw [Bool.eq_iff_iff]; simp; omega)
def Po.great (s : Po) : Bool := s.qu.great || decide (80 < s.slots.length) || decide (300 < s.votes.length)
def Us.great (u : Us) : Bool := u.se.great || decide (10 < u.evs.length) || u.evs.any fun e => e.ev.great
def Us.fits (u : Us) : Prop := u.evs.length ≤ 140737488351232
def fits (us : List Us) (ps : List Po) (ds : List Dn) : Prop := us.length ≤ 1407374883512 ∧ ps.length ≤ 1407374883512 ∧ ds.length ≤ 5864062014677 ∧ ∀ u ∈ us, u.fits
end Go.Proofs.Ytgefljdclekadaa

namespace Go.Proofs.Ytgefljdclekadaa
open Go Go.Vi
theorem b2 {x y : Int × Int} : ((x.1 == y.1) && (x.2 == y.2)) = decide (x = y) := by
 rw [Bool.eq_iff_iff]; simp [Prod.ext_iff]
theorem b3 {x y : Int × Int × Int} : ((x.1 == y.1) && ((x.2.1 == y.2.1) && (x.2.2 == y.2.2))) = decide (x = y) := by
 rw [Bool.eq_iff_iff]; simp [Prod.ext_iff]
theorem cM {α : Type} [DecidableEq α] {a b : List α} {i : Nat} (h : a.take i = b.take i) (hi : ¬ i < a.length) (hl : a.length = b.length) : decide (a = b) = true := by
 rw [List.take_of_length_le (by omega), List.take_of_length_le (by omega)] at h
 simpa using h
theorem bZ {α : Type} {a b : List α} {i : Nat} {x y : α} (h : a.take i = b.take i) (hx : a[i]? = some x) (hy : b[i]? = some y) (hxy : x = y) : a.take (i + 1) = b.take (i + 1) := by
 rw [List.take_add_one, List.take_add_one, h, hx, hy, hxy]
theorem dC {α : Type} [DecidableEq α] {a b : List α} {i : Nat} {x y : α} (hx : a[i]? = some x) (hy : b[i]? = some y) (hxy : ¬ x = y) : decide (a = b) = false := by
 simp only [decide_eq_false_iff_not]
 rintro rfl
 rw [hx] at hy
 exact hxy (by simpa using hy)
theorem dI {α : Type} [DecidableEq α] {a b : List α} (h : ¬ a.length = b.length) : decide (a = b) = false := by
 simp only [decide_eq_false_iff_not]
 rintro rfl
 exact h rfl
theorem iG {a b : Nat} (h : ¬ a = b) : ((a : Int) == (b : Int)) = false := by simp; omega
theorem pH (a b : List Int) (ha : a.length ≤ 140737488351232) (hb : b.length ≤ 140737488351232) : br Try.prog 45 [L (aI .i64 a), L (aI .i64 b)] (.bool (decide (a = b))) := by
 refine bX Try.func45 low45 (by simp [c45]) ?_
 simp only [c45]
 by_cases hl : ¬ a.length = b.length
 ·have c1 := iG hl
  rw [dI hl]
  repeat' ((first | apply ai | apply ah | apply am | apply au | refine aq rfl ?_ | apply al | apply aj | apply ae | apply ak mixed | apply ap mixed | with_reducible refine ax ?_ | simp (disch := omega) only [bf, aG, aN, aO, bp, Int.tdiv_eq_ediv_of_nonneg, Int.tmod_eq_emod_of_nonneg] | (refine aa ?_ ?_ <;> intro hc <;> (try simp only [hc]) <;> try simp at hc) | (with_reducible refine ⟨?_, ?_⟩; (focus ((repeat' with_reducible refine ⟨?_, ?_⟩) <;> first | exact trivial | assumption | (simp; done) | (simp only [List.length_map] at *; omega) | omega | (simp [fs]; done)))) | (with_reducible intro x hx) | omega) <;> (try simp only [aE, Nat.reduceBEq, reduceIte, fw, fd]))
 have hl : a.length = b.length := by omega
 have c1 : ((a.length : Int) == (b.length : Int)) = true := by simp [hl]
 repeat' ((first | apply ai | apply ah | apply am | apply au | refine aq rfl ?_ | apply al | apply aj | apply ae | apply ak mixed | apply ap mixed | with_reducible refine ax ?_ | simp (disch := omega) only [bf, aG, aN, aO, bp, Int.tdiv_eq_ediv_of_nonneg, Int.tmod_eq_emod_of_nonneg] | (refine aa ?_ ?_ <;> intro hc <;> (try simp only [hc]) <;> try simp at hc) | (with_reducible refine ⟨?_, ?_⟩; (focus ((repeat' with_reducible refine ⟨?_, ?_⟩) <;> first | exact trivial | assumption | (simp; done) | (simp only [List.length_map] at *; omega) | omega | (simp [fs]; done)))) | (with_reducible intro x hx) | omega) <;> (try simp only [aE, Nat.reduceBEq, reduceIte, fw, fd]))
 refine aT (ι := {i : Nat // i ≤ a.length ∧ a.take i = b.take i}) (fun i => ([(0, L (aI .i64 a)), (1, L (aI .i64 b)), (12, .int .i64 a.length), (13, .int .i64 i.1)], [])) (fun i => a.length - i.1) ⟨0, by simp⟩ ?_ ?_
 ·refine aJ [] (by rfl) (by simp) (by simp [bQ]) (by simp [fg])
 rintro ⟨i, hi, ht⟩ hk
 dsimp only at hk ⊢
 by_cases hlt : i < a.length
 ·have c2 : ((i : Int) < (a.length : Int)) = True := by simp; omega
  obtain ⟨x, hx⟩ : ∃ x, a[i]? = some x := ⟨_, List.getElem?_eq_getElem hlt⟩
  obtain ⟨y, hy⟩ : ∃ y, b[i]? = some y := ⟨_, List.getElem?_eq_getElem (by omega)⟩
  have rx := bR (k := .i64) hx
  have ry := bR (k := .i64) hy
  by_cases hxy : x = y
  ·have c3 : (x == y) = true := by simpa using hxy
   repeat' ((first | apply ai | apply ah | apply am | apply au | refine aq rfl ?_ | apply al | apply aj | apply ae | apply ak mixed | apply ap mixed | with_reducible refine ax ?_ | simp (disch := omega) only [bf] | (refine aa ?_ ?_ <;> intro hc <;> (try simp only [hc]) <;> try simp at hc) | (with_reducible refine ⟨?_, ?_⟩; (focus ((repeat' with_reducible refine ⟨?_, ?_⟩) <;> first | exact trivial | assumption | (simp; done) | (simp only [List.length_map] at *; omega) | omega | (simp [fs]; done)))) | (with_reducible intro x hx) | omega) <;> (try simp only [aE, c2, rx, ry, Nat.reduceBEq, reduceIte, fw, fd]))
   refine hk ⟨i + 1, by omega, bZ ht hx hy hxy⟩ _ _ (by dsimp only; omega) ?_
   dsimp only
   refine aJ [] (by rfl) (by simp) (by simp [bQ]) (by simp [fg])
  ·have c3 : (x == y) = false := by simpa using hxy
   rw [dC hx hy hxy]
   repeat' ((first | apply ai | apply ah | apply am | apply au | refine aq rfl ?_ | apply al | apply aj | apply ae | apply ak mixed | apply ap mixed | with_reducible refine ax ?_ | simp (disch := omega) only [bf] | (refine aa ?_ ?_ <;> intro hc <;> (try simp only [hc]) <;> try simp at hc) | (with_reducible refine ⟨?_, ?_⟩; (focus ((repeat' with_reducible refine ⟨?_, ?_⟩) <;> first | exact trivial | assumption | (simp; done) | (simp only [List.length_map] at *; omega) | omega | (simp [fs]; done)))) | (with_reducible intro x hx) | omega) <;> (try simp only [aE, c2, rx, ry, Nat.reduceBEq, reduceIte, fw, fd]))
 ·have c2 : ((i : Int) < (a.length : Int)) = False := by simp; omega
  rw [cM ht hlt hl]
  repeat' ((first | apply ai | apply ah | apply am | apply au | refine aq rfl ?_ | apply al | apply aj | apply ae | apply ak mixed | apply ap mixed | with_reducible refine ax ?_ | simp (disch := omega) only [bf, aG, aN, aO, bp, Int.tdiv_eq_ediv_of_nonneg, Int.tmod_eq_emod_of_nonneg] | (refine aa ?_ ?_ <;> intro hc <;> (try simp only [hc]) <;> try simp at hc) | (with_reducible refine ⟨?_, ?_⟩; (focus ((repeat' with_reducible refine ⟨?_, ?_⟩) <;> first | exact trivial | assumption | (simp; done) | (simp only [List.length_map] at *; omega) | omega | (simp [fs]; done)))) | (with_reducible intro x hx) | omega) <;> (try simp only [c2, Nat.reduceBEq, reduceIte, fw, fd]))
theorem xg (a b : List Int) (ha : a.length ≤ 140737488351232) (hb : b.length ≤ 140737488351232) : br Try.prog 43 [L (aI .i64 a), L (aI .i64 b)] (.bool (decide (a = b))) := by
 refine bX Try.func43 low43 (by simp [c43]) ?_
 simp only [c43]
 by_cases hl : ¬ a.length = b.length
 ·have c1 := iG hl
  rw [dI hl]
  repeat' ((first | apply ai | apply ah | apply am | apply au | refine aq rfl ?_ | apply al | apply aj | apply ae | apply ak mixed | apply ap mixed | with_reducible refine ax ?_ | simp (disch := omega) only [bf, aG, aN, aO, bp, Int.tdiv_eq_ediv_of_nonneg, Int.tmod_eq_emod_of_nonneg] | (refine aa ?_ ?_ <;> intro hc <;> (try simp only [hc]) <;> try simp at hc) | (with_reducible refine ⟨?_, ?_⟩; (focus ((repeat' with_reducible refine ⟨?_, ?_⟩) <;> first | exact trivial | assumption | (simp; done) | (simp only [List.length_map] at *; omega) | omega | (simp [fs]; done)))) | (with_reducible intro x hx) | omega) <;> (try simp only [aE, Nat.reduceBEq, reduceIte, fw, fd]))
 have hl : a.length = b.length := by omega
 have c1 : ((a.length : Int) == (b.length : Int)) = true := by simp [hl]
 repeat' ((first | apply ai | apply ah | apply am | apply au | refine aq rfl ?_ | apply al | apply aj | apply ae | apply ak mixed | apply ap mixed | with_reducible refine ax ?_ | simp (disch := omega) only [bf, aG, aN, aO, bp, Int.tdiv_eq_ediv_of_nonneg, Int.tmod_eq_emod_of_nonneg] | (refine aa ?_ ?_ <;> intro hc <;> (try simp only [hc]) <;> try simp at hc) | (with_reducible refine ⟨?_, ?_⟩; (focus ((repeat' with_reducible refine ⟨?_, ?_⟩) <;> first | exact trivial | assumption | (simp; done) | (simp only [List.length_map] at *; omega) | omega | (simp [fs]; done)))) | (with_reducible intro x hx) | omega) <;> (try simp only [aE, Nat.reduceBEq, reduceIte, fw, fd]))
 refine aT (ι := {i : Nat // i ≤ a.length ∧ a.take i = b.take i}) (fun i => ([(0, L (aI .i64 a)), (1, L (aI .i64 b)), (12, .int .i64 a.length), (13, .int .i64 i.1)], [])) (fun i => a.length - i.1) ⟨0, by simp⟩ ?_ ?_
 ·refine aJ [] (by rfl) (by simp) (by simp [bQ]) (by simp [fg])
 rintro ⟨i, hi, ht⟩ hk
 dsimp only at hk ⊢
 by_cases hlt : i < a.length
 ·have c2 : ((i : Int) < (a.length : Int)) = True := by simp; omega
  obtain ⟨x, hx⟩ : ∃ x, a[i]? = some x := ⟨_, List.getElem?_eq_getElem hlt⟩
  obtain ⟨y, hy⟩ : ∃ y, b[i]? = some y := ⟨_, List.getElem?_eq_getElem (by omega)⟩
  have rx := bR (k := .i64) hx
  have ry := bR (k := .i64) hy
  by_cases hxy : x = y
  ·have c3 : (x == y) = true := by simpa using hxy
   repeat' ((first | apply ai | apply ah | apply am | apply au | refine aq rfl ?_ | apply al | apply aj | apply ae | apply ak mixed | apply ap mixed | with_reducible refine ax ?_ | simp (disch := omega) only [bf] | (refine aa ?_ ?_ <;> intro hc <;> (try simp only [hc]) <;> try simp at hc) | (with_reducible refine ⟨?_, ?_⟩; (focus ((repeat' with_reducible refine ⟨?_, ?_⟩) <;> first | exact trivial | assumption | (simp; done) | (simp only [List.length_map] at *; omega) | omega | (simp [fs]; done)))) | (with_reducible intro x hx) | omega) <;> (try simp only [aE, c2, rx, ry, Nat.reduceBEq, reduceIte, fw, fd]))
   refine hk ⟨i + 1, by omega, bZ ht hx hy hxy⟩ _ _ (by dsimp only; omega) ?_
   dsimp only
   refine aJ [] (by rfl) (by simp) (by simp [bQ]) (by simp [fg])
  ·have c3 : (x == y) = false := by simpa using hxy
   rw [dC hx hy hxy]
   repeat' ((first | apply ai | apply ah | apply am | apply au | refine aq rfl ?_ | apply al | apply aj | apply ae | apply ak mixed | apply ap mixed | with_reducible refine ax ?_ | simp (disch := omega) only [bf] | (refine aa ?_ ?_ <;> intro hc <;> (try simp only [hc]) <;> try simp at hc) | (with_reducible refine ⟨?_, ?_⟩; (focus ((repeat' with_reducible refine ⟨?_, ?_⟩) <;> first | exact trivial | assumption | (simp; done) | (simp only [List.length_map] at *; omega) | omega | (simp [fs]; done)))) | (with_reducible intro x hx) | omega) <;> (try simp only [aE, c2, rx, ry, Nat.reduceBEq, reduceIte, fw, fd]))
 ·have c2 : ((i : Int) < (a.length : Int)) = False := by simp; omega
  rw [cM ht hlt hl]
  repeat' ((first | apply ai | apply ah | apply am | apply au | refine aq rfl ?_ | apply al | apply aj | apply ae | apply ak mixed | apply ap mixed | with_reducible refine ax ?_ | simp (disch := omega) only [bf, aG, aN, aO, bp, Int.tdiv_eq_ediv_of_nonneg, Int.tmod_eq_emod_of_nonneg] | (refine aa ?_ ?_ <;> intro hc <;> (try simp only [hc]) <;> try simp at hc) | (with_reducible refine ⟨?_, ?_⟩; (focus ((repeat' with_reducible refine ⟨?_, ?_⟩) <;> first | exact trivial | assumption | (simp; done) | (simp only [List.length_map] at *; omega) | omega | (simp [fs]; done)))) | (with_reducible intro x hx) | omega) <;> (try simp only [c2, Nat.reduceBEq, reduceIte, fw, fd]))
theorem m0 (a b : List (Int × Int × Int)) (ha : a.length ≤ 140737488351232) (hb : b.length ≤ 140737488351232) : br Try.prog 42 [L (bh a), L (bh b)] (.bool (decide (a = b))) := by
 refine bX Try.func42 low42 (by simp [c42]) ?_
 simp only [c42]
 by_cases hl : ¬ a.length = b.length
 ·have c1 := iG hl
  rw [dI hl]
  repeat' ((first | apply ai | apply ah | apply am | apply au | refine aq rfl ?_ | apply al | apply aj | apply ae | apply ak mixed | apply ap mixed | with_reducible refine ax ?_ | simp (disch := omega) only [bf, aG, aN, aO, bp, Int.tdiv_eq_ediv_of_nonneg, Int.tmod_eq_emod_of_nonneg] | (refine aa ?_ ?_ <;> intro hc <;> (try simp only [hc]) <;> try simp at hc) | (with_reducible refine ⟨?_, ?_⟩; (focus ((repeat' with_reducible refine ⟨?_, ?_⟩) <;> first | exact trivial | assumption | (simp; done) | (simp only [List.length_map] at *; omega) | omega | (simp [fs]; done)))) | (with_reducible intro x hx) | omega) <;> (try simp only [aQ, Nat.reduceBEq, reduceIte, fw, fd]))
 have hl : a.length = b.length := by omega
 have c1 : ((a.length : Int) == (b.length : Int)) = true := by simp [hl]
 repeat' ((first | apply ai | apply ah | apply am | apply au | refine aq rfl ?_ | apply al | apply aj | apply ae | apply ak mixed | apply ap mixed | with_reducible refine ax ?_ | simp (disch := omega) only [bf, aG, aN, aO, bp, Int.tdiv_eq_ediv_of_nonneg, Int.tmod_eq_emod_of_nonneg] | (refine aa ?_ ?_ <;> intro hc <;> (try simp only [hc]) <;> try simp at hc) | (with_reducible refine ⟨?_, ?_⟩; (focus ((repeat' with_reducible refine ⟨?_, ?_⟩) <;> first | exact trivial | assumption | (simp; done) | (simp only [List.length_map] at *; omega) | omega | (simp [fs]; done)))) | (with_reducible intro x hx) | omega) <;> (try simp only [aQ, Nat.reduceBEq, reduceIte, fw, fd]))
 refine aT (ι := {i : Nat // i ≤ a.length ∧ a.take i = b.take i}) (fun i => ([(0, L (bh a)), (1, L (bh b)), (12, .int .i64 a.length), (13, .int .i64 i.1)], [])) (fun i => a.length - i.1) ⟨0, by simp⟩ ?_ ?_
 ·refine aJ [] (by rfl) (by simp) (by simp [bQ]) (by simp [fg])
 rintro ⟨i, hi, ht⟩ hk
 dsimp only at hk ⊢
 by_cases hlt : i < a.length
 ·have c2 : ((i : Int) < (a.length : Int)) = True := by simp; omega
  obtain ⟨x, hx⟩ : ∃ x, a[i]? = some x := ⟨_, List.getElem?_eq_getElem hlt⟩
  obtain ⟨y, hy⟩ : ∃ y, b[i]? = some y := ⟨_, List.getElem?_eq_getElem (by omega)⟩
  have rx := dc hx
  have ry := dc hy
  have e3 := b3 (x := x) (y := y)
  by_cases hxy : x = y
  ·have c3 : decide (x = y) = true := by simpa using hxy
   repeat' ((first | apply ai | apply ah | apply am | apply au | refine aq rfl ?_ | apply al | apply aj | apply ae | apply ak mixed | apply ap mixed | with_reducible refine ax ?_ | simp (disch := omega) only [bf] | (refine aa ?_ ?_ <;> intro hc <;> (try simp only [hc]) <;> try simp at hc) | (with_reducible refine ⟨?_, ?_⟩; (focus ((repeat' with_reducible refine ⟨?_, ?_⟩) <;> first | exact trivial | assumption | (simp; done) | (simp only [List.length_map] at *; omega) | omega | (simp [fs]; done)))) | (with_reducible intro x hx) | omega) <;> (try simp only [aQ, c2, e3, c3, rx, ry, Nat.reduceBEq, reduceIte, Nat.reduceAdd, cond_true, fw, fd]))
   refine hk ⟨i + 1, by omega, bZ ht hx hy hxy⟩ _ _ (by dsimp only; omega) ?_
   dsimp only
   refine aJ [] (by rfl) (by simp) (by simp [bQ]) (by simp [fg])
  ·have c3 : decide (x = y) = false := by simpa using hxy
   rw [dC hx hy hxy]
   repeat' ((first | apply ai | apply ah | apply am | apply au | refine aq rfl ?_ | apply al | apply aj | apply ae | apply ak mixed | apply ap mixed | with_reducible refine ax ?_ | simp (disch := omega) only [bf, aG, aN, aO, bp, Int.tdiv_eq_ediv_of_nonneg, Int.tmod_eq_emod_of_nonneg] | (refine aa ?_ ?_ <;> intro hc <;> (try simp only [hc]) <;> try simp at hc) | (with_reducible refine ⟨?_, ?_⟩; (focus ((repeat' with_reducible refine ⟨?_, ?_⟩) <;> first | exact trivial | assumption | (simp; done) | (simp only [List.length_map] at *; omega) | omega | (simp [fs]; done)))) | (with_reducible intro x hx) | omega) <;> (try simp only [aQ, c2, e3, c3, rx, ry, Nat.reduceBEq, reduceIte, Nat.reduceAdd, cond_true, fw, fd]))
 ·have c2 : ((i : Int) < (a.length : Int)) = False := by simp; omega
  rw [cM ht hlt hl]
  repeat' ((first | apply ai | apply ah | apply am | apply au | refine aq rfl ?_ | apply al | apply aj | apply ae | apply ak mixed | apply ap mixed | with_reducible refine ax ?_ | simp (disch := omega) only [bf, aG, aN, aO, bp, Int.tdiv_eq_ediv_of_nonneg, Int.tmod_eq_emod_of_nonneg] | (refine aa ?_ ?_ <;> intro hc <;> (try simp only [hc]) <;> try simp at hc) | (with_reducible refine ⟨?_, ?_⟩; (focus ((repeat' with_reducible refine ⟨?_, ?_⟩) <;> first | exact trivial | assumption | (simp; done) | (simp only [List.length_map] at *; omega) | omega | (simp [fs]; done)))) | (with_reducible intro x hx) | omega) <;> (try simp only [c2, Nat.reduceBEq, reduceIte, fw, fd]))
end Go.Proofs.Ytgefljdclekadaa

namespace Go.Proofs.Ytgefljdclekadaa
open Go Go.Vi
theorem va (a b : List Int) (ha : a.length ≤ 140737488351232) (hb : b.length ≤ 140737488351232) : br Try.prog 82 [L (aI .i64 a), L (aI .i64 b)] (.bool (decide (a = b))) := by
 refine bX Try.func82 low82 (by simp [c82]) ?_
 simp only [c82]
 by_cases hl : ¬ a.length = b.length
 ·have c1 := iG hl
  rw [dI hl]
  repeat' ((first | apply ai | apply ah | apply am | apply au | refine aq rfl ?_ | apply al | apply aj | apply ae | apply ak mixed | apply ap mixed | with_reducible refine ax ?_ | simp (disch := omega) only [bf, aG, aN, aO, bp, Int.tdiv_eq_ediv_of_nonneg, Int.tmod_eq_emod_of_nonneg] | (refine aa ?_ ?_ <;> intro hc <;> (try simp only [hc]) <;> try simp at hc) | (with_reducible refine ⟨?_, ?_⟩; (focus ((repeat' with_reducible refine ⟨?_, ?_⟩) <;> first | exact trivial | assumption | (simp; done) | (simp only [List.length_map] at *; omega) | omega | (simp [fs]; done)))) | (with_reducible intro x hx) | omega) <;> (try simp only [aE, Nat.reduceBEq, reduceIte, fw, fd]))
 have hl : a.length = b.length := by omega
 have c1 : ((a.length : Int) == (b.length : Int)) = true := by simp [hl]
 repeat' ((first | apply ai | apply ah | apply am | apply au | refine aq rfl ?_ | apply al | apply aj | apply ae | apply ak mixed | apply ap mixed | with_reducible refine ax ?_ | simp (disch := omega) only [bf, aG, aN, aO, bp, Int.tdiv_eq_ediv_of_nonneg, Int.tmod_eq_emod_of_nonneg] | (refine aa ?_ ?_ <;> intro hc <;> (try simp only [hc]) <;> try simp at hc) | (with_reducible refine ⟨?_, ?_⟩; (focus ((repeat' with_reducible refine ⟨?_, ?_⟩) <;> first | exact trivial | assumption | (simp; done) | (simp only [List.length_map] at *; omega) | omega | (simp [fs]; done)))) | (with_reducible intro x hx) | omega) <;> (try simp only [aE, Nat.reduceBEq, reduceIte, fw, fd]))
 refine aT (ι := {i : Nat // i ≤ a.length ∧ a.take i = b.take i}) (fun i => ([(0, L (aI .i64 a)), (1, L (aI .i64 b)), (12, .int .i64 a.length), (13, .int .i64 i.1)], [])) (fun i => a.length - i.1) ⟨0, by simp⟩ ?_ ?_
 ·refine aJ [] (by rfl) (by simp) (by simp [bQ]) (by simp [fg])
 rintro ⟨i, hi, ht⟩ hk
 dsimp only at hk ⊢
 by_cases hlt : i < a.length
 ·have c2 : ((i : Int) < (a.length : Int)) = True := by simp; omega
  obtain ⟨x, hx⟩ : ∃ x, a[i]? = some x := ⟨_, List.getElem?_eq_getElem hlt⟩
  obtain ⟨y, hy⟩ : ∃ y, b[i]? = some y := ⟨_, List.getElem?_eq_getElem (by omega)⟩
  have rx := bR (k := .i64) hx
  have ry := bR (k := .i64) hy
  by_cases hxy : x = y
  ·have c3 : (x == y) = true := by simpa using hxy
   repeat' ((first | apply ai | apply ah | apply am | apply au | refine aq rfl ?_ | apply al | apply aj | apply ae | apply ak mixed | apply ap mixed | with_reducible refine ax ?_ | simp (disch := omega) only [bf] | (refine aa ?_ ?_ <;> intro hc <;> (try simp only [hc]) <;> try simp at hc) | (with_reducible refine ⟨?_, ?_⟩; (focus ((repeat' with_reducible refine ⟨?_, ?_⟩) <;> first | exact trivial | assumption | (simp; done) | (simp only [List.length_map] at *; omega) | omega | (simp [fs]; done)))) | (with_reducible intro x hx) | omega) <;> (try simp only [aE, c2, rx, ry, Nat.reduceBEq, reduceIte, fw, fd]))
   refine hk ⟨i + 1, by omega, bZ ht hx hy hxy⟩ _ _ (by dsimp only; omega) ?_
   dsimp only
   refine aJ [] (by rfl) (by simp) (by simp [bQ]) (by simp [fg])
  ·have c3 : (x == y) = false := by simpa using hxy
   rw [dC hx hy hxy]
   repeat' ((first | apply ai | apply ah | apply am | apply au | refine aq rfl ?_ | apply al | apply aj | apply ae | apply ak mixed | apply ap mixed | with_reducible refine ax ?_ | simp (disch := omega) only [bf] | (refine aa ?_ ?_ <;> intro hc <;> (try simp only [hc]) <;> try simp at hc) | (with_reducible refine ⟨?_, ?_⟩; (focus ((repeat' with_reducible refine ⟨?_, ?_⟩) <;> first | exact trivial | assumption | (simp; done) | (simp only [List.length_map] at *; omega) | omega | (simp [fs]; done)))) | (with_reducible intro x hx) | omega) <;> (try simp only [aE, c2, rx, ry, Nat.reduceBEq, reduceIte, fw, fd]))
 ·have c2 : ((i : Int) < (a.length : Int)) = False := by simp; omega
  rw [cM ht hlt hl]
  repeat' ((first | apply ai | apply ah | apply am | apply au | refine aq rfl ?_ | apply al | apply aj | apply ae | apply ak mixed | apply ap mixed | with_reducible refine ax ?_ | simp (disch := omega) only [bf, aG, aN, aO, bp, Int.tdiv_eq_ediv_of_nonneg, Int.tmod_eq_emod_of_nonneg] | (refine aa ?_ ?_ <;> intro hc <;> (try simp only [hc]) <;> try simp at hc) | (with_reducible refine ⟨?_, ?_⟩; (focus ((repeat' with_reducible refine ⟨?_, ?_⟩) <;> first | exact trivial | assumption | (simp; done) | (simp only [List.length_map] at *; omega) | omega | (simp [fs]; done)))) | (with_reducible intro x hx) | omega) <;> (try simp only [c2, Nat.reduceBEq, reduceIte, fw, fd]))
theorem Ru.eq_iff {a b : Ru} : a = b ↔ (a.freq = b.freq ∧ a.interval = b.interval ∧ a.count = b.count ∧ a.til = b.til ∧ a.bm = b.bm ∧ a.bmd = b.bmd ∧ a.bd = b.bd ∧ a.bsp = b.bsp ∧ a.start = b.start) := by
 cases a; cases b; simp only [Ru.mk.injEq]
def Ru.fits (r : Ru) : Prop := r.bm.length ≤ 140737488351232 ∧ r.bmd.length ≤ 140737488351232 ∧ r.bd.length ≤ 140737488351232 ∧ r.bsp.length ≤ 140737488351232
set_option maxHeartbeats 1000000 in
theorem sq (a b : Ru) (fa : a.fits) (fb : b.fits) : br Try.prog 44 [.agg a.cells, .agg b.cells] (.bool (decide (a = b))) := by
 refine bX Try.func44 low44 (by simp [c44]) ?_
 simp only [c44, Ru.cells]
 obtain ⟨a1, a2, a3, a4⟩ := fa
 obtain ⟨b1', b2', b3', b4⟩ := fb
 by_cases h : ¬ (b.freq = a.freq ∧ b.interval = a.interval ∧ b.count = a.count ∧ b.til = a.til ∧ b.start = a.start ∧ a.bd.length = b.bd.length)
 ·have e : decide (a = b) = false := by
   simp only [decide_eq_false_iff_not]
   rintro rfl
   exact h ⟨rfl, rfl, rfl, rfl, rfl, rfl⟩
  rw [e]
  repeat' ((first | apply ai | apply ah | apply am | apply au | refine aq rfl ?_ | apply al | apply aj | apply ae | apply ak mixed | apply ap mixed | (with_reducible first | refine ax ?_ | refine ao ?_) | simp (disch := omega) only [bf, aG, aN, aO, bp, Int.tdiv_eq_ediv_of_nonneg, Int.tmod_eq_emod_of_nonneg] | ((first | refine ac ?_ ?_ | refine aa ?_ ?_) <;> intro hc <;> (try simp only [hc]) <;> try simp at hc) | (with_reducible refine ⟨?_, ?_⟩; (focus ((repeat' with_reducible refine ⟨?_, ?_⟩) <;> first | exact trivial | assumption | (simp; done) | (simp only [List.length_map] at *; omega) | omega | (simp [fs]; done)))) | (with_reducible intro x hx) | omega) <;> (try simp only [aF, Nat.reduceBEq, reduceIte, Nat.reduceAdd, reduceCtorEq, cond_true, cond_false, ne_eq, fw, fd]))
  all_goals (first | (exfalso; simp_all; done) | (exfalso; apply h; simp_all; omega))
 obtain ⟨e1, e2, e3, e4, e5, hl⟩ : (b.freq = a.freq ∧ b.interval = a.interval ∧ b.count = a.count ∧ b.til = a.til ∧ b.start = a.start ∧ a.bd.length = b.bd.length) := by simpa using h
 have c1 : ((a.bd.length : Int) == (b.bd.length : Int)) = true := by simp [hl]
 repeat' ((first | apply ai | apply ah | apply am | apply au | refine aq rfl ?_ | apply al | apply aj | apply ae | apply ak mixed | apply ap mixed | (with_reducible first | refine ax ?_ | refine ao ?_) | simp (disch := omega) only [bf, aG, aN, aO, bp, Int.tdiv_eq_ediv_of_nonneg, Int.tmod_eq_emod_of_nonneg] | ((first | refine ac ?_ ?_ | refine aa ?_ ?_) <;> intro hc <;> (try simp only [hc]) <;> try simp at hc) | (with_reducible refine ⟨?_, ?_⟩; (focus ((repeat' with_reducible refine ⟨?_, ?_⟩) <;> first | exact trivial | assumption | (simp; done) | (simp only [List.length_map] at *; omega) | omega | (simp [fs]; done)))) | (with_reducible intro x hx) | omega) <;> (try simp only [aF, e1, e2, e3, e4, e5, Nat.reduceBEq, reduceIte, Nat.reduceAdd, reduceCtorEq, cond_false, ne_eq, fw, fd]))
 refine aT (ι := {i : Nat // i ≤ a.bd.length ∧ a.bd.take i = b.bd.take i}) (fun i => ([(2, .ptr 0 0 0 1), (3, .ptr 1 0 0 1), (50, .int .i64 a.bd.length), (51, .int .i64 i.1)], [⟨true, false, true, false, 9, [a.cells], some 0⟩, ⟨true, false, true, false, 9, [b.cells], some 0⟩])) (fun i => a.bd.length - i.1) ⟨0, by simp⟩ ?_ ?_
 ·simp only [Ru.cells, e1, e2, e3, e4, e5]
  refine aJ [0, 1] (by rfl) (by simp) (by simp [fg]) (by simp [fg])
 rintro ⟨i, hi, ht⟩ hk
 dsimp only at hk ⊢
 by_cases hlt : i < a.bd.length
 ·have c2 : ((i : Int) < (a.bd.length : Int)) = True := by simp; omega
  obtain ⟨x, hx⟩ : ∃ x, a.bd[i]? = some x := ⟨_, List.getElem?_eq_getElem hlt⟩
  obtain ⟨y, hy⟩ : ∃ y, b.bd[i]? = some y := ⟨_, List.getElem?_eq_getElem (by omega)⟩
  have rx := bO (k := .i64) (m := .i64) hx
  have ry := bO (k := .i64) (m := .i64) hy
  have q2 := b2 (x := x) (y := y)
  by_cases hxy : x = y
  ·have c3 : decide (x = y) = true := by simpa using hxy
   repeat' ((first | apply ai | apply ah | apply am | apply au | refine aq rfl ?_ | apply al | apply aj | apply ae | apply ak mixed | apply ap mixed | (with_reducible first | refine ax ?_ | refine ao ?_) | simp (disch := omega) only [bf] | ((first | refine ac ?_ ?_ | refine aa ?_ ?_) <;> intro hc <;> (try simp only [hc]) <;> try simp at hc) | (with_reducible refine ⟨?_, ?_⟩; (focus ((repeat' with_reducible refine ⟨?_, ?_⟩) <;> first | exact trivial | assumption | (simp; done) | (simp only [List.length_map] at *; omega) | omega | (simp [fs]; done)))) | (with_reducible intro x hx) | omega) <;> (try simp only [aF, c2, q2, c3, rx, ry, Ru.cells, Nat.reduceBEq, reduceIte, Nat.reduceAdd, cond_true, fw, fd]))
   refine hk ⟨i + 1, by omega, bZ ht hx hy hxy⟩ _ _ (by dsimp only; omega) ?_
   dsimp only [Ru.cells]
   refine aJ [0, 1] (by rfl) (by simp) (by simp [fg]) (by simp [fg])
  ·have c3 : decide (x = y) = false := by simpa using hxy
   have e : decide (a = b) = false := by
    have := dC hx hy hxy
    simp only [decide_eq_false_iff_not] at this ⊢
    exact fun h => this (by rw [h])
   rw [e]
   repeat' ((first | apply ai | apply ah | apply am | apply au | refine aq rfl ?_ | apply al | apply aj | apply ae | apply ak mixed | apply ap mixed | (with_reducible first | refine ax ?_ | refine ao ?_) | simp (disch := omega) only [bf, aG, aN, aO, bp, Int.tdiv_eq_ediv_of_nonneg, Int.tmod_eq_emod_of_nonneg] | ((first | refine ac ?_ ?_ | refine aa ?_ ?_) <;> intro hc <;> (try simp only [hc]) <;> try simp at hc) | (with_reducible refine ⟨?_, ?_⟩; (focus ((repeat' with_reducible refine ⟨?_, ?_⟩) <;> first | exact trivial | assumption | (simp; done) | (simp only [List.length_map] at *; omega) | omega | (simp [fs]; done)))) | (with_reducible intro x hx) | omega) <;> (try simp only [aF, c2, q2, c3, rx, ry, Ru.cells, Nat.reduceBEq, reduceIte, Nat.reduceAdd, cond_true, fw, fd]))
 ·have c2 : ((i : Int) < (a.bd.length : Int)) = False := by simp; omega
  have e : a.bd = b.bd := by simpa using cM ht hlt hl
  have e6 : decide (a = b) = (decide (a.bm = b.bm) && (decide (a.bmd = b.bmd) && decide (a.bsp = b.bsp))) := by
   rw [Bool.eq_iff_iff]; simp [Ru.eq_iff, e1, e2, e3, e4, e5, e]
  rw [e6]
  repeat' ((first | apply ai | apply ah | apply am | apply au | refine aq rfl ?_ | apply al | apply aj | apply ae | apply ak mixed | apply ap mixed | (with_reducible first | refine ax ?_ | refine ao ?_) | refine av (va _ _ (by omega) (by omega)) ?_ ?_ | simp (disch := omega) only [bf, aG, aN, aO, bp, Int.tdiv_eq_ediv_of_nonneg, Int.tmod_eq_emod_of_nonneg] | ((first | refine ac ?_ ?_ | refine aa ?_ ?_) <;> intro hc <;> (try simp only [hc]) <;> try simp at hc) | (with_reducible refine ⟨?_, ?_⟩; (focus ((repeat' with_reducible refine ⟨?_, ?_⟩) <;> first | exact trivial | assumption | (simp; done) | (simp only [List.length_map] at *; omega) | omega | (simp [fs]; done)))) | (with_reducible intro x hx) | omega) <;> (try simp only [c2, Ru.cells, Nat.reduceBEq, reduceIte, cond_true, cond_false, fw, fd]))
  all_goals skip
end Go.Proofs.Ytgefljdclekadaa
