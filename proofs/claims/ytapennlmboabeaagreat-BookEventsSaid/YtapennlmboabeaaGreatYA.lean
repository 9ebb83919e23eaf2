import Derived.Test.YtapennlmboabeaaGreatY0
import Derived.Test.YtapennlmboabeaaGreatVi33
set_option linter.unusedVariables false
set_option linter.unusedSimpArgs false
set_option linter.unnecessarySimpa false
namespace Go.Proofs.YtapennlmboabeaaGreat
open Go Go.Vi
theorem mixed : Tryz.prog.follows .mixedOrders = true := by kernel_rfl
structure Dn where
 c : Int
 n : Int
 v : Int
 deriving DecidableEq
def Dn.row (d : Dn) : List D := [.int .u32 d.c, .int .u64 d.n, .int .u64 d.v]
def hH (l : List Dn) : List (List D) := l.map Dn.row
theorem ai {l : List Dn} : (hH l).length = l.length := by simp [hH]
structure Ru where
 freq : Int
 interval : Int
 count : Int
 til : Int
 bm : List Int
 bmd : List Int
 bd : List (Int × Int)
 bsp : List Int
 start : Int
 deriving DecidableEq
structure Ev where
 start : Int
 long : Int
 world : Bool
 again : Bool
 rule : Ru
 ex : List Int
 plus : List Int
 ch : List (Int × Int × Int)
 deriving DecidableEq
structure Se where
 base : Int
 turns : List (Int × Int)
 shifts : List (Int × Int × Int)
 off : List Int
 before : Int
 after : Int
 deriving DecidableEq
structure En where
 id : Int
 ev : Ev
 deriving DecidableEq
structure Us where
 id : Int
 se : Se
 ver : Int
 evs : List En
 deriving DecidableEq
structure Qu where
 a : Int
 b : Int
 long : Int
 grid : Int
 must : List Int
 may : List (Int × Int)
 seats : Int
 apart : List (Int × Int)
 prefer : List (Int × Int × Int)
 deriving DecidableEq
structure Po where
 id : Int
 owner : Int
 qu : Qu
 slots : List Int
 votes : List (Int × Int)
 til : Int
 state : Int
 winner : Int
 deriving DecidableEq
def ar (k : IntKind) (l : List Int) : List (List D) := l.map fun x => [.int k x]
def bz (k m : IntKind) (l : List (Int × Int)) : List (List D) := l.map fun x => [.int k x.1, .int m x.2]
def ed (l : List (Int × Int × Int)) : List (List D) := l.map fun x => [.int .i64 x.1, .int .i64 x.2.1, .int .i64 x.2.2]
abbrev L (rows : List (List D)) : D := .list none false rows
def Ru.cells (r : Ru) : List D := [.int .i64 r.freq, .int .i64 r.interval, .int .i64 r.count, .int .i64 r.til, L (ar .i64 r.bm), L (ar .i64 r.bmd), L (bz .i64 .i64 r.bd), L (ar .i64 r.bsp), .int .i64 r.start]
def Ev.cells (e : Ev) : List D := [.int .i64 e.start, .int .i64 e.long, .bool e.world, .bool e.again, .int .i64 e.rule.freq, .int .i64 e.rule.interval, .int .i64 e.rule.count, .int .i64 e.rule.til, L (ar .i64 e.rule.bm), L (ar .i64 e.rule.bmd), L (bz .i64 .i64 e.rule.bd), L (ar .i64 e.rule.bsp), .int .i64 e.rule.start, L (ar .i64 e.ex), L (ar .i64 e.plus), L (ed e.ch)]
def Se.cells (s : Se) : List D := [.int .i64 s.base, L (bz .i64 .i64 s.turns), L (ed s.shifts), L (ar .i64 s.off), .int .i64 s.before, .int .i64 s.after]
def En.row (e : En) : List D := [.int .u32 e.id, .int .i64 e.ev.start, .int .i64 e.ev.long, .bool e.ev.world, .bool e.ev.again, .int .i64 e.ev.rule.freq, .int .i64 e.ev.rule.interval, .int .i64 e.ev.rule.count, .int .i64 e.ev.rule.til, L (ar .i64 e.ev.rule.bm), L (ar .i64 e.ev.rule.bmd), L (bz .i64 .i64 e.ev.rule.bd), L (ar .i64 e.ev.rule.bsp), .int .i64 e.ev.rule.start, L (ar .i64 e.ev.ex), L (ar .i64 e.ev.plus), L (ed e.ev.ch)]
def bA (l : List En) : List (List D) := l.map En.row
def Us.row (u : Us) : List D := [.int .u32 u.id, .int .i64 u.se.base, L (bz .i64 .i64 u.se.turns), L (ed u.se.shifts), L (ar .i64 u.se.off), .int .i64 u.se.before, .int .i64 u.se.after, .int .u64 u.ver, L (bA u.evs)]
def dA (l : List Us) : List (List D) := l.map Us.row
def Qu.cells (q : Qu) : List D := [.int .i64 q.a, .int .i64 q.b, .int .i64 q.long, .int .i64 q.grid, L (ar .u32 q.must), L (bz .u32 .i64 q.may), .int .i64 q.seats, L (bz .u32 .u32 q.apart), L (ed q.prefer)]
def Po.row (p : Po) : List D := [.int .u32 p.id, .int .u32 p.owner, .int .i64 p.qu.a, .int .i64 p.qu.b, .int .i64 p.qu.long, .int .i64 p.qu.grid, L (ar .u32 p.qu.must), L (bz .u32 .i64 p.qu.may), .int .i64 p.qu.seats, L (bz .u32 .u32 p.qu.apart), L (ed p.qu.prefer), L (ar .i64 p.slots), L (bz .u32 .i64 p.votes), .int .i64 p.til, .int .i64 p.state, .int .i64 p.winner]
def fF (l : List Po) : List (List D) := l.map Po.row
theorem ab {k : IntKind} {l : List Int} : (ar k l).length = l.length := by simp [ar]
theorem ac {k m : IntKind} {l : List (Int × Int)} : (bz k m l).length = l.length := by simp [bz]
theorem ae {l : List (Int × Int × Int)} : (ed l).length = l.length := by simp [ed]
theorem ah {l : List En} : (bA l).length = l.length := by simp [bA]
theorem aj {l : List Us} : (dA l).length = l.length := by simp [dA]
theorem ak {l : List Po} : (fF l).length = l.length := by simp [fF]
theorem eE {k : IntKind} {l : List Int} {i : Nat} {x : Int} (h : l[i]? = some x) : (ar k l)[i]? = some [.int k x] := by simp [ar, h]
theorem ew {k m : IntKind} {l : List (Int × Int)} {i : Nat} {x : Int × Int} (h : l[i]? = some x) : (bz k m l)[i]? = some [.int k x.1, .int m x.2] := by simp [bz, h]
theorem iK {l : List (Int × Int × Int)} {i : Nat} {x : Int × Int × Int} (h : l[i]? = some x) : (ed l)[i]? = some [.int .i64 x.1, .int .i64 x.2.1, .int .i64 x.2.2] := by simp [ed, h]
theorem gK {l : List En} {i : Nat} {x : En} (h : l[i]? = some x) : (bA l)[i]? = some x.row := by simp [bA, h]
theorem fY {l : List Us} {i : Nat} {x : Us} (h : l[i]? = some x) : (dA l)[i]? = some x.row := by simp [dA, h]
theorem nG {l : List Po} {i : Nat} {x : Po} (h : l[i]? = some x) : (fF l)[i]? = some x.row := by simp [fF, h]
def Se.great (s : Se) : Bool := decide (100 < s.turns.length) || decide (30 < s.shifts.length) || decide (100 < s.off.length)
theorem iB : type_of% (an @ab (an @ac (an @ae (an @ah (an @aj (an @ak (an @ai (an @Se.cells.eq_1 (an @Ev.cells.eq_1 (an @Qu.cells.eq_1 @Ru.cells.eq_1)))))))))) := (an @ab (an @ac (an @ae (an @ah (an @aj (an @ak (an @ai (an @Se.cells.eq_1 (an @Ev.cells.eq_1 (an @Qu.cells.eq_1 @Ru.cells.eq_1))))))))))
theorem vF (s : Se) : aA Tryz.prog 6 [.agg s.cells] (.bool s.great) := by
 refine bl Tryz.func6 low6 (by simp [c6]) ?_
 simp only [c6]
 exact lC [] [] (an iB @Se.great.eq_1)
def Ev.great (e : Ev) : Bool := decide (80 < e.ex.length) || decide (80 < e.plus.length) || decide (80 < e.ch.length) || decide (100 < e.rule.bm.length) || decide (100 < e.rule.bmd.length) || decide (200 < e.rule.bd.length) || decide (500 < e.rule.bsp.length)
theorem qn (s : Ev) : aA Tryz.prog 19 [.agg s.cells] (.bool s.great) := by
 refine bl Tryz.func19 low19 (by simp [c19]) ?_
 simp only [c19]
 exact lC [] [] (an iB @Ev.great.eq_1)
def Qu.great (s : Qu) : Bool := decide (80 < s.must.length) || decide (40 < s.may.length) || decide (60 < s.apart.length) || decide (30 < s.prefer.length)
theorem vE (s : Qu) : aA Tryz.prog 86 [.agg s.cells] (.bool s.great) := by
 refine bl Tryz.func86 low86 (by simp [c86]) ?_
 simp only [c86]
 exact lC [] [] (an iB @Qu.great.eq_1)
def Po.great (s : Po) : Bool := s.qu.great || decide (80 < s.slots.length) || decide (300 < s.votes.length)
theorem vD (s : Po) : aA Tryz.prog 54 [.agg s.row] (.bool s.great) := by
 refine bl Tryz.func54 low54 (by simp [c54]) ?_
 simp only [c54, Po.row]
 have hq := vE s.qu
 simp only [Qu.cells] at hq
 exact lC [] [] (an iB @Po.great.eq_1)
def St (t : Int) (us : List Us) (ps : List Po) (ds : List Dn) : D := .agg [.int .i64 t, L (dA us), L (fF ps), L (hH ds)]
def Us.great (u : Us) : Bool := u.se.great || decide (10 < u.evs.length) || u.evs.any fun e => e.ev.great
def hJ (us : List Us) (ps : List Po) (ds : List Dn) : Bool := decide (12 < us.length) || decide (8 < ps.length) || decide (100 < ds.length) || us.any Us.great || ps.any Po.great
def Us.fits (u : Us) : Prop := u.evs.length ≤ 140737488351232
def fits (us : List Us) (ps : List Po) (ds : List Dn) : Prop := us.length ≤ 1407374883512 ∧ ps.length ≤ 1407374883512 ∧ ds.length ≤ 5864062014677 ∧ ∀ u ∈ us, u.fits
theorem oU {α : Type} {l : List α} {f : α → Bool} {i : Nat} {x : α} (h : l[i]? = some x) : (l.drop i).any f = (f x || (l.drop (i + 1)).any f) := by
 obtain ⟨hl, rfl⟩ := List.getElem?_eq_some_iff.1 h
 rw [List.drop_eq_getElem_cons hl, List.any_cons]
set_option maxHeartbeats 4000000 in
theorem vG (t : Int) (us : List Us) (ps : List Po) (ds : List Dn) (hf : fits us ps ds) : aA Tryz.prog 27 [St t us ps ds] (.bool (hJ us ps ds)) := by
 refine bl Tryz.func27 low27 (by simp [c27]) ?_
 simp only [c27, St]
 obtain ⟨f1, f2, f3, f4⟩ := hf
 by_cases h0 : 12 < us.length ∨ 8 < ps.length ∨ 100 < ds.length
 ·have e : hJ us ps ds = true := by
   unfold hJ
   rcases h0 with h | h | h <;> simp [h]
  rw [e]
  by_cases h1 : 12 < us.length
  ·have c1 : ((us.length : Int) > 12) = True := by simp; omega
   exact dz [] [] (an iB c1)
  ·have c1 : ((us.length : Int) > 12) = False := by simp; omega
   by_cases h2 : 8 < ps.length
   ·have c2 : ((ps.length : Int) > 8) = True := by simp; omega
    exact dz [] [] (an iB (an c1 c2))
   ·have c2 : ((ps.length : Int) > 8) = False := by simp; omega
    have c3 : ((ds.length : Int) > 100) = True := by simp; omega
    exact dz [] [] (an iB (an c1 (an c2 c3)))
 have c1 : ((us.length : Int) > 12) = False := by simp; omega
 have c2 : ((ps.length : Int) > 8) = False := by simp; omega
 have c3 : ((ds.length : Int) > 100) = False := by simp; omega
 have e : hJ us ps ds = (us.any Us.great || ps.any Po.great) := by
  unfold hJ
  have g1 : ¬ 12 < us.length := fun h => h0 (.inl h)
  have g2 : ¬ 8 < ps.length := fun h => h0 (.inr (.inl h))
  have g3 : ¬ 100 < ds.length := fun h => h0 (.inr (.inr h))
  simp [g1, g2, g3]
 rw [e]
 refine wk [] [] (an iB (an c1 (an c2 c3))) ?_
 refine av (ι := {i : Nat // i ≤ us.length ∧ us.any Us.great = (us.drop i).any Us.great}) (fun i => ([(1, .ptr 0 0 0 1), (25, .int .i64 us.length), (26, .int .i64 i.1)], [⟨true, false, true, false, 4, [[.int .i64 t, L (dA us), L (fF ps), L (hH ds)]], some 0⟩])) (fun i => us.length - i.1) ⟨0, by simp⟩ ?_ ?_
 ·exact fx [0] iB
 rintro ⟨i, hi, hg⟩ hk
 dsimp only at hk ⊢
 by_cases hlt : i < us.length
 ·have c4 : ((i : Int) < (us.length : Int)) = True := by simp; omega
  obtain ⟨u, hu⟩ : ∃ u, us[i]? = some u := ⟨_, List.getElem?_eq_getElem hlt⟩
  have hr := fY hu
  have had := oU (f := Us.great) hu
  have hse := vF u.se
  simp only [Se.cells] at hse
  have hfu : u.evs.length ≤ 140737488351232 := f4 u (List.mem_of_getElem? hu)
  by_cases hsg : u.se.great = true
  ·have e2 : us.any Us.great = true := by rw [hg, had]; simp [Us.great, hsg]
   rw [e2]
   exact lC [] [] (an iB (an c4 (an hr (an hsg @Us.row.eq_1))))
  have hsg' : u.se.great = false := by simpa using hsg
  by_cases h10 : 10 < u.evs.length
  ·have e2 : us.any Us.great = true := by rw [hg, had]; simp [Us.great, h10]
   rw [e2]
   have c5 : ((u.evs.length : Int) > 10) = True := by simp; omega
   exact lC [] [] (an iB (an c4 (an c5 (an hr (an hsg' @Us.row.eq_1)))))
  have c5 : ((u.evs.length : Int) > 10) = False := by simp; omega
  refine wk [] [] (an iB (an c4 (an c5 (an hr (an hsg' @Us.row.eq_1))))) ?_
  refine av (ι := {j : Nat // j ≤ u.evs.length ∧ (u.evs.any fun e => e.ev.great) = (u.evs.drop j).any fun e => e.ev.great}) (fun j => ([(1, .ptr 0 0 0 1), (25, .int .i64 us.length), (26, .int .i64 i), (4, .ptr 1 0 0 1), (45, .int .i64 u.evs.length), (46, .int .i64 j.1)], [⟨true, false, true, false, 4, [[.int .i64 t, L (dA us), L (fF ps), L (hH ds)]], some 0⟩, ⟨true, false, true, false, 9, [u.row], some 0⟩])) (fun j => u.evs.length - j.1) ⟨0, by simp⟩ ?_ ?_
  ·simp only [Us.row]
   exact fx [0, 1] iB
  rintro ⟨j, hj, hgj⟩ hkj
  dsimp only at hkj ⊢
  by_cases hltj : j < u.evs.length
  ·have c6 : ((j : Int) < (u.evs.length : Int)) = True := by simp; omega
   obtain ⟨v, hv⟩ : ∃ v, u.evs[j]? = some v := ⟨_, List.getElem?_eq_getElem hltj⟩
   have hrv := gK hv
   have hadj := oU (f := fun e : En => e.ev.great) hv
   have hev := qn v.ev
   simp only [Ev.cells] at hev
   by_cases hvg : v.ev.great = true
   ·have e2 : us.any Us.great = true := by rw [hg, had]; simp [Us.great, hgj, hadj, hvg]
    rw [e2]
    exact lC [] [] (an iB (an c6 (an hrv (an hvg (an @Us.row.eq_1 @En.row.eq_1)))))
   have hvg' : v.ev.great = false := by simpa using hvg
   refine wk [] [] (an iB (an c6 (an hrv (an hvg' (an @Us.row.eq_1 @En.row.eq_1))))) ?_
   refine hkj ⟨j + 1, by omega, by rw [hgj, hadj]; simp [hvg']⟩ _ _ (by dsimp only; omega) ?_
   dsimp only [Us.row]
   exact fx [0, 1] iB
  ·have c6 : ((j : Int) < (u.evs.length : Int)) = False := by simp; omega
   refine wk [] [] (an iB (an c6 @Us.row.eq_1)) ?_
   refine hk ⟨i + 1, by omega, ?_⟩ _ _ (by dsimp only; omega) ?_
   ·rw [hg, had]
    have : u.great = false := by
     unfold Us.great; rw [hgj, List.drop_eq_nil_of_le (by omega)]; simp [hsg', h10]
    rw [this]; rfl
   dsimp only
   exact fx [0] iB
 ·have c4 : ((i : Int) < (us.length : Int)) = False := by simp; omega
  have e3 : us.any Us.great = false := by rw [hg, List.drop_eq_nil_of_le (by omega)]; rfl
  rw [e3, Bool.false_or]
  clear hk hg e e3
  refine wk [] [] (an iB c4) ?_
  refine av (ι := {j : Nat // j ≤ ps.length ∧ ps.any Po.great = (ps.drop j).any Po.great}) (fun j => ([(1, .ptr 0 0 0 1), (60, .int .i64 ps.length), (61, .int .i64 j.1)], [⟨true, false, true, false, 4, [[.int .i64 t, L (dA us), L (fF ps), L (hH ds)]], some 0⟩])) (fun j => ps.length - j.1) ⟨0, by simp⟩ ?_ ?_
  ·exact fx [0] iB
  rintro ⟨j, hj, hgj⟩ hkj
  dsimp only at hkj ⊢
  by_cases hltj : j < ps.length
  ·have c6 : ((j : Int) < (ps.length : Int)) = True := by simp; omega
   obtain ⟨v, hv⟩ : ∃ v, ps[j]? = some v := ⟨_, List.getElem?_eq_getElem hltj⟩
   have hrv := nG hv
   have hadj := oU (f := Po.great) hv
   have hpo := vD v
   simp only [Po.row] at hpo
   by_cases hvg : v.great = true
   ·have e2 : ps.any Po.great = true := by rw [hgj, hadj]; simp [hvg]
    rw [e2]
    exact dz [] [] (an iB (an c6 (an hrv (an hvg @Po.row.eq_1))))
   have hvg' : v.great = false := by simpa using hvg
   refine wk [] [] (an iB (an c6 (an hrv (an hvg' @Po.row.eq_1)))) ?_
   refine hkj ⟨j + 1, by omega, by rw [hgj, hadj]; simp [hvg']⟩ _ _ (by dsimp only; omega) ?_
   dsimp only
   exact fx [0] iB
  ·have c6 : ((j : Int) < (ps.length : Int)) = False := by simp; omega
   have e3 : ps.any Po.great = false := by rw [hgj, List.drop_eq_nil_of_le (by omega)]; rfl
   rw [e3]
   exact dz [] [] (an iB c6)
end Go.Proofs.YtapennlmboabeaaGreat

namespace Go.Proofs.YtapennlmboabeaaGreat
open Go Go.Vi
theorem b2 {x y : Int × Int} : ((x.1 == y.1) && (x.2 == y.2)) = decide (x = y) := by
 rw [Bool.eq_iff_iff]; simp [Prod.ext_iff]
theorem b3 {x y : Int × Int × Int} : ((x.1 == y.1) && ((x.2.1 == y.2.1) && (x.2.2 == y.2.2))) = decide (x = y) := by
 rw [Bool.eq_iff_iff]; simp [Prod.ext_iff]
theorem fW {α : Type} [DecidableEq α] {a b : List α} {i : Nat} (h : a.take i = b.take i) (hi : ¬ i < a.length) (hl : a.length = b.length) : decide (a = b) = true := by
 rw [List.take_of_length_le (by omega), List.take_of_length_le (by omega)] at h
 simpa using h
theorem eC {α : Type} {a b : List α} {i : Nat} {x y : α} (h : a.take i = b.take i) (hx : a[i]? = some x) (hy : b[i]? = some y) (hxy : x = y) : a.take (i + 1) = b.take (i + 1) := by
 rw [List.take_add_one, List.take_add_one, h, hx, hy, hxy]
theorem gV {α : Type} [DecidableEq α] {a b : List α} {i : Nat} {x y : α} (hx : a[i]? = some x) (hy : b[i]? = some y) (hxy : ¬ x = y) : decide (a = b) = false := by
 simp only [decide_eq_false_iff_not]
 rintro rfl
 rw [hx] at hy
 exact hxy (by simpa using hy)
theorem iz {α : Type} [DecidableEq α] {a b : List α} (h : ¬ a.length = b.length) : decide (a = b) = false := by
 simp only [decide_eq_false_iff_not]
 rintro rfl
 exact h rfl
theorem kT {a b : Nat} (h : ¬ a = b) : ((a : Int) == (b : Int)) = false := by simp; omega
theorem iR : type_of% (an @ab (an @ac (an @ae (an @ah (an @aj (an @ak @ai)))))) := (an @ab (an @ac (an @ae (an @ah (an @aj (an @ak @ai))))))
theorem rr (a b : List Int) (ha : a.length ≤ 140737488351232) (hb : b.length ≤ 140737488351232) : aA Tryz.prog 53 [L (ar .i64 a), L (ar .i64 b)] (.bool (decide (a = b))) := by
 refine bl Tryz.func53 low53 (by simp [c53]) ?_
 simp only [c53]
 by_cases hl : ¬ a.length = b.length
 ·have c1 := kT hl
  rw [iz hl]
  exact dz [] [] (an iR c1)
 have hl : a.length = b.length := by omega
 have c1 : ((a.length : Int) == (b.length : Int)) = true := by simp [hl]
 refine wk [] [] (an iR c1) ?_
 refine av (ι := {i : Nat // i ≤ a.length ∧ a.take i = b.take i}) (fun i => ([(0, L (ar .i64 a)), (1, L (ar .i64 b)), (12, .int .i64 a.length), (13, .int .i64 i.1)], [])) (fun i => a.length - i.1) ⟨0, by simp⟩ ?_ ?_
 ·exact fx [] iR
 rintro ⟨i, hi, ht⟩ hk
 dsimp only at hk ⊢
 by_cases hlt : i < a.length
 ·have c2 : ((i : Int) < (a.length : Int)) = True := by simp; omega
  obtain ⟨x, hx⟩ : ∃ x, a[i]? = some x := ⟨_, List.getElem?_eq_getElem hlt⟩
  obtain ⟨y, hy⟩ : ∃ y, b[i]? = some y := ⟨_, List.getElem?_eq_getElem (by omega)⟩
  have rx := eE (k := .i64) hx
  have ry := eE (k := .i64) hy
  by_cases hxy : x = y
  ·have c3 : (x == y) = true := by simpa using hxy
   refine wk [] [] (an iR (an c2 (an c3 (an rx ry)))) ?_
   refine hk ⟨i + 1, by omega, eC ht hx hy hxy⟩ _ _ (by dsimp only; omega) ?_
   dsimp only
   exact fx [] iR
  ·have c3 : (x == y) = false := by simpa using hxy
   rw [gV hx hy hxy]
   exact dz [] [] (an iR (an c2 (an c3 (an rx ry))))
 ·have c2 : ((i : Int) < (a.length : Int)) = False := by simp; omega
  rw [fW ht hlt hl]
  exact dz [] [] (an iR c2)
theorem Cx (a b : List Int) (ha : a.length ≤ 140737488351232) (hb : b.length ≤ 140737488351232) : aA Tryz.prog 72 [L (ar .i64 a), L (ar .i64 b)] (.bool (decide (a = b))) := by
 refine bl Tryz.func72 low72 (by simp [c72]) ?_
 simp only [c72]
 by_cases hl : ¬ a.length = b.length
 ·have c1 := kT hl
  rw [iz hl]
  exact dz [] [] (an iR c1)
 have hl : a.length = b.length := by omega
 have c1 : ((a.length : Int) == (b.length : Int)) = true := by simp [hl]
 refine wk [] [] (an iR c1) ?_
 refine av (ι := {i : Nat // i ≤ a.length ∧ a.take i = b.take i}) (fun i => ([(0, L (ar .i64 a)), (1, L (ar .i64 b)), (12, .int .i64 a.length), (13, .int .i64 i.1)], [])) (fun i => a.length - i.1) ⟨0, by simp⟩ ?_ ?_
 ·exact fx [] iR
 rintro ⟨i, hi, ht⟩ hk
 dsimp only at hk ⊢
 by_cases hlt : i < a.length
 ·have c2 : ((i : Int) < (a.length : Int)) = True := by simp; omega
  obtain ⟨x, hx⟩ : ∃ x, a[i]? = some x := ⟨_, List.getElem?_eq_getElem hlt⟩
  obtain ⟨y, hy⟩ : ∃ y, b[i]? = some y := ⟨_, List.getElem?_eq_getElem (by omega)⟩
  have rx := eE (k := .i64) hx
  have ry := eE (k := .i64) hy
  by_cases hxy : x = y
  ·have c3 : (x == y) = true := by simpa using hxy
   refine wk [] [] (an iR (an c2 (an c3 (an rx ry)))) ?_
   refine hk ⟨i + 1, by omega, eC ht hx hy hxy⟩ _ _ (by dsimp only; omega) ?_
   dsimp only
   exact fx [] iR
  ·have c3 : (x == y) = false := by simpa using hxy
   rw [gV hx hy hxy]
   exact dz [] [] (an iR (an c2 (an c3 (an rx ry))))
 ·have c2 : ((i : Int) < (a.length : Int)) = False := by simp; omega
  rw [fW ht hlt hl]
  exact dz [] [] (an iR c2)
theorem sW (a b : List (Int × Int × Int)) (ha : a.length ≤ 140737488351232) (hb : b.length ≤ 140737488351232) : aA Tryz.prog 71 [L (ed a), L (ed b)] (.bool (decide (a = b))) := by
 refine bl Tryz.func71 low71 (by simp [c71]) ?_
 simp only [c71]
 by_cases hl : ¬ a.length = b.length
 ·have c1 := kT hl
  rw [iz hl]
  exact dz [] [] (an iR c1)
 have hl : a.length = b.length := by omega
 have c1 : ((a.length : Int) == (b.length : Int)) = true := by simp [hl]
 refine wk [] [] (an iR c1) ?_
 refine av (ι := {i : Nat // i ≤ a.length ∧ a.take i = b.take i}) (fun i => ([(0, L (ed a)), (1, L (ed b)), (12, .int .i64 a.length), (13, .int .i64 i.1)], [])) (fun i => a.length - i.1) ⟨0, by simp⟩ ?_ ?_
 ·exact fx [] iR
 rintro ⟨i, hi, ht⟩ hk
 dsimp only at hk ⊢
 by_cases hlt : i < a.length
 ·have c2 : ((i : Int) < (a.length : Int)) = True := by simp; omega
  obtain ⟨x, hx⟩ : ∃ x, a[i]? = some x := ⟨_, List.getElem?_eq_getElem hlt⟩
  obtain ⟨y, hy⟩ : ∃ y, b[i]? = some y := ⟨_, List.getElem?_eq_getElem (by omega)⟩
  have rx := iK hx
  have ry := iK hy
  have e3 := b3 (x := x) (y := y)
  by_cases hxy : x = y
  ·have c3 : decide (x = y) = true := by simpa using hxy
   refine wk [] [] (an iR (an c2 (an e3 (an c3 (an rx ry))))) ?_
   refine hk ⟨i + 1, by omega, eC ht hx hy hxy⟩ _ _ (by dsimp only; omega) ?_
   dsimp only
   exact fx [] iR
  ·have c3 : decide (x = y) = false := by simpa using hxy
   rw [gV hx hy hxy]
   exact dz [] [] (an iR (an c2 (an e3 (an c3 (an rx ry)))))
 ·have c2 : ((i : Int) < (a.length : Int)) = False := by simp; omega
  rw [fW ht hlt hl]
  exact dz [] [] (an iR c2)
end Go.Proofs.YtapennlmboabeaaGreat

namespace Go.Proofs.YtapennlmboabeaaGreat
open Go Go.Vi
theorem j2 : type_of% (an @ab (an @ac (an @ae (an @ah (an @aj (an @ak @ai)))))) := (an @ab (an @ac (an @ae (an @ah (an @aj (an @ak @ai))))))
theorem zc (a b : List Int) (ha : a.length ≤ 140737488351232) (hb : b.length ≤ 140737488351232) : aA Tryz.prog 85 [L (ar .i64 a), L (ar .i64 b)] (.bool (decide (a = b))) := by
 refine bl Tryz.func85 low85 (by simp [c85]) ?_
 simp only [c85]
 by_cases hl : ¬ a.length = b.length
 ·have c1 := kT hl
  rw [iz hl]
  exact dz [] [] (an j2 c1)
 have hl : a.length = b.length := by omega
 have c1 : ((a.length : Int) == (b.length : Int)) = true := by simp [hl]
 refine wk [] [] (an j2 c1) ?_
 refine av (ι := {i : Nat // i ≤ a.length ∧ a.take i = b.take i}) (fun i => ([(0, L (ar .i64 a)), (1, L (ar .i64 b)), (12, .int .i64 a.length), (13, .int .i64 i.1)], [])) (fun i => a.length - i.1) ⟨0, by simp⟩ ?_ ?_
 ·exact fx [] j2
 rintro ⟨i, hi, ht⟩ hk
 dsimp only at hk ⊢
 by_cases hlt : i < a.length
 ·have c2 : ((i : Int) < (a.length : Int)) = True := by simp; omega
  obtain ⟨x, hx⟩ : ∃ x, a[i]? = some x := ⟨_, List.getElem?_eq_getElem hlt⟩
  obtain ⟨y, hy⟩ : ∃ y, b[i]? = some y := ⟨_, List.getElem?_eq_getElem (by omega)⟩
  have rx := eE (k := .i64) hx
  have ry := eE (k := .i64) hy
  by_cases hxy : x = y
  ·have c3 : (x == y) = true := by simpa using hxy
   refine wk [] [] (an j2 (an c2 (an c3 (an rx ry)))) ?_
   refine hk ⟨i + 1, by omega, eC ht hx hy hxy⟩ _ _ (by dsimp only; omega) ?_
   dsimp only
   exact fx [] j2
  ·have c3 : (x == y) = false := by simpa using hxy
   rw [gV hx hy hxy]
   exact dz [] [] (an j2 (an c2 (an c3 (an rx ry))))
 ·have c2 : ((i : Int) < (a.length : Int)) = False := by simp; omega
  rw [fW ht hlt hl]
  exact dz [] [] (an j2 c2)
theorem Ru.eq_iff {a b : Ru} : a = b ↔ (a.freq = b.freq ∧ a.interval = b.interval ∧ a.count = b.count ∧ a.til = b.til ∧ a.bm = b.bm ∧ a.bmd = b.bmd ∧ a.bd = b.bd ∧ a.bsp = b.bsp ∧ a.start = b.start) := by
 cases a; cases b; simp only [Ru.mk.injEq]
def Ru.fits (r : Ru) : Prop := r.bm.length ≤ 140737488351232 ∧ r.bmd.length ≤ 140737488351232 ∧ r.bd.length ≤ 140737488351232 ∧ r.bsp.length ≤ 140737488351232
set_option maxHeartbeats 1000000 in
theorem sU (a b : Ru) (fa : a.fits) (fb : b.fits) : aA Tryz.prog 52 [.agg a.cells, .agg b.cells] (.bool (decide (a = b))) := by
 refine bl Tryz.func52 low52 (by simp [c52]) ?_
 simp only [c52, Ru.cells]
 obtain ⟨a1, a2, a3, a4⟩ := fa
 obtain ⟨b1', b2', b3', b4⟩ := fb
 by_cases h : ¬ (b.freq = a.freq ∧ b.interval = a.interval ∧ b.count = a.count ∧ b.til = a.til ∧ b.start = a.start ∧ a.bd.length = b.bd.length)
 ·have e : decide (a = b) = false := by
   simp only [decide_eq_false_iff_not]
   rintro rfl
   exact h ⟨rfl, rfl, rfl, rfl, rfl, rfl⟩
  rw [e]
  exact lC [] [] j2
 obtain ⟨e1, e2, e3, e4, e5, hl⟩ : (b.freq = a.freq ∧ b.interval = a.interval ∧ b.count = a.count ∧ b.til = a.til ∧ b.start = a.start ∧ a.bd.length = b.bd.length) := by simpa using h
 have c1 : ((a.bd.length : Int) == (b.bd.length : Int)) = true := by simp [hl]
 refine wk [] [] (an j2 (an e1 (an e2 (an e3 (an e4 (an e5 c1)))))) ?_
 refine av (ι := {i : Nat // i ≤ a.bd.length ∧ a.bd.take i = b.bd.take i}) (fun i => ([(2, .ptr 0 0 0 1), (3, .ptr 1 0 0 1), (50, .int .i64 a.bd.length), (51, .int .i64 i.1)], [⟨true, false, true, false, 9, [a.cells], some 0⟩, ⟨true, false, true, false, 9, [b.cells], some 0⟩])) (fun i => a.bd.length - i.1) ⟨0, by simp⟩ ?_ ?_
 ·simp only [Ru.cells, e1, e2, e3, e4, e5]
  exact fx [0, 1] j2
 rintro ⟨i, hi, ht⟩ hk
 dsimp only at hk ⊢
 by_cases hlt : i < a.bd.length
 ·have c2 : ((i : Int) < (a.bd.length : Int)) = True := by simp; omega
  obtain ⟨x, hx⟩ : ∃ x, a.bd[i]? = some x := ⟨_, List.getElem?_eq_getElem hlt⟩
  obtain ⟨y, hy⟩ : ∃ y, b.bd[i]? = some y := ⟨_, List.getElem?_eq_getElem (by omega)⟩
  have rx := ew (k := .i64) (m := .i64) hx
  have ry := ew (k := .i64) (m := .i64) hy
  have q2 := b2 (x := x) (y := y)
  by_cases hxy : x = y
  ·have c3 : decide (x = y) = true := by simpa using hxy
   refine wk [] [] (an j2 (an c2 (an q2 (an c3 (an rx (an ry @Ru.cells.eq_1)))))) ?_
   refine hk ⟨i + 1, by omega, eC ht hx hy hxy⟩ _ _ (by dsimp only; omega) ?_
   dsimp only [Ru.cells]
   exact fx [0, 1] j2
  ·have c3 : decide (x = y) = false := by simpa using hxy
   have e : decide (a = b) = false := by
    have := gV hx hy hxy
    simp only [decide_eq_false_iff_not] at this ⊢
    exact fun h => this (by rw [h])
   rw [e]
   exact dz [] [] (an j2 (an c2 (an q2 (an c3 (an rx (an ry @Ru.cells.eq_1))))))
 ·have c2 : ((i : Int) < (a.bd.length : Int)) = False := by simp; omega
  have e : a.bd = b.bd := by simpa using fW ht hlt hl
  have e6 : decide (a = b) = (decide (a.bm = b.bm) && (decide (a.bmd = b.bmd) && decide (a.bsp = b.bsp))) := by
   rw [Bool.eq_iff_iff]; simp [Ru.eq_iff, e1, e2, e3, e4, e5, e]
  rw [e6]
  have uc1 := @zc
  exact lC [] [] (an j2 (an c2 @Ru.cells.eq_1))
end Go.Proofs.YtapennlmboabeaaGreat

namespace Go.Proofs.YtapennlmboabeaaGreat
open Go Go.Vi
theorem pE {l : List Dn} {i : Nat} {d : Dn} (h : l[i]? = some d) : (hH l)[i]? = some [.int .u32 d.c, .int .u64 d.n, .int .u64 d.v] := by simp [hH, h, Dn.row]
theorem bD {x y : Dn} : ((x.c == y.c) && ((x.n == y.n) && (x.v == y.v))) = decide (x = y) := by
 cases x; cases y; rw [Bool.eq_iff_iff]; simp
structure iQ where
 t : Int
 us : List Us
 ps : List Po
 ds : List Dn
 deriving DecidableEq
def iQ.cells (s : iQ) : List D := [.int .i64 s.t, L (dA s.us), L (fF s.ps), L (hH s.ds)]
def Se.fits (s : Se) : Prop := s.turns.length ≤ 140737488351232 ∧ s.shifts.length ≤ 140737488351232 ∧ s.off.length ≤ 140737488351232
def Ev.fits (s : Ev) : Prop := s.rule.fits ∧ s.ex.length ≤ 140737488351232 ∧ s.plus.length ≤ 140737488351232 ∧ s.ch.length ≤ 140737488351232
def Qu.fits (s : Qu) : Prop := s.must.length ≤ 140737488351232 ∧ s.may.length ≤ 140737488351232 ∧ s.apart.length ≤ 140737488351232 ∧ s.prefer.length ≤ 140737488351232
def Po.fits (s : Po) : Prop := s.qu.fits ∧ s.slots.length ≤ 140737488351232 ∧ s.votes.length ≤ 140737488351232
def Us.fit (s : Us) : Prop := s.se.fits ∧ s.evs.length ≤ 140737488351232 ∧ ∀ e ∈ s.evs, e.ev.fits
def iQ.fits (s : iQ) : Prop := s.us.length ≤ 1407374883512 ∧ s.ps.length ≤ 1407374883512 ∧ s.ds.length ≤ 5864062014677 ∧ (∀ u ∈ s.us, u.fit) ∧ ∀ p ∈ s.ps, p.fits
theorem Se.eq_iff {a b : Se} : a = b ↔ (a.base = b.base ∧ a.turns = b.turns ∧ a.shifts = b.shifts ∧ a.off = b.off ∧ a.before = b.before ∧ a.after = b.after) := by
 cases a; cases b; simp only [Se.mk.injEq]
theorem gL : type_of% (an @ab (an @ac (an @ae (an @ah (an @aj (an @ak @ai)))))) := (an @ab (an @ac (an @ae (an @ah (an @aj (an @ak @ai))))))
set_option maxHeartbeats 4000000 in
theorem yb (a b : Se) (fa : a.fits) (fb : b.fits) : aA Tryz.prog 44 [.agg a.cells, .agg b.cells] (.bool (decide (a = b))) := by
 refine bl Tryz.func44 low44 (by simp [c44]) ?_
 simp only [c44, Se.cells]
 obtain ⟨a1, a2, a3⟩ := fa
 obtain ⟨b1, b2', b3'⟩ := fb
 by_cases h : ¬ (b.base = a.base ∧ b.before = a.before ∧ b.after = a.after ∧ a.turns.length = b.turns.length)
 ·have e : decide (a = b) = false := by
   simp only [decide_eq_false_iff_not]
   rintro rfl
   exact h ⟨rfl, rfl, rfl, rfl⟩
  rw [e]
  exact lC [] [] gL
 obtain ⟨e0, e1, e2, hl0⟩ : (b.base = a.base ∧ b.before = a.before ∧ b.after = a.after ∧ a.turns.length = b.turns.length) := by simpa using h
 have cl0 : ((a.turns.length : Int) == (b.turns.length : Int)) = true := by simp [hl0]
 refine wk [] [] (an gL (an e0 (an e1 (an e2 cl0)))) ?_
 refine av (ι := {i : Nat // i ≤ a.turns.length ∧ a.turns.take i = b.turns.take i}) (fun i => ([(2, .ptr 0 0 0 1), (3, .ptr 1 0 0 1), (41, .int .i64 a.turns.length), (42, .int .i64 i.1)], [⟨true, false, true, false, 6, [a.cells], some 0⟩, ⟨true, false, true, false, 6, [b.cells], some 0⟩])) (fun i => a.turns.length - i.1) ⟨0, by simp⟩ ?_ ?_
 ·simp only [Se.cells, e0, e1, e2]
  exact fx [0, 1] gL
 rintro ⟨i, hi, ht⟩ hk
 dsimp only at hk ⊢
 by_cases hlt : i < a.turns.length
 ·have c2 : ((i : Int) < (a.turns.length : Int)) = True := by simp; omega
  obtain ⟨x, hx⟩ : ∃ x, a.turns[i]? = some x := ⟨_, List.getElem?_eq_getElem hlt⟩
  obtain ⟨y, hy⟩ : ∃ y, b.turns[i]? = some y := ⟨_, List.getElem?_eq_getElem (by omega)⟩
  have rx := ew (k := .i64) (m := .i64) hx
  have ry := ew (k := .i64) (m := .i64) hy
  have q2 := b2 (x := x) (y := y)
  by_cases hxy : x = y
  ·have c3 : decide (x = y) = true := by simpa using hxy
   refine wk [] [] (an gL (an c2 (an q2 (an c3 (an rx (an ry @Se.cells.eq_1)))))) ?_
   refine hk ⟨i + 1, by omega, eC ht hx hy hxy⟩ _ _ (by dsimp only; omega) ?_
   dsimp only [Se.cells]
   exact fx [0, 1] gL
  ·have c3 : decide (x = y) = false := by simpa using hxy
   have e : decide (a = b) = false := by
    have := gV hx hy hxy
    simp only [decide_eq_false_iff_not] at this ⊢
    exact fun h => this (by rw [h])
   rw [e]
   exact dz [] [] (an gL (an c2 (an q2 (an c3 (an rx (an ry @Se.cells.eq_1))))))
 ·have c2 : ((i : Int) < (a.turns.length : Int)) = False := by simp; omega
  have q_turns : a.turns = b.turns := by simpa using fW ht hlt hl0
  clear hk ht hlt hi
  have e6 : decide (a = b) = (decide (a.shifts = b.shifts) && decide (a.off = b.off)) := by
   rw [Bool.eq_iff_iff]; simp [Se.eq_iff, e0, e1, e2, q_turns]
  rw [e6]
  have w_shifts := sW a.shifts b.shifts (by omega) (by omega)
  have w_off := Cx a.off b.off (by omega) (by omega)
  exact dz [] [] (an gL (an c2 @Se.cells.eq_1))
theorem Ev.eq_iff {a b : Ev} : a = b ↔ (a.start = b.start ∧ a.long = b.long ∧ a.world = b.world ∧ a.again = b.again ∧ a.rule = b.rule ∧ a.ex = b.ex ∧ a.plus = b.plus ∧ a.ch = b.ch) := by
 cases a; cases b; simp only [Ev.mk.injEq]
set_option maxHeartbeats 4000000 in
theorem sT (a b : Ev) (fa : a.fits) (fb : b.fits) : aA Tryz.prog 26 [.agg a.cells, .agg b.cells] (.bool (decide (a = b))) := by
 refine bl Tryz.func26 low26 (by simp [c26]) ?_
 simp only [c26, Ev.cells]
 obtain ⟨a0, a1, a2, a3⟩ := fa
 obtain ⟨b0, b1, b2', b3'⟩ := fb
 by_cases h : ¬ (b.start = a.start ∧ b.long = a.long ∧ b.again = a.again ∧ b.world = a.world ∧ a.ch.length = b.ch.length)
 ·have e : decide (a = b) = false := by
   simp only [decide_eq_false_iff_not]
   rintro rfl
   exact h ⟨rfl, rfl, rfl, rfl, rfl⟩
  rw [e]
  exact lC [] [] gL
 obtain ⟨e0, e1, e2, e3, hl0⟩ : (b.start = a.start ∧ b.long = a.long ∧ b.again = a.again ∧ b.world = a.world ∧ a.ch.length = b.ch.length) := by simpa using h
 have cl0 : ((a.ch.length : Int) == (b.ch.length : Int)) = true := by simp [hl0]
 refine wk [] [] (an gL (an e0 (an e1 (an e2 (an e3 cl0))))) ?_
 refine av (ι := {i : Nat // i ≤ a.ch.length ∧ a.ch.take i = b.ch.take i}) (fun i => ([(2, .ptr 0 0 0 1), (3, .ptr 1 0 0 1), (43, .int .i64 a.ch.length), (44, .int .i64 i.1)], [⟨true, false, true, false, 16, [a.cells], some 0⟩, ⟨true, false, true, false, 16, [b.cells], some 0⟩])) (fun i => a.ch.length - i.1) ⟨0, by simp⟩ ?_ ?_
 ·simp only [Ev.cells, e0, e1, e2, e3]
  exact fx [0, 1] gL
 rintro ⟨i, hi, ht⟩ hk
 dsimp only at hk ⊢
 by_cases hlt : i < a.ch.length
 ·have c2 : ((i : Int) < (a.ch.length : Int)) = True := by simp; omega
  obtain ⟨x, hx⟩ : ∃ x, a.ch[i]? = some x := ⟨_, List.getElem?_eq_getElem hlt⟩
  obtain ⟨y, hy⟩ : ∃ y, b.ch[i]? = some y := ⟨_, List.getElem?_eq_getElem (by omega)⟩
  have rx := iK hx
  have ry := iK hy
  have q2 := b3 (x := x) (y := y)
  by_cases hxy : x = y
  ·have c3 : decide (x = y) = true := by simpa using hxy
   refine wk [] [] (an gL (an c2 (an q2 (an c3 (an rx (an ry @Ev.cells.eq_1)))))) ?_
   refine hk ⟨i + 1, by omega, eC ht hx hy hxy⟩ _ _ (by dsimp only; omega) ?_
   dsimp only [Ev.cells]
   exact fx [0, 1] gL
  ·have c3 : decide (x = y) = false := by simpa using hxy
   have e : decide (a = b) = false := by
    have := gV hx hy hxy
    simp only [decide_eq_false_iff_not] at this ⊢
    exact fun h => this (by rw [h])
   rw [e]
   exact dz [] [] (an gL (an c2 (an q2 (an c3 (an rx (an ry @Ev.cells.eq_1))))))
 ·have c2 : ((i : Int) < (a.ch.length : Int)) = False := by simp; omega
  have q_ch : a.ch = b.ch := by simpa using fW ht hlt hl0
  clear hk ht hlt hi
  have e6 : decide (a = b) = (decide (a.rule = b.rule) && (decide (a.ex = b.ex) && decide (a.plus = b.plus))) := by
   rw [Bool.eq_iff_iff]; simp [Ev.eq_iff, e0, e1, e2, e3, q_ch]
  rw [e6]
  have w_rule := sU a.rule b.rule a0 b0
  simp only [Ru.cells] at w_rule
  have w_ex := rr a.ex b.ex (by omega) (by omega)
  have w_plus := rr a.plus b.plus (by omega) (by omega)
  exact dz [] [] (an gL (an c2 @Ev.cells.eq_1))
theorem Qu.eq_iff {a b : Qu} : a = b ↔ (a.a = b.a ∧ a.b = b.b ∧ a.long = b.long ∧ a.grid = b.grid ∧ a.must = b.must ∧ a.may = b.may ∧ a.seats = b.seats ∧ a.apart = b.apart ∧ a.prefer = b.prefer) := by
 cases a; cases b; simp only [Qu.mk.injEq]
set_option maxHeartbeats 4000000 in
theorem ya (a b : Qu) (fa : a.fits) (fb : b.fits) : aA Tryz.prog 65 [.agg a.cells, .agg b.cells] (.bool (decide (a = b))) := by
 refine bl Tryz.func65 low65 (by simp [c65]) ?_
 simp only [c65, Qu.cells]
 obtain ⟨a1, a2, a3, a4⟩ := fa
 obtain ⟨b1, b2', b3', b4⟩ := fb
 by_cases h : ¬ (b.a = a.a ∧ b.b = a.b ∧ b.long = a.long ∧ b.grid = a.grid ∧ b.seats = a.seats ∧ a.must.length = b.must.length ∧ a.may.length = b.may.length ∧ a.apart.length = b.apart.length)
 ·have e : decide (a = b) = false := by
   simp only [decide_eq_false_iff_not]
   rintro rfl
   exact h ⟨rfl, rfl, rfl, rfl, rfl, rfl, rfl, rfl⟩
  rw [e]
  exact lC [] [] gL
 obtain ⟨e0, e1, e2, e3, e4, hl0, hl1, hl2⟩ : (b.a = a.a ∧ b.b = a.b ∧ b.long = a.long ∧ b.grid = a.grid ∧ b.seats = a.seats ∧ a.must.length = b.must.length ∧ a.may.length = b.may.length ∧ a.apart.length = b.apart.length) := by simpa using h
 have cl0 : ((a.must.length : Int) == (b.must.length : Int)) = true := by simp [hl0]
 have cl1 : ((a.may.length : Int) == (b.may.length : Int)) = true := by simp [hl1]
 have cl2 : ((a.apart.length : Int) == (b.apart.length : Int)) = true := by simp [hl2]
 refine wk [] [] (an gL (an e0 (an e1 (an e2 (an e3 (an e4 (an cl0 (an cl1 cl2)))))))) ?_
 refine av (ι := {i : Nat // i ≤ a.must.length ∧ a.must.take i = b.must.take i}) (fun i => ([(2, .ptr 0 0 0 1), (3, .ptr 1 0 0 1), (63, .int .i64 a.must.length), (64, .int .i64 i.1)], [⟨true, false, true, false, 9, [a.cells], some 0⟩, ⟨true, false, true, false, 9, [b.cells], some 0⟩])) (fun i => a.must.length - i.1) ⟨0, by simp⟩ ?_ ?_
 ·simp only [Qu.cells, e0, e1, e2, e3, e4]
  exact fx [0, 1] gL
 rintro ⟨i, hi, ht⟩ hk
 dsimp only at hk ⊢
 by_cases hlt : i < a.must.length
 ·have c2 : ((i : Int) < (a.must.length : Int)) = True := by simp; omega
  obtain ⟨x, hx⟩ : ∃ x, a.must[i]? = some x := ⟨_, List.getElem?_eq_getElem hlt⟩
  obtain ⟨y, hy⟩ : ∃ y, b.must[i]? = some y := ⟨_, List.getElem?_eq_getElem (by omega)⟩
  have rx := eE (k := .u32) hx
  have ry := eE (k := .u32) hy
  by_cases hxy : x = y
  ·have c3 : (x == y) = true := by simpa using hxy
   refine wk [] [] (an gL (an c2 (an c3 (an rx (an ry @Qu.cells.eq_1))))) ?_
   refine hk ⟨i + 1, by omega, eC ht hx hy hxy⟩ _ _ (by dsimp only; omega) ?_
   dsimp only [Qu.cells]
   exact fx [0, 1] gL
  ·have c3 : (x == y) = false := by simpa using hxy
   have e : decide (a = b) = false := by
    have := gV hx hy hxy
    simp only [decide_eq_false_iff_not] at this ⊢
    exact fun h => this (by rw [h])
   rw [e]
   exact dz [] [] (an gL (an c2 (an c3 (an rx (an ry @Qu.cells.eq_1)))))
 ·have c2 : ((i : Int) < (a.must.length : Int)) = False := by simp; omega
  have q_must : a.must = b.must := by simpa using fW ht hlt hl0
  clear hk ht hlt hi
  refine wk [] [] (an gL (an c2 @Qu.cells.eq_1)) ?_
  clear c2
  refine av (ι := {i : Nat // i ≤ a.may.length ∧ a.may.take i = b.may.take i}) (fun i => ([(2, .ptr 0 0 0 1), (3, .ptr 1 0 0 1), (81, .int .i64 a.may.length), (82, .int .i64 i.1)], [⟨true, false, true, false, 9, [a.cells], some 0⟩, ⟨true, false, true, false, 9, [b.cells], some 0⟩])) (fun i => a.may.length - i.1) ⟨0, by simp⟩ ?_ ?_
  ·dsimp only [Qu.cells]
   exact fx [0, 1] gL
  rintro ⟨i, hi, ht⟩ hk
  dsimp only at hk ⊢
  by_cases hlt : i < a.may.length
  ·have c2 : ((i : Int) < (a.may.length : Int)) = True := by simp; omega
   obtain ⟨x, hx⟩ : ∃ x, a.may[i]? = some x := ⟨_, List.getElem?_eq_getElem hlt⟩
   obtain ⟨y, hy⟩ : ∃ y, b.may[i]? = some y := ⟨_, List.getElem?_eq_getElem (by omega)⟩
   have rx := ew (k := .u32) (m := .i64) hx
   have ry := ew (k := .u32) (m := .i64) hy
   have q2 := b2 (x := x) (y := y)
   by_cases hxy : x = y
   ·have c3 : decide (x = y) = true := by simpa using hxy
    refine wk [] [] (an gL (an c2 (an q2 (an c3 (an rx (an ry @Qu.cells.eq_1)))))) ?_
    refine hk ⟨i + 1, by omega, eC ht hx hy hxy⟩ _ _ (by dsimp only; omega) ?_
    dsimp only [Qu.cells]
    exact fx [0, 1] gL
   ·have c3 : decide (x = y) = false := by simpa using hxy
    have e : decide (a = b) = false := by
     have := gV hx hy hxy
     simp only [decide_eq_false_iff_not] at this ⊢
     exact fun h => this (by rw [h])
    rw [e]
    exact dz [] [] (an gL (an c2 (an q2 (an c3 (an rx (an ry @Qu.cells.eq_1))))))
  ·have c2 : ((i : Int) < (a.may.length : Int)) = False := by simp; omega
   have q_may : a.may = b.may := by simpa using fW ht hlt hl1
   clear hk ht hlt hi
   refine wk [] [] (an gL (an c2 @Qu.cells.eq_1)) ?_
   clear c2
   refine av (ι := {i : Nat // i ≤ a.apart.length ∧ a.apart.take i = b.apart.take i}) (fun i => ([(2, .ptr 0 0 0 1), (3, .ptr 1 0 0 1), (99, .int .i64 a.apart.length), (100, .int .i64 i.1)], [⟨true, false, true, false, 9, [a.cells], some 0⟩, ⟨true, false, true, false, 9, [b.cells], some 0⟩])) (fun i => a.apart.length - i.1) ⟨0, by simp⟩ ?_ ?_
   ·dsimp only [Qu.cells]
    exact fx [0, 1] gL
   rintro ⟨i, hi, ht⟩ hk
   dsimp only at hk ⊢
   by_cases hlt : i < a.apart.length
   ·have c2 : ((i : Int) < (a.apart.length : Int)) = True := by simp; omega
    obtain ⟨x, hx⟩ : ∃ x, a.apart[i]? = some x := ⟨_, List.getElem?_eq_getElem hlt⟩
    obtain ⟨y, hy⟩ : ∃ y, b.apart[i]? = some y := ⟨_, List.getElem?_eq_getElem (by omega)⟩
    have rx := ew (k := .u32) (m := .u32) hx
    have ry := ew (k := .u32) (m := .u32) hy
    have q2 := b2 (x := x) (y := y)
    by_cases hxy : x = y
    ·have c3 : decide (x = y) = true := by simpa using hxy
     refine wk [] [] (an gL (an c2 (an q2 (an c3 (an rx (an ry @Qu.cells.eq_1)))))) ?_
     refine hk ⟨i + 1, by omega, eC ht hx hy hxy⟩ _ _ (by dsimp only; omega) ?_
     dsimp only [Qu.cells]
     exact fx [0, 1] gL
    ·have c3 : decide (x = y) = false := by simpa using hxy
     have e : decide (a = b) = false := by
      have := gV hx hy hxy
      simp only [decide_eq_false_iff_not] at this ⊢
      exact fun h => this (by rw [h])
     rw [e]
     exact dz [] [] (an gL (an c2 (an q2 (an c3 (an rx (an ry @Qu.cells.eq_1))))))
   ·have c2 : ((i : Int) < (a.apart.length : Int)) = False := by simp; omega
    have q_apart : a.apart = b.apart := by simpa using fW ht hlt hl2
    clear hk ht hlt hi
    have e6 : decide (a = b) = decide (a.prefer = b.prefer) := by
     rw [Bool.eq_iff_iff]; simp [Qu.eq_iff, e0, e1, e2, e3, e4, q_must, q_may, q_apart]
    rw [e6]
    have w_prefer := sW a.prefer b.prefer (by omega) (by omega)
    exact dz [] [] (an gL (an c2 @Qu.cells.eq_1))
end Go.Proofs.YtapennlmboabeaaGreat

namespace Go.Proofs.YtapennlmboabeaaGreat
open Go Go.Vi
theorem Po.eq_iff {a b : Po} : a = b ↔ (a.id = b.id ∧ a.owner = b.owner ∧ a.qu = b.qu ∧ a.slots = b.slots ∧ a.votes = b.votes ∧ a.til = b.til ∧ a.state = b.state ∧ a.winner = b.winner) := by
 cases a; cases b; simp only [Po.mk.injEq]
theorem gM : type_of% (an @ab (an @ac (an @ae (an @ah (an @aj (an @ak @ai)))))) := (an @ab (an @ac (an @ae (an @ah (an @aj (an @ak @ai))))))
set_option maxHeartbeats 4000000 in
theorem x9 (a b : Po) (fa : a.fits) (fb : b.fits) : aA Tryz.prog 34 [.agg a.row, .agg b.row] (.bool (decide (a = b))) := by
 refine bl Tryz.func34 low34 (by simp [c34]) ?_
 simp only [c34, Po.row]
 obtain ⟨a1, a2, a3⟩ := fa
 obtain ⟨b1, b2', b3'⟩ := fb
 have g_qu := ya a.qu b.qu a1 b1
 simp only [Qu.cells] at g_qu
 have g_slots := rr a.slots b.slots (by omega) (by omega)
 by_cases h : ¬ (b.id = a.id ∧ b.owner = a.owner ∧ b.til = a.til ∧ b.state = a.state ∧ b.winner = a.winner ∧ a.qu = b.qu ∧ a.slots = b.slots ∧ a.votes.length = b.votes.length)
 ·have e : decide (a = b) = false := by
   simp only [decide_eq_false_iff_not]
   rintro rfl
   exact h ⟨rfl, rfl, rfl, rfl, rfl, rfl, rfl, rfl⟩
  rw [e]
  exact lC [] [] gM
 obtain ⟨e0, e1, e2, e3, e4, d0, d1, hl0⟩ : (b.id = a.id ∧ b.owner = a.owner ∧ b.til = a.til ∧ b.state = a.state ∧ b.winner = a.winner ∧ a.qu = b.qu ∧ a.slots = b.slots ∧ a.votes.length = b.votes.length) := by simpa using h
 have k0 : decide (a.qu = b.qu) = true := by simpa using d0
 have k1 : decide (a.slots = b.slots) = true := by simpa using d1
 have cl0 : ((a.votes.length : Int) == (b.votes.length : Int)) = true := by simp [hl0]
 refine wk [] [] (an gM (an e0 (an e1 (an e2 (an e3 (an e4 (an k0 (an k1 cl0)))))))) ?_
 refine av (ι := {i : Nat // i ≤ a.votes.length ∧ a.votes.take i = b.votes.take i}) (fun i => ([(2, .ptr 0 0 0 1), (3, .ptr 1 0 0 1), (66, .int .i64 a.votes.length), (67, .int .i64 i.1)], [⟨true, false, true, false, 16, [a.row], some 0⟩, ⟨true, false, true, false, 16, [b.row], some 0⟩])) (fun i => a.votes.length - i.1) ⟨0, by simp⟩ ?_ ?_
 ·simp only [Po.row, e0, e1, e2, e3, e4]
  exact fx [0, 1] gM
 rintro ⟨i, hi, ht⟩ hk
 dsimp only at hk ⊢
 by_cases hlt : i < a.votes.length
 ·have c2 : ((i : Int) < (a.votes.length : Int)) = True := by simp; omega
  obtain ⟨x, hx⟩ : ∃ x, a.votes[i]? = some x := ⟨_, List.getElem?_eq_getElem hlt⟩
  obtain ⟨y, hy⟩ : ∃ y, b.votes[i]? = some y := ⟨_, List.getElem?_eq_getElem (by omega)⟩
  have rx := ew (k := .u32) (m := .i64) hx
  have ry := ew (k := .u32) (m := .i64) hy
  have q2 := b2 (x := x) (y := y)
  by_cases hxy : x = y
  ·have c3 : decide (x = y) = true := by simpa using hxy
   refine wk [] [] (an gM (an c2 (an q2 (an c3 (an rx (an ry @Po.row.eq_1)))))) ?_
   refine hk ⟨i + 1, by omega, eC ht hx hy hxy⟩ _ _ (by dsimp only; omega) ?_
   dsimp only [Po.row]
   exact fx [0, 1] gM
  ·have c3 : decide (x = y) = false := by simpa using hxy
   have e : decide (a = b) = false := by
    have := gV hx hy hxy
    simp only [decide_eq_false_iff_not] at this ⊢
    exact fun h => this (by rw [h])
   rw [e]
   exact dz [] [] (an gM (an c2 (an q2 (an c3 (an rx (an ry @Po.row.eq_1))))))
 ·have c2 : ((i : Int) < (a.votes.length : Int)) = False := by simp; omega
  have q_votes : a.votes = b.votes := by simpa using fW ht hlt hl0
  clear hk ht hlt hi
  have e6 : decide (a = b) = true := by
   rw [Bool.eq_iff_iff]; simp [Po.eq_iff, e0, e1, e2, e3, e4, d0, d1, q_votes]
  rw [e6]
  exact dz [] [] (an gM (an c2 @Po.row.eq_1))
theorem En.eq_iff {a b : En} : a = b ↔ (a.id = b.id ∧ a.ev = b.ev) := by
 cases a; cases b; simp only [En.mk.injEq]
theorem Us.eq_iff {a b : Us} : a = b ↔ (a.id = b.id ∧ a.se = b.se ∧ a.ver = b.ver ∧ a.evs = b.evs) := by
 cases a; cases b; simp only [Us.mk.injEq]
set_option maxHeartbeats 4000000 in
theorem yc (a b : Us) (fa : a.fit) (fb : b.fit) : aA Tryz.prog 18 [.agg a.row, .agg b.row] (.bool (decide (a = b))) := by
 refine bl Tryz.func18 low18 (by simp [c18]) ?_
 simp only [c18, Us.row]
 obtain ⟨a1, a2, a3⟩ := fa
 obtain ⟨b1, b2', b3'⟩ := fb
 have g_se := yb a.se b.se a1 b1
 simp only [Se.cells] at g_se
 by_cases h : ¬ (b.id = a.id ∧ b.ver = a.ver ∧ a.se = b.se ∧ a.evs.length = b.evs.length)
 ·have e : decide (a = b) = false := by
   simp only [decide_eq_false_iff_not]
   rintro rfl
   exact h ⟨rfl, rfl, rfl, rfl⟩
  rw [e]
  exact lC [] [] gM
 obtain ⟨e0, e1, d0, hl0⟩ : (b.id = a.id ∧ b.ver = a.ver ∧ a.se = b.se ∧ a.evs.length = b.evs.length) := by simpa using h
 have k0 : decide (a.se = b.se) = true := by simpa using d0
 have cl0 : ((a.evs.length : Int) == (b.evs.length : Int)) = true := by simp [hl0]
 refine wk [] [] (an gM (an e0 (an e1 (an k0 cl0)))) ?_
 refine av (ι := {i : Nat // i ≤ a.evs.length ∧ a.evs.take i = b.evs.take i}) (fun i => ([(2, .ptr 0 0 0 1), (3, .ptr 1 0 0 1), (37, .int .i64 a.evs.length), (38, .int .i64 i.1)], [⟨true, false, true, false, 9, [a.row], some 0⟩, ⟨true, false, true, false, 9, [b.row], some 0⟩])) (fun i => a.evs.length - i.1) ⟨0, by simp⟩ ?_ ?_
 ·simp only [Us.row, e0, e1]
  exact fx [0, 1] gM
 rintro ⟨i, hi, ht⟩ hk
 dsimp only at hk ⊢
 by_cases hlt : i < a.evs.length
 ·have c2 : ((i : Int) < (a.evs.length : Int)) = True := by simp; omega
  obtain ⟨x, hx⟩ : ∃ x, a.evs[i]? = some x := ⟨_, List.getElem?_eq_getElem hlt⟩
  obtain ⟨y, hy⟩ : ∃ y, b.evs[i]? = some y := ⟨_, List.getElem?_eq_getElem (by omega)⟩
  have rx := gK hx
  have ry := gK hy
  have q2 := sT x.ev y.ev (a3 _ (List.mem_of_getElem? hx)) (b3' _ (List.mem_of_getElem? hy))
  simp only [Ev.cells] at q2
  by_cases hxy : x = y
  ·obtain ⟨c3a, c3b⟩ := En.eq_iff.1 hxy
   have c3 : (x.id == y.id) = true := by simpa using c3a
   have c4 : decide (x.ev = y.ev) = true := by simpa using c3b
   refine wk [] [] (an gM (an c2 (an c3 (an rx (an ry (an @Us.row.eq_1 (an c4 @En.row.eq_1))))))) ?_
   refine hk ⟨i + 1, by omega, eC ht hx hy hxy⟩ _ _ (by dsimp only; omega) ?_
   dsimp only [Us.row]
   exact fx [0, 1] gM
  ·have c3 : ¬ (x.id = y.id ∧ x.ev = y.ev) := fun h => hxy (En.eq_iff.2 h)
   have e : decide (a = b) = false := by
    have := gV hx hy hxy
    simp only [decide_eq_false_iff_not] at this ⊢
    exact fun h => this (by rw [h])
   rw [e]
   exact lC [] [] (an gM (an c2 (an rx (an ry (an @Us.row.eq_1 @En.row.eq_1)))))
 ·have c2 : ((i : Int) < (a.evs.length : Int)) = False := by simp; omega
  have q_evs : a.evs = b.evs := by simpa using fW ht hlt hl0
  clear hk ht hlt hi
  have e6 : decide (a = b) = true := by
   rw [Bool.eq_iff_iff]; simp [Us.eq_iff, e0, e1, d0, q_evs]
  rw [e6]
  exact dz [] [] (an gM (an c2 @Us.row.eq_1))
theorem iQ.eq_iff {a b : iQ} : a = b ↔ (a.t = b.t ∧ a.us = b.us ∧ a.ps = b.ps ∧ a.ds = b.ds) := by
 cases a; cases b; simp only [iQ.mk.injEq]
set_option maxHeartbeats 4000000 in
theorem pI (a b : iQ) (fa : a.fits) (fb : b.fits) : aA Tryz.prog 11 [.agg a.cells, .agg b.cells] (.bool (decide (a = b))) := by
 refine bl Tryz.func11 low11 (by simp [c11]) ?_
 simp only [c11, iQ.cells]
 obtain ⟨a1, a2, a3, a4, a5⟩ := fa
 obtain ⟨b1, b2', b3', b4, b5⟩ := fb
 by_cases h : ¬ (b.t = a.t ∧ a.us.length = b.us.length ∧ a.ps.length = b.ps.length ∧ a.ds.length = b.ds.length)
 ·have e : decide (a = b) = false := by
   simp only [decide_eq_false_iff_not]
   rintro rfl
   exact h ⟨rfl, rfl, rfl, rfl⟩
  rw [e]
  exact lC [] [] gM
 obtain ⟨e0, hl0, hl1, hl2⟩ : (b.t = a.t ∧ a.us.length = b.us.length ∧ a.ps.length = b.ps.length ∧ a.ds.length = b.ds.length) := by simpa using h
 have cl0 : ((a.us.length : Int) == (b.us.length : Int)) = true := by simp [hl0]
 have cl1 : ((a.ps.length : Int) == (b.ps.length : Int)) = true := by simp [hl1]
 have cl2 : ((a.ds.length : Int) == (b.ds.length : Int)) = true := by simp [hl2]
 refine wk [] [] (an gM (an e0 (an cl0 (an cl1 cl2)))) ?_
 refine av (ι := {i : Nat // i ≤ a.us.length ∧ a.us.take i = b.us.take i}) (fun i => ([(2, .ptr 0 0 0 1), (3, .ptr 1 0 0 1), (42, .int .i64 a.us.length), (43, .int .i64 i.1)], [⟨true, false, true, false, 4, [a.cells], some 0⟩, ⟨true, false, true, false, 4, [b.cells], some 0⟩])) (fun i => a.us.length - i.1) ⟨0, by simp⟩ ?_ ?_
 ·simp only [iQ.cells, e0]
  exact fx [0, 1] gM
 rintro ⟨i, hi, ht⟩ hk
 dsimp only at hk ⊢
 by_cases hlt : i < a.us.length
 ·have c2 : ((i : Int) < (a.us.length : Int)) = True := by simp; omega
  obtain ⟨x, hx⟩ : ∃ x, a.us[i]? = some x := ⟨_, List.getElem?_eq_getElem hlt⟩
  obtain ⟨y, hy⟩ : ∃ y, b.us[i]? = some y := ⟨_, List.getElem?_eq_getElem (by omega)⟩
  have rx := fY hx
  have ry := fY hy
  have q2 := yc x y (a4 _ (List.mem_of_getElem? hx)) (b4 _ (List.mem_of_getElem? hy))
  simp only [Us.row] at q2
  by_cases hxy : x = y
  ·have c3 : decide (x = y) = true := by simpa using hxy
   refine wk [] [] (an gM (an c2 (an c3 (an rx (an ry (an @iQ.cells.eq_1 @Us.row.eq_1)))))) ?_
   refine hk ⟨i + 1, by omega, eC ht hx hy hxy⟩ _ _ (by dsimp only; omega) ?_
   dsimp only [iQ.cells]
   exact fx [0, 1] gM
  ·have c3 : decide (x = y) = false := by simpa using hxy
   have e : decide (a = b) = false := by
    have := gV hx hy hxy
    simp only [decide_eq_false_iff_not] at this ⊢
    exact fun h => this (by rw [h])
   rw [e]
   exact dz [] [] (an gM (an c2 (an c3 (an rx (an ry (an @iQ.cells.eq_1 @Us.row.eq_1))))))
 ·have c2 : ((i : Int) < (a.us.length : Int)) = False := by simp; omega
  have q_us : a.us = b.us := by simpa using fW ht hlt hl0
  clear hk ht hlt hi
  refine wk [] [] (an gM (an c2 @iQ.cells.eq_1)) ?_
  clear c2
  refine av (ι := {i : Nat // i ≤ a.ps.length ∧ a.ps.take i = b.ps.take i}) (fun i => ([(2, .ptr 0 0 0 1), (3, .ptr 1 0 0 1), (61, .int .i64 a.ps.length), (62, .int .i64 i.1)], [⟨true, false, true, false, 4, [a.cells], some 0⟩, ⟨true, false, true, false, 4, [b.cells], some 0⟩])) (fun i => a.ps.length - i.1) ⟨0, by simp⟩ ?_ ?_
  ·dsimp only [iQ.cells]
   exact fx [0, 1] gM
  rintro ⟨i, hi, ht⟩ hk
  dsimp only at hk ⊢
  by_cases hlt : i < a.ps.length
  ·have c2 : ((i : Int) < (a.ps.length : Int)) = True := by simp; omega
   obtain ⟨x, hx⟩ : ∃ x, a.ps[i]? = some x := ⟨_, List.getElem?_eq_getElem hlt⟩
   obtain ⟨y, hy⟩ : ∃ y, b.ps[i]? = some y := ⟨_, List.getElem?_eq_getElem (by omega)⟩
   have rx := nG hx
   have ry := nG hy
   have q2 := x9 x y (a5 _ (List.mem_of_getElem? hx)) (b5 _ (List.mem_of_getElem? hy))
   simp only [Po.row] at q2
   by_cases hxy : x = y
   ·have c3 : decide (x = y) = true := by simpa using hxy
    refine wk [] [] (an gM (an c2 (an c3 (an rx (an ry (an @iQ.cells.eq_1 @Po.row.eq_1)))))) ?_
    refine hk ⟨i + 1, by omega, eC ht hx hy hxy⟩ _ _ (by dsimp only; omega) ?_
    dsimp only [iQ.cells]
    exact fx [0, 1] gM
   ·have c3 : decide (x = y) = false := by simpa using hxy
    have e : decide (a = b) = false := by
     have := gV hx hy hxy
     simp only [decide_eq_false_iff_not] at this ⊢
     exact fun h => this (by rw [h])
    rw [e]
    exact dz [] [] (an gM (an c2 (an c3 (an rx (an ry (an @iQ.cells.eq_1 @Po.row.eq_1))))))
  ·have c2 : ((i : Int) < (a.ps.length : Int)) = False := by simp; omega
   have q_ps : a.ps = b.ps := by simpa using fW ht hlt hl1
   clear hk ht hlt hi
   refine wk [] [] (an gM (an c2 @iQ.cells.eq_1)) ?_
   clear c2
   refine av (ι := {i : Nat // i ≤ a.ds.length ∧ a.ds.take i = b.ds.take i}) (fun i => ([(2, .ptr 0 0 0 1), (3, .ptr 1 0 0 1), (80, .int .i64 a.ds.length), (81, .int .i64 i.1)], [⟨true, false, true, false, 4, [a.cells], some 0⟩, ⟨true, false, true, false, 4, [b.cells], some 0⟩])) (fun i => a.ds.length - i.1) ⟨0, by simp⟩ ?_ ?_
   ·dsimp only [iQ.cells]
    exact fx [0, 1] gM
   rintro ⟨i, hi, ht⟩ hk
   dsimp only at hk ⊢
   by_cases hlt : i < a.ds.length
   ·have c2 : ((i : Int) < (a.ds.length : Int)) = True := by simp; omega
    obtain ⟨x, hx⟩ : ∃ x, a.ds[i]? = some x := ⟨_, List.getElem?_eq_getElem hlt⟩
    obtain ⟨y, hy⟩ : ∃ y, b.ds[i]? = some y := ⟨_, List.getElem?_eq_getElem (by omega)⟩
    have rx := pE hx
    have ry := pE hy
    have q2 := bD (x := x) (y := y)
    by_cases hxy : x = y
    ·have c3 : decide (x = y) = true := by simpa using hxy
     refine wk [] [] (an gM (an c2 (an q2 (an c3 (an rx (an ry @iQ.cells.eq_1)))))) ?_
     refine hk ⟨i + 1, by omega, eC ht hx hy hxy⟩ _ _ (by dsimp only; omega) ?_
     dsimp only [iQ.cells]
     exact fx [0, 1] gM
    ·have c3 : decide (x = y) = false := by simpa using hxy
     have e : decide (a = b) = false := by
      have := gV hx hy hxy
      simp only [decide_eq_false_iff_not] at this ⊢
      exact fun h => this (by rw [h])
     rw [e]
     exact dz [] [] (an gM (an c2 (an q2 (an c3 (an rx (an ry @iQ.cells.eq_1))))))
   ·have c2 : ((i : Int) < (a.ds.length : Int)) = False := by simp; omega
    have q_ds : a.ds = b.ds := by simpa using fW ht hlt hl2
    clear hk ht hlt hi
    have e6 : decide (a = b) = true := by
     rw [Bool.eq_iff_iff]; simp [iQ.eq_iff, e0, q_us, q_ps, q_ds]
    rw [e6]
    exact dz [] [] (an gM (an c2 @iQ.cells.eq_1))
end Go.Proofs.YtapennlmboabeaaGreat

namespace Go.Proofs.YtapennlmboabeaaGreat
open Go Go.Vi
theorem cq : type_of% (an @ab (an @ac (an @ae (an @ah (an @aj (an @ak @ai)))))) := (an @ab (an @ac (an @ae (an @ah (an @aj (an @ak @ai))))))
theorem oz (a b : List Int) (ha : a.length ≤ 140737488351232) (hb : b.length ≤ 140737488351232) : aA Tryz.prog 112 [L (ar .i64 a), L (ar .i64 b)] (.bool (decide (a = b))) := by
 refine bl Tryz.func112 low112 (by simp [c112]) ?_
 simp only [c112]
 by_cases hl : ¬ a.length = b.length
 ·have c1 := kT hl
  rw [iz hl]
  exact dz [] [] (an cq c1)
 have hl : a.length = b.length := by omega
 have c1 : ((a.length : Int) == (b.length : Int)) = true := by simp [hl]
 refine wk [] [] (an cq c1) ?_
 refine av (ι := {i : Nat // i ≤ a.length ∧ a.take i = b.take i}) (fun i => ([(0, L (ar .i64 a)), (1, L (ar .i64 b)), (12, .int .i64 a.length), (13, .int .i64 i.1)], [])) (fun i => a.length - i.1) ⟨0, by simp⟩ ?_ ?_
 ·exact fx [] cq
 rintro ⟨i, hi, ht⟩ hk
 dsimp only at hk ⊢
 by_cases hlt : i < a.length
 ·have c2 : ((i : Int) < (a.length : Int)) = True := by simp; omega
  obtain ⟨x, hx⟩ : ∃ x, a[i]? = some x := ⟨_, List.getElem?_eq_getElem hlt⟩
  obtain ⟨y, hy⟩ : ∃ y, b[i]? = some y := ⟨_, List.getElem?_eq_getElem (by omega)⟩
  have rx := eE (k := .i64) hx
  have ry := eE (k := .i64) hy
  by_cases hxy : x = y
  ·have c3 : (x == y) = true := by simpa using hxy
   refine wk [] [] (an cq (an c2 (an c3 (an rx ry)))) ?_
   refine hk ⟨i + 1, by omega, eC ht hx hy hxy⟩ _ _ (by dsimp only; omega) ?_
   dsimp only
   exact fx [] cq
  ·have c3 : (x == y) = false := by simpa using hxy
   rw [gV hx hy hxy]
   exact dz [] [] (an cq (an c2 (an c3 (an rx ry))))
 ·have c2 : ((i : Int) < (a.length : Int)) = False := by simp; omega
  rw [fW ht hlt hl]
  exact dz [] [] (an cq c2)
theorem rk (a b : List Int) (ha : a.length ≤ 140737488351232) (hb : b.length ≤ 140737488351232) : aA Tryz.prog 136 [L (ar .i64 a), L (ar .i64 b)] (.bool (decide (a = b))) := by
 refine bl Tryz.func136 low136 (by simp [c136]) ?_
 simp only [c136]
 by_cases hl : ¬ a.length = b.length
 ·have c1 := kT hl
  rw [iz hl]
  exact dz [] [] (an cq c1)
 have hl : a.length = b.length := by omega
 have c1 : ((a.length : Int) == (b.length : Int)) = true := by simp [hl]
 refine wk [] [] (an cq c1) ?_
 refine av (ι := {i : Nat // i ≤ a.length ∧ a.take i = b.take i}) (fun i => ([(0, L (ar .i64 a)), (1, L (ar .i64 b)), (12, .int .i64 a.length), (13, .int .i64 i.1)], [])) (fun i => a.length - i.1) ⟨0, by simp⟩ ?_ ?_
 ·exact fx [] cq
 rintro ⟨i, hi, ht⟩ hk
 dsimp only at hk ⊢
 by_cases hlt : i < a.length
 ·have c2 : ((i : Int) < (a.length : Int)) = True := by simp; omega
  obtain ⟨x, hx⟩ : ∃ x, a[i]? = some x := ⟨_, List.getElem?_eq_getElem hlt⟩
  obtain ⟨y, hy⟩ : ∃ y, b[i]? = some y := ⟨_, List.getElem?_eq_getElem (by omega)⟩
  have rx := eE (k := .i64) hx
  have ry := eE (k := .i64) hy
  by_cases hxy : x = y
  ·have c3 : (x == y) = true := by simpa using hxy
   refine wk [] [] (an cq (an c2 (an c3 (an rx ry)))) ?_
   refine hk ⟨i + 1, by omega, eC ht hx hy hxy⟩ _ _ (by dsimp only; omega) ?_
   dsimp only
   exact fx [] cq
  ·have c3 : (x == y) = false := by simpa using hxy
   rw [gV hx hy hxy]
   exact dz [] [] (an cq (an c2 (an c3 (an rx ry))))
 ·have c2 : ((i : Int) < (a.length : Int)) = False := by simp; omega
  rw [fW ht hlt hl]
  exact dz [] [] (an cq c2)
theorem yU (a b : List Int) (ha : a.length ≤ 140737488351232) (hb : b.length ≤ 140737488351232) : aA Tryz.prog 166 [L (ar .u32 a), L (ar .u32 b)] (.bool (decide (a = b))) := by
 refine bl Tryz.func166 low166 (by simp [c166]) ?_
 simp only [c166]
 by_cases hl : ¬ a.length = b.length
 ·have c1 := kT hl
  rw [iz hl]
  exact dz [] [] (an cq c1)
 have hl : a.length = b.length := by omega
 have c1 : ((a.length : Int) == (b.length : Int)) = true := by simp [hl]
 refine wk [] [] (an cq c1) ?_
 refine av (ι := {i : Nat // i ≤ a.length ∧ a.take i = b.take i}) (fun i => ([(0, L (ar .u32 a)), (1, L (ar .u32 b)), (12, .int .i64 a.length), (13, .int .i64 i.1)], [])) (fun i => a.length - i.1) ⟨0, by simp⟩ ?_ ?_
 ·exact fx [] cq
 rintro ⟨i, hi, ht⟩ hk
 dsimp only at hk ⊢
 by_cases hlt : i < a.length
 ·have c2 : ((i : Int) < (a.length : Int)) = True := by simp; omega
  obtain ⟨x, hx⟩ : ∃ x, a[i]? = some x := ⟨_, List.getElem?_eq_getElem hlt⟩
  obtain ⟨y, hy⟩ : ∃ y, b[i]? = some y := ⟨_, List.getElem?_eq_getElem (by omega)⟩
  have rx := eE (k := .u32) hx
  have ry := eE (k := .u32) hy
  by_cases hxy : x = y
  ·have c3 : (x == y) = true := by simpa using hxy
   refine wk [] [] (an cq (an c2 (an c3 (an rx ry)))) ?_
   refine hk ⟨i + 1, by omega, eC ht hx hy hxy⟩ _ _ (by dsimp only; omega) ?_
   dsimp only
   exact fx [] cq
  ·have c3 : (x == y) = false := by simpa using hxy
   rw [gV hx hy hxy]
   exact dz [] [] (an cq (an c2 (an c3 (an rx ry))))
 ·have c2 : ((i : Int) < (a.length : Int)) = False := by simp; omega
  rw [fW ht hlt hl]
  exact dz [] [] (an cq c2)
theorem yT (a b : List (Int × Int)) (ha : a.length ≤ 140737488351232) (hb : b.length ≤ 140737488351232) : aA Tryz.prog 113 [L (bz .i64 .i64 a), L (bz .i64 .i64 b)] (.bool (decide (a = b))) := by
 refine bl Tryz.func113 low113 (by simp [c113]) ?_
 simp only [c113]
 by_cases hl : ¬ a.length = b.length
 ·have c1 := kT hl
  rw [iz hl]
  exact dz [] [] (an cq c1)
 have hl : a.length = b.length := by omega
 have c1 : ((a.length : Int) == (b.length : Int)) = true := by simp [hl]
 refine wk [] [] (an cq c1) ?_
 refine av (ι := {i : Nat // i ≤ a.length ∧ a.take i = b.take i}) (fun i => ([(0, L (bz .i64 .i64 a)), (1, L (bz .i64 .i64 b)), (12, .int .i64 a.length), (13, .int .i64 i.1)], [])) (fun i => a.length - i.1) ⟨0, by simp⟩ ?_ ?_
 ·exact fx [] cq
 rintro ⟨i, hi, ht⟩ hk
 dsimp only at hk ⊢
 by_cases hlt : i < a.length
 ·have c2 : ((i : Int) < (a.length : Int)) = True := by simp; omega
  obtain ⟨x, hx⟩ : ∃ x, a[i]? = some x := ⟨_, List.getElem?_eq_getElem hlt⟩
  obtain ⟨y, hy⟩ : ∃ y, b[i]? = some y := ⟨_, List.getElem?_eq_getElem (by omega)⟩
  have rx := ew (k := .i64) (m := .i64) hx
  have ry := ew (k := .i64) (m := .i64) hy
  by_cases hxy : x = y
  ·have c3 : ((x.1 == y.1) && (x.2 == y.2)) = true := by rw [b2]; simpa using hxy
   refine wk [] [] (an cq (an c2 (an c3 (an rx ry)))) ?_
   refine hk ⟨i + 1, by omega, eC ht hx hy hxy⟩ _ _ (by dsimp only; omega) ?_
   dsimp only
   exact fx [] cq
  ·have c3 : ((x.1 == y.1) && (x.2 == y.2)) = false := by rw [b2]; simpa using hxy
   rw [gV hx hy hxy]
   exact dz [] [] (an cq (an c2 (an c3 (an rx ry))))
 ·have c2 : ((i : Int) < (a.length : Int)) = False := by simp; omega
  rw [fW ht hlt hl]
  exact dz [] [] (an cq c2)
theorem w0 (a b : List (Int × Int)) (ha : a.length ≤ 140737488351232) (hb : b.length ≤ 140737488351232) : aA Tryz.prog 138 [L (bz .i64 .i64 a), L (bz .i64 .i64 b)] (.bool (decide (a = b))) := by
 refine bl Tryz.func138 low138 (by simp [c138]) ?_
 simp only [c138]
 by_cases hl : ¬ a.length = b.length
 ·have c1 := kT hl
  rw [iz hl]
  exact dz [] [] (an cq c1)
 have hl : a.length = b.length := by omega
 have c1 : ((a.length : Int) == (b.length : Int)) = true := by simp [hl]
 refine wk [] [] (an cq c1) ?_
 refine av (ι := {i : Nat // i ≤ a.length ∧ a.take i = b.take i}) (fun i => ([(0, L (bz .i64 .i64 a)), (1, L (bz .i64 .i64 b)), (12, .int .i64 a.length), (13, .int .i64 i.1)], [])) (fun i => a.length - i.1) ⟨0, by simp⟩ ?_ ?_
 ·exact fx [] cq
 rintro ⟨i, hi, ht⟩ hk
 dsimp only at hk ⊢
 by_cases hlt : i < a.length
 ·have c2 : ((i : Int) < (a.length : Int)) = True := by simp; omega
  obtain ⟨x, hx⟩ : ∃ x, a[i]? = some x := ⟨_, List.getElem?_eq_getElem hlt⟩
  obtain ⟨y, hy⟩ : ∃ y, b[i]? = some y := ⟨_, List.getElem?_eq_getElem (by omega)⟩
  have rx := ew (k := .i64) (m := .i64) hx
  have ry := ew (k := .i64) (m := .i64) hy
  by_cases hxy : x = y
  ·have c3 : ((x.1 == y.1) && (x.2 == y.2)) = true := by rw [b2]; simpa using hxy
   refine wk [] [] (an cq (an c2 (an c3 (an rx ry)))) ?_
   refine hk ⟨i + 1, by omega, eC ht hx hy hxy⟩ _ _ (by dsimp only; omega) ?_
   dsimp only
   exact fx [] cq
  ·have c3 : ((x.1 == y.1) && (x.2 == y.2)) = false := by rw [b2]; simpa using hxy
   rw [gV hx hy hxy]
   exact dz [] [] (an cq (an c2 (an c3 (an rx ry))))
 ·have c2 : ((i : Int) < (a.length : Int)) = False := by simp; omega
  rw [fW ht hlt hl]
  exact dz [] [] (an cq c2)
theorem xa (a b : List (Int × Int)) (ha : a.length ≤ 140737488351232) (hb : b.length ≤ 140737488351232) : aA Tryz.prog 167 [L (bz .u32 .i64 a), L (bz .u32 .i64 b)] (.bool (decide (a = b))) := by
 refine bl Tryz.func167 low167 (by simp [c167]) ?_
 simp only [c167]
 by_cases hl : ¬ a.length = b.length
 ·have c1 := kT hl
  rw [iz hl]
  exact dz [] [] (an cq c1)
 have hl : a.length = b.length := by omega
 have c1 : ((a.length : Int) == (b.length : Int)) = true := by simp [hl]
 refine wk [] [] (an cq c1) ?_
 refine av (ι := {i : Nat // i ≤ a.length ∧ a.take i = b.take i}) (fun i => ([(0, L (bz .u32 .i64 a)), (1, L (bz .u32 .i64 b)), (12, .int .i64 a.length), (13, .int .i64 i.1)], [])) (fun i => a.length - i.1) ⟨0, by simp⟩ ?_ ?_
 ·exact fx [] cq
 rintro ⟨i, hi, ht⟩ hk
 dsimp only at hk ⊢
 by_cases hlt : i < a.length
 ·have c2 : ((i : Int) < (a.length : Int)) = True := by simp; omega
  obtain ⟨x, hx⟩ : ∃ x, a[i]? = some x := ⟨_, List.getElem?_eq_getElem hlt⟩
  obtain ⟨y, hy⟩ : ∃ y, b[i]? = some y := ⟨_, List.getElem?_eq_getElem (by omega)⟩
  have rx := ew (k := .u32) (m := .i64) hx
  have ry := ew (k := .u32) (m := .i64) hy
  by_cases hxy : x = y
  ·have c3 : ((x.1 == y.1) && (x.2 == y.2)) = true := by rw [b2]; simpa using hxy
   refine wk [] [] (an cq (an c2 (an c3 (an rx ry)))) ?_
   refine hk ⟨i + 1, by omega, eC ht hx hy hxy⟩ _ _ (by dsimp only; omega) ?_
   dsimp only
   exact fx [] cq
  ·have c3 : ((x.1 == y.1) && (x.2 == y.2)) = false := by rw [b2]; simpa using hxy
   rw [gV hx hy hxy]
   exact dz [] [] (an cq (an c2 (an c3 (an rx ry))))
 ·have c2 : ((i : Int) < (a.length : Int)) = False := by simp; omega
  rw [fW ht hlt hl]
  exact dz [] [] (an cq c2)
theorem wZ (a b : List (Int × Int)) (ha : a.length ≤ 140737488351232) (hb : b.length ≤ 140737488351232) : aA Tryz.prog 168 [L (bz .u32 .u32 a), L (bz .u32 .u32 b)] (.bool (decide (a = b))) := by
 refine bl Tryz.func168 low168 (by simp [c168]) ?_
 simp only [c168]
 by_cases hl : ¬ a.length = b.length
 ·have c1 := kT hl
  rw [iz hl]
  exact dz [] [] (an cq c1)
 have hl : a.length = b.length := by omega
 have c1 : ((a.length : Int) == (b.length : Int)) = true := by simp [hl]
 refine wk [] [] (an cq c1) ?_
 refine av (ι := {i : Nat // i ≤ a.length ∧ a.take i = b.take i}) (fun i => ([(0, L (bz .u32 .u32 a)), (1, L (bz .u32 .u32 b)), (12, .int .i64 a.length), (13, .int .i64 i.1)], [])) (fun i => a.length - i.1) ⟨0, by simp⟩ ?_ ?_
 ·exact fx [] cq
 rintro ⟨i, hi, ht⟩ hk
 dsimp only at hk ⊢
 by_cases hlt : i < a.length
 ·have c2 : ((i : Int) < (a.length : Int)) = True := by simp; omega
  obtain ⟨x, hx⟩ : ∃ x, a[i]? = some x := ⟨_, List.getElem?_eq_getElem hlt⟩
  obtain ⟨y, hy⟩ : ∃ y, b[i]? = some y := ⟨_, List.getElem?_eq_getElem (by omega)⟩
  have rx := ew (k := .u32) (m := .u32) hx
  have ry := ew (k := .u32) (m := .u32) hy
  by_cases hxy : x = y
  ·have c3 : ((x.1 == y.1) && (x.2 == y.2)) = true := by rw [b2]; simpa using hxy
   refine wk [] [] (an cq (an c2 (an c3 (an rx ry)))) ?_
   refine hk ⟨i + 1, by omega, eC ht hx hy hxy⟩ _ _ (by dsimp only; omega) ?_
   dsimp only
   exact fx [] cq
  ·have c3 : ((x.1 == y.1) && (x.2 == y.2)) = false := by rw [b2]; simpa using hxy
   rw [gV hx hy hxy]
   exact dz [] [] (an cq (an c2 (an c3 (an rx ry))))
 ·have c2 : ((i : Int) < (a.length : Int)) = False := by simp; omega
  rw [fW ht hlt hl]
  exact dz [] [] (an cq c2)
theorem w9 (a b : List (Int × Int)) (ha : a.length ≤ 140737488351232) (hb : b.length ≤ 140737488351232) : aA Tryz.prog 137 [L (bz .u32 .i64 a), L (bz .u32 .i64 b)] (.bool (decide (a = b))) := by
 refine bl Tryz.func137 low137 (by simp [c137]) ?_
 simp only [c137]
 by_cases hl : ¬ a.length = b.length
 ·have c1 := kT hl
  rw [iz hl]
  exact dz [] [] (an cq c1)
 have hl : a.length = b.length := by omega
 have c1 : ((a.length : Int) == (b.length : Int)) = true := by simp [hl]
 refine wk [] [] (an cq c1) ?_
 refine av (ι := {i : Nat // i ≤ a.length ∧ a.take i = b.take i}) (fun i => ([(0, L (bz .u32 .i64 a)), (1, L (bz .u32 .i64 b)), (12, .int .i64 a.length), (13, .int .i64 i.1)], [])) (fun i => a.length - i.1) ⟨0, by simp⟩ ?_ ?_
 ·exact fx [] cq
 rintro ⟨i, hi, ht⟩ hk
 dsimp only at hk ⊢
 by_cases hlt : i < a.length
 ·have c2 : ((i : Int) < (a.length : Int)) = True := by simp; omega
  obtain ⟨x, hx⟩ : ∃ x, a[i]? = some x := ⟨_, List.getElem?_eq_getElem hlt⟩
  obtain ⟨y, hy⟩ : ∃ y, b[i]? = some y := ⟨_, List.getElem?_eq_getElem (by omega)⟩
  have rx := ew (k := .u32) (m := .i64) hx
  have ry := ew (k := .u32) (m := .i64) hy
  by_cases hxy : x = y
  ·have c3 : ((x.1 == y.1) && (x.2 == y.2)) = true := by rw [b2]; simpa using hxy
   refine wk [] [] (an cq (an c2 (an c3 (an rx ry)))) ?_
   refine hk ⟨i + 1, by omega, eC ht hx hy hxy⟩ _ _ (by dsimp only; omega) ?_
   dsimp only
   exact fx [] cq
  ·have c3 : ((x.1 == y.1) && (x.2 == y.2)) = false := by rw [b2]; simpa using hxy
   rw [gV hx hy hxy]
   exact dz [] [] (an cq (an c2 (an c3 (an rx ry))))
 ·have c2 : ((i : Int) < (a.length : Int)) = False := by simp; omega
  rw [fW ht hlt hl]
  exact dz [] [] (an cq c2)
theorem qh (a b : List (Int × Int × Int)) (ha : a.length ≤ 140737488351232) (hb : b.length ≤ 140737488351232) : aA Tryz.prog 139 [L (ed a), L (ed b)] (.bool (decide (a = b))) := by
 refine bl Tryz.func139 low139 (by simp [c139]) ?_
 simp only [c139]
 by_cases hl : ¬ a.length = b.length
 ·have c1 := kT hl
  rw [iz hl]
  exact dz [] [] (an cq c1)
 have hl : a.length = b.length := by omega
 have c1 : ((a.length : Int) == (b.length : Int)) = true := by simp [hl]
 refine wk [] [] (an cq c1) ?_
 refine av (ι := {i : Nat // i ≤ a.length ∧ a.take i = b.take i}) (fun i => ([(0, L (ed a)), (1, L (ed b)), (12, .int .i64 a.length), (13, .int .i64 i.1)], [])) (fun i => a.length - i.1) ⟨0, by simp⟩ ?_ ?_
 ·exact fx [] cq
 rintro ⟨i, hi, ht⟩ hk
 dsimp only at hk ⊢
 by_cases hlt : i < a.length
 ·have c2 : ((i : Int) < (a.length : Int)) = True := by simp; omega
  obtain ⟨x, hx⟩ : ∃ x, a[i]? = some x := ⟨_, List.getElem?_eq_getElem hlt⟩
  obtain ⟨y, hy⟩ : ∃ y, b[i]? = some y := ⟨_, List.getElem?_eq_getElem (by omega)⟩
  have rx := iK hx
  have ry := iK hy
  by_cases hxy : x = y
  ·have c3 : ((x.1 == y.1) && ((x.2.1 == y.2.1) && (x.2.2 == y.2.2))) = true := by rw [b3]; simpa using hxy
   refine wk [] [] (an cq (an c2 (an c3 (an rx ry)))) ?_
   refine hk ⟨i + 1, by omega, eC ht hx hy hxy⟩ _ _ (by dsimp only; omega) ?_
   dsimp only
   exact fx [] cq
  ·have c3 : ((x.1 == y.1) && ((x.2.1 == y.2.1) && (x.2.2 == y.2.2))) = false := by rw [b3]; simpa using hxy
   rw [gV hx hy hxy]
   exact dz [] [] (an cq (an c2 (an c3 (an rx ry))))
 ·have c2 : ((i : Int) < (a.length : Int)) = False := by simp; omega
  rw [fW ht hlt hl]
  exact dz [] [] (an cq c2)
theorem tJ (a b : List (Int × Int × Int)) (ha : a.length ≤ 140737488351232) (hb : b.length ≤ 140737488351232) : aA Tryz.prog 140 [L (ed a), L (ed b)] (.bool (decide (a = b))) := by
 refine bl Tryz.func140 low140 (by simp [c140]) ?_
 simp only [c140]
 by_cases hl : ¬ a.length = b.length
 ·have c1 := kT hl
  rw [iz hl]
  exact dz [] [] (an cq c1)
 have hl : a.length = b.length := by omega
 have c1 : ((a.length : Int) == (b.length : Int)) = true := by simp [hl]
 refine wk [] [] (an cq c1) ?_
 refine av (ι := {i : Nat // i ≤ a.length ∧ a.take i = b.take i}) (fun i => ([(0, L (ed a)), (1, L (ed b)), (12, .int .i64 a.length), (13, .int .i64 i.1)], [])) (fun i => a.length - i.1) ⟨0, by simp⟩ ?_ ?_
 ·exact fx [] cq
 rintro ⟨i, hi, ht⟩ hk
 dsimp only at hk ⊢
 by_cases hlt : i < a.length
 ·have c2 : ((i : Int) < (a.length : Int)) = True := by simp; omega
  obtain ⟨x, hx⟩ : ∃ x, a[i]? = some x := ⟨_, List.getElem?_eq_getElem hlt⟩
  obtain ⟨y, hy⟩ : ∃ y, b[i]? = some y := ⟨_, List.getElem?_eq_getElem (by omega)⟩
  have rx := iK hx
  have ry := iK hy
  by_cases hxy : x = y
  ·have c3 : ((x.1 == y.1) && ((x.2.1 == y.2.1) && (x.2.2 == y.2.2))) = true := by rw [b3]; simpa using hxy
   refine wk [] [] (an cq (an c2 (an c3 (an rx ry)))) ?_
   refine hk ⟨i + 1, by omega, eC ht hx hy hxy⟩ _ _ (by dsimp only; omega) ?_
   dsimp only
   exact fx [] cq
  ·have c3 : ((x.1 == y.1) && ((x.2.1 == y.2.1) && (x.2.2 == y.2.2))) = false := by rw [b3]; simpa using hxy
   rw [gV hx hy hxy]
   exact dz [] [] (an cq (an c2 (an c3 (an rx ry))))
 ·have c2 : ((i : Int) < (a.length : Int)) = False := by simp; omega
  rw [fW ht hlt hl]
  exact dz [] [] (an cq c2)
theorem pG (a b : Ru) (ha : a.fits) (hb : b.fits) : aA Tryz.prog 76 [.agg a.cells, .agg b.cells] (.bool (decide (a = b))) := by
 obtain ⟨f1, f2, f3, f4⟩ := ha
 obtain ⟨g1, g2, g3, g4⟩ := hb
 refine bl Tryz.func76 low76 (by simp [c76]) ?_
 have h4 := oz a.bm b.bm f1 g1
 have h5 := oz a.bmd b.bmd f2 g2
 have h6 := yT a.bd b.bd f3 g3
 have h7 := oz a.bsp b.bsp f4 g4
 obtain ⟨a0, a1, a2, a3, a4, a5, a6, a7, a8⟩ := a
 obtain ⟨b0, b1, b2, b3, b4, b5, b6, b7, b8⟩ := b
 dsimp only at h4 h5 h6 h7
 have e : decide (Ru.mk a0 a1 a2 a3 a4 a5 a6 a7 a8 = Ru.mk b0 b1 b2 b3 b4 b5 b6 b7 b8) = ((a0 == b0) && ((a1 == b1) && ((a2 == b2) && ((a3 == b3) && ((a8 == b8) && (decide (a4 = b4) && (decide (a5 = b5) && (decide (a6 = b6) && decide (a7 = b7))))))))) := by
  rw [Bool.eq_iff_iff]
  simp only [Bool.and_eq_true, beq_iff_eq, decide_eq_true_eq, Ru.mk.injEq]
  exact ⟨fun ⟨p0, p1, p2, p3, p4, p5, p6, p7, p8⟩ => ⟨p0, p1, p2, p3, p8, p4, p5, p6, p7⟩, fun ⟨p0, p1, p2, p3, p8, p4, p5, p6, p7⟩ => ⟨p0, p1, p2, p3, p4, p5, p6, p7, p8⟩⟩
 rw [e]
 clear e
 generalize decide (a4 = b4) = x4 at h4 ⊢
 generalize decide (a5 = b5) = x5 at h5 ⊢
 generalize decide (a6 = b6) = x6 at h6 ⊢
 generalize decide (a7 = b7) = x7 at h7 ⊢
 simp only [c76, Ru.cells]
 exact lC [] [] cq
theorem zv (a b : Se) (ha : a.fits) (hb : b.fits) : aA Tryz.prog 102 [.agg a.cells, .agg b.cells] (.bool (decide (a = b))) := by
 obtain ⟨f1, f2, f3⟩ := ha
 obtain ⟨g1, g2, g3⟩ := hb
 refine bl Tryz.func102 low102 (by simp [c102]) ?_
 have h1 := w0 a.turns b.turns f1 g1
 have h2 := qh a.shifts b.shifts f2 g2
 have h3 := oz a.off b.off f3 g3
 obtain ⟨a0, a1, a2, a3, a4, a5⟩ := a
 obtain ⟨b0, b1, b2, b3, b4, b5⟩ := b
 dsimp only at h1 h2 h3
 have e : decide (Se.mk a0 a1 a2 a3 a4 a5 = Se.mk b0 b1 b2 b3 b4 b5) = ((a0 == b0) && (decide (a1 = b1) && (decide (a2 = b2) && (decide (a3 = b3) && ((a4 == b4) && (a5 == b5)))))) := by
  rw [Bool.eq_iff_iff]
  simp only [Bool.and_eq_true, beq_iff_eq, decide_eq_true_eq, Se.mk.injEq]
 rw [e]
 clear e
 generalize decide (a1 = b1) = x1 at h1 ⊢
 generalize decide (a2 = b2) = x2 at h2 ⊢
 generalize decide (a3 = b3) = x3 at h3 ⊢
 simp only [c102, Se.cells]
 exact lC [] [] cq
theorem zr (a b : Ev) (ha : a.fits) (hb : b.fits) : aA Tryz.prog 105 [.agg a.cells, .agg b.cells] (.bool (decide (a = b))) := by
 obtain ⟨f1, f2, f3, f4⟩ := ha
 obtain ⟨g1, g2, g3, g4⟩ := hb
 refine bl Tryz.func105 low105 (by simp [c105]) ?_
 have h4 := pG a.rule b.rule f1 g1
 have h5 := rk a.ex b.ex f2 g2
 have h6 := rk a.plus b.plus f3 g3
 have h7 := tJ a.ch b.ch f4 g4
 obtain ⟨a0, a1, a2, a3, a4, a5, a6, a7⟩ := a
 obtain ⟨b0, b1, b2, b3, b4, b5, b6, b7⟩ := b
 dsimp only at h4 h5 h6 h7
 have e : decide (Ev.mk a0 a1 a2 a3 a4 a5 a6 a7 = Ev.mk b0 b1 b2 b3 b4 b5 b6 b7) = ((a0 == b0) && ((a1 == b1) && ((a3 == b3) && ((a2 == b2) && (decide (a4 = b4) && (decide (a5 = b5) && (decide (a6 = b6) && decide (a7 = b7)))))))) := by
  rw [Bool.eq_iff_iff]
  simp only [Bool.and_eq_true, beq_iff_eq, decide_eq_true_eq, Ev.mk.injEq]
  exact ⟨fun ⟨p0, p1, p2, p3, p4, p5, p6, p7⟩ => ⟨p0, p1, p3, p2, p4, p5, p6, p7⟩, fun ⟨p0, p1, p3, p2, p4, p5, p6, p7⟩ => ⟨p0, p1, p2, p3, p4, p5, p6, p7⟩⟩
 rw [e]
 clear e
 generalize decide (a4 = b4) = x4 at h4 ⊢
 generalize decide (a5 = b5) = x5 at h5 ⊢
 generalize decide (a6 = b6) = x6 at h6 ⊢
 generalize decide (a7 = b7) = x7 at h7 ⊢
 simp only [c105, Ev.cells]
 simp only [Ru.cells] at h4
 exact lC [] [] cq
theorem zu (a b : Qu) (ha : a.fits) (hb : b.fits) : aA Tryz.prog 135 [.agg a.cells, .agg b.cells] (.bool (decide (a = b))) := by
 obtain ⟨f1, f2, f3, f4⟩ := ha
 obtain ⟨g1, g2, g3, g4⟩ := hb
 refine bl Tryz.func135 low135 (by simp [c135]) ?_
 have h4 := yU a.must b.must f1 g1
 have h5 := xa a.may b.may f2 g2
 have h7 := wZ a.apart b.apart f3 g3
 have h8 := qh a.prefer b.prefer f4 g4
 obtain ⟨a0, a1, a2, a3, a4, a5, a6, a7, a8⟩ := a
 obtain ⟨b0, b1, b2, b3, b4, b5, b6, b7, b8⟩ := b
 dsimp only at h4 h5 h7 h8
 have e : decide (Qu.mk a0 a1 a2 a3 a4 a5 a6 a7 a8 = Qu.mk b0 b1 b2 b3 b4 b5 b6 b7 b8) = ((a0 == b0) && ((a1 == b1) && ((a2 == b2) && ((a3 == b3) && (decide (a4 = b4) && (decide (a5 = b5) && ((a6 == b6) && (decide (a7 = b7) && decide (a8 = b8))))))))) := by
  rw [Bool.eq_iff_iff]
  simp only [Bool.and_eq_true, beq_iff_eq, decide_eq_true_eq, Qu.mk.injEq]
 rw [e]
 clear e
 generalize decide (a4 = b4) = x4 at h4 ⊢
 generalize decide (a5 = b5) = x5 at h5 ⊢
 generalize decide (a7 = b7) = x7 at h7 ⊢
 generalize decide (a8 = b8) = x8 at h8 ⊢
 simp only [c135, Qu.cells]
 exact lC [] [] cq
theorem zt (a b : Po) (ha : a.fits) (hb : b.fits) : aA Tryz.prog 99 [.agg a.row, .agg b.row] (.bool (decide (a = b))) := by
 obtain ⟨f1, f2, f3⟩ := ha
 obtain ⟨g1, g2, g3⟩ := hb
 refine bl Tryz.func99 low99 (by simp [c99]) ?_
 have h2 := zu a.qu b.qu f1 g1
 have h3 := rk a.slots b.slots f2 g2
 have h4 := w9 a.votes b.votes f3 g3
 obtain ⟨a0, a1, a2, a3, a4, a5, a6, a7⟩ := a
 obtain ⟨b0, b1, b2, b3, b4, b5, b6, b7⟩ := b
 dsimp only at h2 h3 h4
 have e : decide (Po.mk a0 a1 a2 a3 a4 a5 a6 a7 = Po.mk b0 b1 b2 b3 b4 b5 b6 b7) = ((a0 == b0) && ((a1 == b1) && (decide (a2 = b2) && (decide (a3 = b3) && (decide (a4 = b4) && ((a5 == b5) && ((a6 == b6) && (a7 == b7)))))))) := by
  rw [Bool.eq_iff_iff]
  simp only [Bool.and_eq_true, beq_iff_eq, decide_eq_true_eq, Po.mk.injEq]
 rw [e]
 clear e
 generalize decide (a2 = b2) = x2 at h2 ⊢
 generalize decide (a3 = b3) = x3 at h3 ⊢
 generalize decide (a4 = b4) = x4 at h4 ⊢
 simp only [c99, Po.row]
 simp only [Qu.cells] at h2
 exact lC [] [] cq
end Go.Proofs.YtapennlmboabeaaGreat
