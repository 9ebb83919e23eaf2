import Derived.Test.YtapennlmboabeaaGreatYK
import Derived.Test.YtapennlmboabeaaGreatYA
import Derived.Test.YtapennlmboabeaaGreatYH
import Derived.Test.YtapennlmboabeaaGreatVi33
set_option linter.unusedVariables false
set_option linter.unusedSimpArgs false
set_option linter.unnecessarySimpa false
namespace Go.Proofs.YtapennlmboabeaaGreat
open Go Go.Vi
deriving instance DecidableEq for As
structure Re where
 err : Int
 ver : Int
 slots : List (Int × Int × Int)
 cursor : ByteArray
 po : Po
 deriving DecidableEq
def Re.cells (r : Re) : List D := [.int .i64 r.err, .int .u64 r.ver, L (ed r.slots), .str r.cursor, .int .u32 r.po.id, .int .u32 r.po.owner, .int .i64 r.po.qu.a, .int .i64 r.po.qu.b, .int .i64 r.po.qu.long, .int .i64 r.po.qu.grid, L (ar .u32 r.po.qu.must), L (bz .u32 .i64 r.po.qu.may), .int .i64 r.po.qu.seats, L (bz .u32 .u32 r.po.qu.apart), L (ed r.po.qu.prefer), L (ar .i64 r.po.slots), L (bz .u32 .i64 r.po.votes), .int .i64 r.po.til, .int .i64 r.po.state, .int .i64 r.po.winner]
def As.fits (a : As) : Prop := a.se.fits ∧ a.ev.fits ∧ a.qu.fits
def Re.fits (a : Re) : Prop := a.slots.length ≤ 140737488351232 ∧ a.po.fits
def As.great (a : As) : Bool := a.se.great || a.ev.great || a.qu.great || decide (200 < a.cursor.size)
def Re.great (a : Re) : Bool := decide (150 < a.slots.length) || decide (200 < a.cursor.size) || a.po.great
theorem Re.eq_iff {a b : Re} : a = b ↔ (a.err = b.err ∧ a.ver = b.ver ∧ a.slots = b.slots ∧ a.cursor = b.cursor ∧ a.po = b.po) := by
 cases a; cases b; simp only [Re.mk.injEq]
end Go.Proofs.YtapennlmboabeaaGreat

namespace Go.Proofs.YtapennlmboabeaaGreat
open Go Go.Vi
theorem j4 : type_of% (an @Wr.eq_1 (an @co (an @ab (an @ac (an @ae @dc))))) := (an @Wr.eq_1 (an @co (an @ab (an @ac (an @ae @dc)))))
theorem wA (most : Nat) (l : List UInt8) (bad : Bool) (hl : l.length ≤ 1099511627776) (hm : most ≤ 1099511627776) (ok : Bool) (hok : ok = (!bad && decide (l.length ≤ most))) :
  aa Tryz.prog 57 [.ptr 0 0 0 1, .int .i64 most] [Cw 1 bad, Ww 2 l.length, bw true 1 true (r8 l)] (if ok = true then .tup [.list none false (r8 l), .bool true] else .tup [.list (some true) true [], .bool false])
   [Cw 1 bad, Ww 2 l.length, bw true 1 true (r8 l)] := by
 refine aP Tryz.func57 low57 (by simp [c57]) ?_
 simp only [c57]
 have hb := yG l hl
 cases bad
 ·by_cases hg : most < l.length
  ·have e : ok = false := by rw [hok]; simp; omega
   have c1 : ((l.length : Int) > (most : Int)) = True := by simp; omega
   subst e
   simp only [Bool.false_eq_true, reduceIte]
   refine wk [96] [] (an j4 c1) ?_
   exact fH [0, 1, 2] j4
  ·have e : ok = true := by rw [hok]; simp; omega
   have c1 : ((l.length : Int) > (most : Int)) = False := by simp; omega
   subst e
   simp only [reduceIte]
   refine wk [96] [] (an j4 c1) ?_
   exact fH [0, 1, 2] j4
 ·have e : ok = false := by rw [hok]; simp
  subst e
  simp only [Bool.false_eq_true, reduceIte]
  refine wk [96] [] j4 ?_
  exact fH [0, 1, 2] j4
theorem CM (most : Nat) (b l : List UInt8) (rb cb : Bool) (hb : b.length ≤ 1099511627776) (hm : most ≤ 1099511627776) :
  aa Tryz.prog 60 [.ptr 0 0 0 1, .list none false (r8 b), .int .i64 most] [Cr 1 cb, Rd l rb] (.bool (!cb && (!rb && l.isEmpty) && decide (b.length ≤ most)))
   [Cr 1 cb, Rd l rb] := by
 refine aP Tryz.func60 low60 (by simp [c60]) ?_
 simp only [c60]
 have he := end_p l rb
 generalize (!rb && l.isEmpty) = x at he ⊢
 cases cb
 ·cases x
  ·refine wk [] [] j4 ?_
   exact fH [0, 1] j4
  ·by_cases hg : b.length ≤ most
   ·have e : decide (b.length ≤ most) = true := by simpa using hg
    have c1 : ((b.length : Int) ≤ (most : Int)) = True := by simp; omega
    rw [e]
    refine wk [] [] (an j4 c1) ?_
    exact fH [0, 1] j4
   ·have e : decide (b.length ≤ most) = false := by simpa using hg
    have c1 : ((b.length : Int) ≤ (most : Int)) = False := by simp; omega
    rw [e]
    refine wk [] [] (an j4 c1) ?_
    exact fH [0, 1] j4
 ·refine wk [] [] j4 ?_
  exact fH [0, 1] j4
end Go.Proofs.YtapennlmboabeaaGreat

namespace Go.Proofs.YtapennlmboabeaaGreat
open Go Go.Vi
theorem rtK (m k : Nat) (hk : k < 18446744073709551616) (hm : k ≤ m) (t : List UInt8) (c : Bool) : bx m ⟨ez k ++ t, false, c⟩ = (k, ⟨t, false, c⟩) := by
 unfold bx iH
 simp only [Bool.false_eq_true, reduceIte]
 rw [mU m k t hk hm]
theorem pZ (m : Nat) (x : Int) (hx : decide (m < uI x) = false) (t : List UInt8) : bx m ⟨ez (uI x) ++ t, false, false⟩ = (uI x, ⟨t, false, false⟩) :=
 rtK m _ (md x) (by simpa using hx) t false
theorem cN {m : Nat} {x : Int} (hf : iY x) (hx : decide (m < uI x) = false) (hm : m < 9223372036854775808) : ((uI x : Nat) : Int) = x := by
 have h1 : uI x ≤ m := by simpa using hx
 obtain ⟨a, b⟩ := hf
 unfold uI at h1 ⊢
 omega
theorem vV (m : Nat) (x : Int) (hm : m ≤ 18446744073709551615) (hf : 0 ≤ x ∧ x ≤ m) (t : List UInt8) : bx m ⟨ez (uI x) ++ t, false, false⟩ = (uI x, ⟨t, false, false⟩) :=
 rtK m _ (md x) (by have := jx hf.1 (by omega); omega) t false
theorem vW (x : Int) (hf : iY x) (t : List UInt8) : gT ⟨ez (zz x) ++ t, false, false⟩ = (x, ⟨t, false, false⟩) := by
 have h := qU hf.1 hf.2
 unfold gT iH
 simp only [Bool.false_eq_true, reduceIte]
 rw [mU 18446744073709551615 (zz x) t h (by omega)]
 dsimp only
 rw [vj]
theorem rtS (lo hi x : Int) (hf : iY x) (hx : decide (x < lo ∨ hi < x) = false) (t : List UInt8) : mb lo hi ⟨ez (zz x) ++ t, false, false⟩ = (x, ⟨t, false, false⟩) := by
 have h := qU hf.1 hf.2
 unfold mb iH
 simp only [Bool.false_eq_true, reduceIte]
 rw [mU 18446744073709551615 (zz x) t h (by omega)]
 dsimp only
 rw [vj, hx]
 rfl
theorem rtF (b : Bool) (t : List UInt8) : rQ ⟨vA b ++ t, false, false⟩ = (b, ⟨t, false, false⟩) := by
 unfold rQ iH vA
 simp only [Bool.false_eq_true, reduceIte]
 cases b
 ·have := mU 1 0 t (by omega) (by omega)
  rw [jn (by omega)] at this
  simp only [Bool.false_eq_true, reduceIte]
  rw [show ([0] : List UInt8) = [UInt8.ofNat 0] from rfl, this]
  rfl
 ·have := mU 1 1 t (by omega) (by omega)
  rw [jn (by omega)] at this
  simp only [reduceIte]
  rw [show ([1] : List UInt8) = [UInt8.ofNat 1] from rfl, this]
  rfl
theorem rtGo {α : Type} {re : Rs → α × Rs} {e : α → List UInt8} : ∀ (l : List α) (a : List α) (t : List UInt8), (∀ y ∈ l, ∀ u, re ⟨e y ++ u, false, false⟩ = (y, ⟨u, false, false⟩)) → iP re l.length ⟨l.flatMap e ++ t, false, false⟩ a = (a ++ l, ⟨t, false, false⟩)
 | [], a, t, _ => by simp [iP]
 | y :: l, a, t, h => by
  have h1 := h y (List.mem_cons_self) (l.flatMap e ++ t)
  rw [List.flatMap_cons, List.append_assoc, List.length_cons, iP, h1]
  dsimp only
  rw [if_neg (by simp), rtGo l _ t (fun z hz => h z (List.mem_cons_of_mem _ hz)), List.append_assoc]
  rfl
theorem jY {α : Type} {re : Rs → α × Rs} {e : α → List UInt8} {x : α → Bool} {f : α → Prop} (most : Nat) (l : List α) (hm : most < 18446744073709551616) (hx : fO x most l = false) (hf : l.length ≤ 140737488351232 ∧ ∀ y ∈ l, f y) (h : ∀ y, f y → x y = false → ∀ u, re ⟨e y ++ u, false, false⟩ = (y, ⟨u, false, false⟩)) (t : List UInt8) :
  ap re most ⟨cZ e l ++ t, false, false⟩ = (l, ⟨t, false, false⟩) := by
 unfold fO at hx
 simp only [Bool.or_eq_false_iff] at hx
 unfold ap cZ
 rw [List.append_assoc, rtK most l.length (by omega) (by simpa using hx.1)]
 dsimp only
 rw [rtGo l [] t (fun y hy => h y (hf.2 y hy) (by
  have := hx.2
  rw [List.any_eq_false] at this
  simpa using this y hy)), List.nil_append]
theorem rtTu (x : Int × Int) (hf : Cl x) (hx : Bd x = false) (t : List UInt8) : rL ⟨u1 x ++ t, false, false⟩ = (x, ⟨t, false, false⟩) := by
 unfold Cl at hf
 unfold Bd at hx
 unfold rL u1
 simp only [List.append_assoc]
 simp only [vW x.1 hf.1]
 simp only [rtS (-900) 900 x.2 hf.2 hx]
theorem rtSh (x : Int × Int × Int) (hf : Ch x) (hx : Ba x = false) (t : List UInt8) : rI ⟨uX x ++ t, false, false⟩ = (x, ⟨t, false, false⟩) := by
 unfold Ch at hf
 unfold Ba at hx
 simp only [Bool.or_eq_false_iff] at hx
 unfold rI uX
 simp only [List.append_assoc]
 simp only [pZ 127 x.1 hx.1]
 simp only [pZ 1440 x.2.1 hx.2.1]
 simp only [pZ 1440 x.2.2 hx.2.2]
 rw [cN hf.1 hx.1 (by omega), cN hf.2.1 hx.2.1 (by omega), cN hf.2.2 hx.2.2 (by omega)]
theorem rtOf (x : Int) (hf : Cc x) (hx : A7 x = false) (t : List UInt8) : rG ⟨uU x ++ t, false, false⟩ = (x, ⟨t, false, false⟩) := by
 unfold Cc at hf
 unfold A7 at hx
 unfold rG uU
 simp only [pZ 109937 x hx]
 rw [cN hf hx (by omega)]
theorem rtSm (x : Int) (hf : Ci x) (hx : Bb x = false) (t : List UInt8) : rJ ⟨uY x ++ t, false, false⟩ = (x, ⟨t, false, false⟩) := by
 unfold Ci at hf
 unfold Bb at hx
 unfold rJ uY
 simp only [rtS (-400) 400 x hf hx]
theorem rtDa (x : Int × Int) (hf : B8 x) (hx : A4 x = false) (t : List UInt8) : rD ⟨uQ x ++ t, false, false⟩ = (x, ⟨t, false, false⟩) := by
 unfold B8 at hf
 unfold A4 at hx
 simp only [Bool.or_eq_false_iff] at hx
 unfold rD uQ
 simp only [List.append_assoc]
 simp only [rtS (-5) 5 x.1 hf.1 hx.1]
 simp only [pZ 6 x.2 hx.2]
 rw [cN hf.2 hx.2 (by omega)]
theorem rtEx (x : Int) (hf : Ca x) (hx : A5 x = false) (t : List UInt8) : qK ⟨uS x ++ t, false, false⟩ = (x, ⟨t, false, false⟩) := by
 unfold Ca at hf
 unfold A5 at hx
 unfold qK uS
 simp only [vW x hf]
theorem rtPl (x : Int) (hf : Ce x) (hx : A9 x = false) (t : List UInt8) : qL ⟨uW x ++ t, false, false⟩ = (x, ⟨t, false, false⟩) := by
 unfold Ce at hf
 unfold A9 at hx
 unfold qL uW
 simp only [vW x hf]
theorem rtCh (x : Int × Int × Int) (hf : B7 x) (hx : A3 x = false) (t : List UInt8) : qI ⟨uP x ++ t, false, false⟩ = (x, ⟨t, false, false⟩) := by
 unfold B7 at hf
 unfold A3 at hx
 unfold qI uP
 simp only [List.append_assoc]
 simp only [vW x.1 hf.1]
 simp only [vW x.2.1 hf.2.1]
 simp only [pZ 10080 x.2.2 hx]
 rw [cN hf.2.2 hx (by omega)]
theorem rtMu (x : Int) (hf : Cb x) (hx : A6 x = false) (t : List UInt8) : rF ⟨uT x ++ t, false, false⟩ = (x, ⟨t, false, false⟩) := by
 unfold Cb at hf
 unfold A6 at hx
 unfold rF uT
 simp only [vV 4294967295 x (by omega) hf]
 rw [jx hf.1 (by have := hf.2; omega)]
theorem rtWa (x : Int × Int) (hf : Cn x) (hx : Bf x = false) (t : List UInt8) : rN ⟨u3 x ++ t, false, false⟩ = (x, ⟨t, false, false⟩) := by
 unfold Cn at hf
 unfold Bf at hx
 unfold rN u3
 simp only [List.append_assoc]
 simp only [vV 4294967295 x.1 (by omega) hf.1]
 simp only [pZ 1000 x.2 hx]
 rw [jx hf.1.1 (by have := hf.1.2; omega), cN hf.2 hx (by omega)]
theorem rtPa (x : Int × Int) (hf : Cd x) (hx : A8 x = false) (t : List UInt8) : rH ⟨uV x ++ t, false, false⟩ = (x, ⟨t, false, false⟩) := by
 unfold Cd at hf
 unfold A8 at hx
 unfold rH uV
 simp only [List.append_assoc]
 simp only [vV 4294967295 x.1 (by omega) hf.1]
 simp only [vV 4294967295 x.2 (by omega) hf.2]
 rw [jx hf.1.1 (by have := hf.1.2; omega), jx hf.2.1 (by have := hf.2.2; omega)]
theorem rtTs (x : Int) (hf : Ck x) (hx : Bc x = false) (t : List UInt8) : rK ⟨u0 x ++ t, false, false⟩ = (x, ⟨t, false, false⟩) := by
 unfold Ck at hf
 unfold Bc at hx
 unfold rK u0
 simp only [vW x hf]
theorem rtVo (x : Int × Int) (hf : Cm x) (hx : Be x = false) (t : List UInt8) : rM ⟨u2 x ++ t, false, false⟩ = (x, ⟨t, false, false⟩) := by
 unfold Cm at hf
 unfold Be at hx
 unfold rM u2
 simp only [List.append_assoc]
 simp only [vV 4294967295 x.1 (by omega) hf.1]
 simp only [pZ 40 x.2 hx]
 rw [jx hf.1.1 (by have := hf.1.2; omega), cN hf.2 hx (by omega)]
theorem rtZo (b : Int) (ts : List (Int × Int)) (hf : fZo b ts) (hx : C4 b ts = false) (t : List UInt8) : sf ⟨yt b ts ++ t, false, false⟩ = ((b, ts), ⟨t, false, false⟩) := by
 unfold fZo at hf
 unfold C4 at hx
 simp only [Bool.or_eq_false_iff] at hx
 unfold sf yt
 simp only [List.append_assoc]
 rw [rtS (-900) 900 b hf.1 hx.1]
 try dsimp only
 rw [jY 700 ts (by omega) hx.2 hf.2 rtTu]
 try dsimp only
theorem rtHs (most : Nat) (ss : List (Int × Int × Int)) (hm : most < 1000000) (hf : C7 ss) (hx : Av most ss = false) (t : List UInt8) : py most ⟨vu ss ++ t, false, false⟩ = (ss, ⟨t, false, false⟩) := by
 unfold C7 at hf
 unfold Av at hx
 unfold py vu
 rw [jY most ss (by omega) hx hf rtSh]
 try dsimp only
theorem rtSe (s : Se) (hf : Cg s) (hx : CZ s = false) (t : List UInt8) : nZ ⟨wW s ++ t, false, false⟩ = (s, ⟨t, false, false⟩) := by
 unfold Cg at hf
 unfold CZ at hx
 simp only [Bool.or_eq_false_iff] at hx
 unfold nZ wW
 simp only [List.append_assoc]
 rw [rtZo s.base s.turns  hf.1 hx.1]
 try dsimp only
 rw [rtHs 10 s.shifts (by omega)  hf.2.1 hx.2.1]
 try dsimp only
 rw [jY 60 s.off (by omega) hx.2.2.1 hf.2.2.1 rtOf]
 try dsimp only
 rw [pZ 240 s.before hx.2.2.2.1]
 try dsimp only
 rw [pZ 240 s.after hx.2.2.2.2]
 try dsimp only
 rw [cN hf.2.2.2.1 hx.2.2.2.1 (by omega), cN hf.2.2.2.2 hx.2.2.2.2 (by omega)]
theorem CP (xs : List Int) (hf : Cj xs) (hx : yr xs = false) (t : List UInt8) : mC ⟨uZ xs ++ t, false, false⟩ = (xs, ⟨t, false, false⟩) := by
 unfold Cj at hf
 unfold yr at hx
 unfold mC uZ
 rw [jY 400 xs (by omega) hx hf rtSm]
 try dsimp only
theorem rtRu (r : Ru) (hf : Cf r) (hx : CY r = false) (t : List UInt8) : lT ⟨wV r ++ t, false, false⟩ = (r, ⟨t, false, false⟩) := by
 unfold Cf at hf
 unfold CY at hx
 simp only [Bool.or_eq_false_iff] at hx
 unfold lT wV
 simp only [List.append_assoc]
 rw [pZ 4 r.freq hx.1]
 try dsimp only
 rw [pZ 999 r.interval hx.2.1]
 try dsimp only
 rw [pZ 5000 r.count hx.2.2.1]
 try dsimp only
 rw [vW r.til hf.2.2.2.1]
 try dsimp only
 rw [CP r.bm  hf.2.2.2.2.1 hx.2.2.2.1]
 try dsimp only
 rw [CP r.bmd  hf.2.2.2.2.2.1 hx.2.2.2.2.1]
 try dsimp only
 rw [jY 400 r.bd (by omega) hx.2.2.2.2.2.1 hf.2.2.2.2.2.2.1 rtDa]
 try dsimp only
 rw [CP r.bsp  hf.2.2.2.2.2.2.2.1 hx.2.2.2.2.2.2.1]
 try dsimp only
 rw [pZ 6 r.start hx.2.2.2.2.2.2.2]
 try dsimp only
 rw [cN hf.1 hx.1 (by omega), cN hf.2.1 hx.2.1 (by omega), cN hf.2.2.1 hx.2.2.1 (by omega), cN hf.2.2.2.2.2.2.2.2 hx.2.2.2.2.2.2.2 (by omega)]
theorem rtQu (q : Qu) (hf : AT q) (hx : CX q = false) (t : List UInt8) : ma ⟨wU q ++ t, false, false⟩ = (q, ⟨t, false, false⟩) := by
 unfold AT at hf
 unfold CX at hx
 simp only [Bool.or_eq_false_iff] at hx
 unfold ma wU
 simp only [List.append_assoc]
 rw [vW q.a hf.1]
 try dsimp only
 rw [vW q.b hf.2.1]
 try dsimp only
 rw [pZ 10080 q.long hx.1]
 try dsimp only
 rw [pZ 1440 q.grid hx.2.1]
 try dsimp only
 rw [jY 64 q.must (by omega) hx.2.2.1 hf.2.2.2.2.1 rtMu]
 try dsimp only
 rw [jY 16 q.may (by omega) hx.2.2.2.1 hf.2.2.2.2.2.1 rtWa]
 try dsimp only
 rw [pZ 100 q.seats hx.2.2.2.2.1]
 try dsimp only
 rw [jY 32 q.apart (by omega) hx.2.2.2.2.2.1 hf.2.2.2.2.2.2.2.1 rtPa]
 try dsimp only
 rw [rtHs 8 q.prefer (by omega)  hf.2.2.2.2.2.2.2.2 hx.2.2.2.2.2.2]
 try dsimp only
 rw [cN hf.2.2.1 hx.1 (by omega), cN hf.2.2.2.1 hx.2.1 (by omega), cN hf.2.2.2.2.2.2.1 hx.2.2.2.2.1 (by omega)]
theorem rtPo (p : Po) (hf : AS p) (hx : tn p = false) (t : List UInt8) : ku ⟨nO p ++ t, false, false⟩ = (p, ⟨t, false, false⟩) := by
 unfold AS at hf
 unfold tn at hx
 simp only [Bool.or_eq_false_iff] at hx
 unfold ku nO
 simp only [List.append_assoc]
 rw [vV 4294967295 p.id (by omega) hf.1]
 try dsimp only
 rw [vV 4294967295 p.owner (by omega) hf.2.1]
 try dsimp only
 rw [rtQu p.qu  hf.2.2.1 hx.1]
 try dsimp only
 rw [jY 40 p.slots (by omega) hx.2.1 hf.2.2.2.1 rtTs]
 try dsimp only
 rw [jY 4096 p.votes (by omega) hx.2.2.1 hf.2.2.2.2.1 rtVo]
 try dsimp only
 rw [vW p.til hf.2.2.2.2.2.1]
 try dsimp only
 rw [pZ 4 p.state hx.2.2.2.1]
 try dsimp only
 rw [pZ 40 p.winner hx.2.2.2.2]
 try dsimp only
 rw [jx hf.1.1 (by have := hf.1.2; omega), jx hf.2.1.1 (by have := hf.2.1.2; omega), cN hf.2.2.2.2.2.2.1 hx.2.2.2.1 (by omega), cN hf.2.2.2.2.2.2.2 hx.2.2.2.2 (by omega)]
end Go.Proofs.YtapennlmboabeaaGreat

namespace Go.Proofs.YtapennlmboabeaaGreat
open Go Go.Vi
def pl (e : Ev) : Ev := if e.again = true then { e with world := false } else ⟨e.start, e.long, e.world, false, Ru0, [], [], []⟩
theorem rtEv (e : Ev) (hf : fEv e) (hx : C9 e = false) (t : List UInt8) : oj ⟨wT e ++ t, false, false⟩ = (pl e, ⟨t, false, false⟩) := by
 unfold C9 at hx
 unfold wT pl
 cases ha : e.again
 ·replace hf := hf.1
  rw [if_neg (by rw [ha]; simp)] at hx
  rw [if_neg (by simp), if_neg (by simp)]
  unfold fE0 at hf
  unfold xE0 at hx
  unfold oj AO
  simp only [List.append_assoc]
  rw [vW e.start hf.1]
  try dsimp only
  rw [pZ 10080 e.long hx]
  try dsimp only
  rw [rtF e.again]
  try dsimp only
  rw [ha]
  simp only [Bool.false_eq_true, reduceIte]
  unfold xJ
  rw [rtF e.world]
  try dsimp only
  rw [cN hf.2.1 hx (by omega)]
 ·replace hf := hf.2
  rw [if_pos ha] at hx
  rw [if_pos rfl , if_pos rfl]
  unfold fE1 at hf
  unfold xE1 at hx
  simp only [Bool.or_eq_false_iff] at hx
  unfold oj AP
  simp only [List.append_assoc]
  rw [vW e.start hf.1]
  try dsimp only
  rw [pZ 10080 e.long hx.1]
  try dsimp only
  rw [rtF e.again]
  try dsimp only
  rw [ha]
  simp only [Bool.false_eq_true, reduceIte]
  unfold xK
  rw [rtRu e.rule  hf.2.2.2.1 hx.2.1]
  try dsimp only
  rw [jY 50 e.ex (by omega) hx.2.2.1 hf.2.2.2.2.1 rtEx]
  try dsimp only
  rw [jY 50 e.plus (by omega) hx.2.2.2.1 hf.2.2.2.2.2.1 rtPl]
  try dsimp only
  rw [jY 50 e.ch (by omega) hx.2.2.2.2 hf.2.2.2.2.2.2 rtCh]
  try dsimp only
  rw [cN hf.2.1 hx.1 (by omega)]
end Go.Proofs.YtapennlmboabeaaGreat

namespace Go.Proofs.YtapennlmboabeaaGreat
open Go Go.Vi
theorem zm {e : Ev} (h : e.fits) : (pl e).fits := by
 unfold pl
 split
 ·exact h
 ·simp [Ev.fits, Ru.fits]
end Go.Proofs.YtapennlmboabeaaGreat
