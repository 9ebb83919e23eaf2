import Derived.Test.YtapennlmboabeaaGreatYK
import Derived.Test.YtapennlmboabeaaGreatYA
import Derived.Test.YtapennlmboabeaaGreatYH
import Derived.Test.YtapennlmboabeaaGreatVi33
set_option linter.unusedVariables false
set_option linter.unusedSimpArgs false
set_option linter.unnecessarySimpa false
namespace Go.Proofs.YtapennlmboabeaaGreat
open Go Go.Vi
deriving instance DecidableEq for As
structure Re where
 err : Int
 ver : Int
 slots : List (Int × Int × Int)
 cursor : ByteArray
 po : Po
 deriving DecidableEq
def Re.cells (r : Re) : List D := [.int .i64 r.err, .int .u64 r.ver, L (row3 r.slots), .str r.cursor, .int .u32 r.po.id, .int .u32 r.po.owner, .int .i64 r.po.qu.a, .int .i64 r.po.qu.b, .int .i64 r.po.qu.long, .int .i64 r.po.qu.grid, L (row1 .u32 r.po.qu.must), L (row2 .u32 .i64 r.po.qu.may), .int .i64 r.po.qu.seats, L (row2 .u32 .u32 r.po.qu.apart), L (row3 r.po.qu.prefer), L (row1 .i64 r.po.slots), L (row2 .u32 .i64 r.po.votes), .int .i64 r.po.til, .int .i64 r.po.state, .int .i64 r.po.winner]
def As.fits (a : As) : Prop := a.se.fits ∧ a.ev.fits ∧ a.qu.fits
def Re.fits (a : Re) : Prop := a.slots.length ≤ 140737488351232 ∧ a.po.fits
def As.great (a : As) : Bool := a.se.great || a.ev.great || a.qu.great || decide (200 < a.cursor.size)
def Re.great (a : Re) : Bool := decide (150 < a.slots.length) || decide (200 < a.cursor.size) || a.po.great
theorem Re.eq_iff {a b : Re} : a = b ↔ (a.err = b.err ∧ a.ver = b.ver ∧ a.slots = b.slots ∧ a.cursor = b.cursor ∧ a.po = b.po) := by
 cases a; cases b; simp only [Re.mk.injEq]
end Go.Proofs.YtapennlmboabeaaGreat

namespace Go.Proofs.YtapennlmboabeaaGreat
open Go Go.Vi
theorem exYPA : type_of% (an @Wr.eq_1 (an @r8_len (an @row1_len (an @row2_len (an @row3_len @rowQ_len))))) := (an @Wr.eq_1 (an @r8_len (an @row1_len (an @row2_len (an @row3_len @rowQ_len)))))
theorem written_p (most : Nat) (l : List UInt8) (bad : Bool) (hl : l.length ≤ 1099511627776) (hm : most ≤ 1099511627776) (ok : Bool) (hok : ok = (!bad && decide (l.length ≤ most))) :
  CallG Tryz.prog 57 [.ptr 0 0 0 1, .int .i64 most] [Cw 1 bad, Ww 2 l.length, acc true 1 true (r8 l)] (if ok = true then .tup [.list none false (r8 l), .bool true] else .tup [.list (some true) true [], .bool false])
   [Cw 1 bad, Ww 2 l.length, acc true 1 true (r8 l)] := by
 refine callG Tryz.func57 low57 (by simp [c57]) ?_
 simp only [c57]
 have hb := bytes_p l hl
 cases bad
 ·by_cases hg : most < l.length
  ·have e : ok = false := by rw [hok]; simp; omega
   have c1 : ((l.length : Int) > (most : Int)) = True := by simp; omega
   subst e
   simp only [Bool.false_eq_true, reduceIte]
   refine wk [96] [] (an exYPA c1) ?_
   exact rtw [0, 1, 2] exYPA
  ·have e : ok = true := by rw [hok]; simp; omega
   have c1 : ((l.length : Int) > (most : Int)) = False := by simp; omega
   subst e
   simp only [reduceIte]
   refine wk [96] [] (an exYPA c1) ?_
   exact rtw [0, 1, 2] exYPA
 ·have e : ok = false := by rw [hok]; simp
  subst e
  simp only [Bool.false_eq_true, reduceIte]
  refine wk [96] [] exYPA ?_
  exact rtw [0, 1, 2] exYPA
theorem read_p (most : Nat) (b l : List UInt8) (rb cb : Bool) (hb : b.length ≤ 1099511627776) (hm : most ≤ 1099511627776) :
  CallG Tryz.prog 60 [.ptr 0 0 0 1, .list none false (r8 b), .int .i64 most] [Cr 1 cb, Rd l rb] (.bool (!cb && (!rb && l.isEmpty) && decide (b.length ≤ most)))
   [Cr 1 cb, Rd l rb] := by
 refine callG Tryz.func60 low60 (by simp [c60]) ?_
 simp only [c60]
 have he := end_p l rb
 generalize (!rb && l.isEmpty) = x at he ⊢
 cases cb
 ·cases x
  ·refine wk [] [] exYPA ?_
   exact rtw [0, 1] exYPA
  ·by_cases hg : b.length ≤ most
   ·have e : decide (b.length ≤ most) = true := by simpa using hg
    have c1 : ((b.length : Int) ≤ (most : Int)) = True := by simp; omega
    rw [e]
    refine wk [] [] (an exYPA c1) ?_
    exact rtw [0, 1] exYPA
   ·have e : decide (b.length ≤ most) = false := by simpa using hg
    have c1 : ((b.length : Int) ≤ (most : Int)) = False := by simp; omega
    rw [e]
    refine wk [] [] (an exYPA c1) ?_
    exact rtw [0, 1] exYPA
 ·refine wk [] [] exYPA ?_
  exact rtw [0, 1] exYPA
end Go.Proofs.YtapennlmboabeaaGreat

namespace Go.Proofs.YtapennlmboabeaaGreat
open Go Go.Vi
theorem rtK (m k : Nat) (hk : k < 18446744073709551616) (hm : k ≤ m) (t : List UInt8) (c : Bool) : rqN m ⟨num k ++ t, false, c⟩ = (k, ⟨t, false, c⟩) := by
 unfold rqN rdN
 simp only [Bool.false_eq_true, reduceIte]
 rw [rd_num0 m k t hk hm]
theorem rtN (m : Nat) (x : Int) (hx : decide (m < uI x) = false) (t : List UInt8) : rqN m ⟨num (uI x) ++ t, false, false⟩ = (uI x, ⟨t, false, false⟩) :=
 rtK m _ (uI_lt x) (by simpa using hx) t false
theorem cN {m : Nat} {x : Int} (hf : Fit x) (hx : decide (m < uI x) = false) (hm : m < 9223372036854775808) : ((uI x : Nat) : Int) = x := by
 have h1 : uI x ≤ m := by simpa using hx
 obtain ⟨a, b⟩ := hf
 unfold uI at h1 ⊢
 omega
theorem rtD (m : Nat) (x : Int) (hm : m ≤ 18446744073709551615) (hf : 0 ≤ x ∧ x ≤ m) (t : List UInt8) : rqN m ⟨num (uI x) ++ t, false, false⟩ = (uI x, ⟨t, false, false⟩) :=
 rtK m _ (uI_lt x) (by have := uI_id hf.1 (by omega); omega) t false
theorem rtM (x : Int) (hf : Fit x) (t : List UInt8) : rqM ⟨num (zz x) ++ t, false, false⟩ = (x, ⟨t, false, false⟩) := by
 have h := zz_lt hf.1 hf.2
 unfold rqM rdN
 simp only [Bool.false_eq_true, reduceIte]
 rw [rd_num0 18446744073709551615 (zz x) t h (by omega)]
 dsimp only
 rw [unzz_zz]
theorem rtS (lo hi x : Int) (hf : Fit x) (hx : decide (x < lo ∨ hi < x) = false) (t : List UInt8) : rqS lo hi ⟨num (zz x) ++ t, false, false⟩ = (x, ⟨t, false, false⟩) := by
 have h := zz_lt hf.1 hf.2
 unfold rqS rdN
 simp only [Bool.false_eq_true, reduceIte]
 rw [rd_num0 18446744073709551615 (zz x) t h (by omega)]
 dsimp only
 rw [unzz_zz, hx]
 rfl
theorem rtF (b : Bool) (t : List UInt8) : rqF ⟨fl8 b ++ t, false, false⟩ = (b, ⟨t, false, false⟩) := by
 unfold rqF rdN fl8
 simp only [Bool.false_eq_true, reduceIte]
 cases b
 ·have := rd_num0 1 0 t (by omega) (by omega)
  rw [num_small (by omega)] at this
  simp only [Bool.false_eq_true, reduceIte]
  rw [show ([0] : List UInt8) = [UInt8.ofNat 0] from rfl, this]
  rfl
 ·have := rd_num0 1 1 t (by omega) (by omega)
  rw [num_small (by omega)] at this
  simp only [reduceIte]
  rw [show ([1] : List UInt8) = [UInt8.ofNat 1] from rfl, this]
  rfl
theorem rtGo {α : Type} {re : Rs → α × Rs} {e : α → List UInt8} : ∀ (l : List α) (a : List α) (t : List UInt8), (∀ y ∈ l, ∀ u, re ⟨e y ++ u, false, false⟩ = (y, ⟨u, false, false⟩)) → rowGo re l.length ⟨l.flatMap e ++ t, false, false⟩ a = (a ++ l, ⟨t, false, false⟩)
 | [], a, t, _ => by simp [rowGo]
 | y :: l, a, t, h => by
  have h1 := h y (List.mem_cons_self) (l.flatMap e ++ t)
  rw [List.flatMap_cons, List.append_assoc, List.length_cons, rowGo, h1]
  dsimp only
  rw [if_neg (by simp), rtGo l _ t (fun z hz => h z (List.mem_cons_of_mem _ hz)), List.append_assoc]
  rfl
theorem rtRow {α : Type} {re : Rs → α × Rs} {e : α → List UInt8} {x : α → Bool} {f : α → Prop} (most : Nat) (l : List α) (hm : most < 18446744073709551616) (hx : xRow x most l = false) (hf : l.length ≤ 140737488351232 ∧ ∀ y ∈ l, f y) (h : ∀ y, f y → x y = false → ∀ u, re ⟨e y ++ u, false, false⟩ = (y, ⟨u, false, false⟩)) (t : List UInt8) :
  rRow re most ⟨eRow e l ++ t, false, false⟩ = (l, ⟨t, false, false⟩) := by
 unfold xRow at hx
 simp only [Bool.or_eq_false_iff] at hx
 unfold rRow eRow
 rw [List.append_assoc, rtK most l.length (by omega) (by simpa using hx.1)]
 dsimp only
 rw [rtGo l [] t (fun y hy => h y (hf.2 y hy) (by
  have := hx.2
  rw [List.any_eq_false] at this
  simpa using this y hy)), List.nil_append]
theorem rtTu (x : Int × Int) (hf : fTu x) (hx : xTu x = false) (t : List UInt8) : rTu ⟨eTu x ++ t, false, false⟩ = (x, ⟨t, false, false⟩) := by
 unfold fTu at hf
 unfold xTu at hx
 unfold rTu eTu
 simp only [List.append_assoc]
 simp only [rtM x.1 hf.1]
 simp only [rtS (-900) 900 x.2 hf.2 hx]
theorem rtSh (x : Int × Int × Int) (hf : fSh x) (hx : xSh x = false) (t : List UInt8) : rSh ⟨eSh x ++ t, false, false⟩ = (x, ⟨t, false, false⟩) := by
 unfold fSh at hf
 unfold xSh at hx
 simp only [Bool.or_eq_false_iff] at hx
 unfold rSh eSh
 simp only [List.append_assoc]
 simp only [rtN 127 x.1 hx.1]
 simp only [rtN 1440 x.2.1 hx.2.1]
 simp only [rtN 1440 x.2.2 hx.2.2]
 rw [cN hf.1 hx.1 (by omega), cN hf.2.1 hx.2.1 (by omega), cN hf.2.2 hx.2.2 (by omega)]
theorem rtOf (x : Int) (hf : fOf x) (hx : xOf x = false) (t : List UInt8) : rOf ⟨eOf x ++ t, false, false⟩ = (x, ⟨t, false, false⟩) := by
 unfold fOf at hf
 unfold xOf at hx
 unfold rOf eOf
 simp only [rtN 109937 x hx]
 rw [cN hf hx (by omega)]
theorem rtSm (x : Int) (hf : fSm x) (hx : xSm x = false) (t : List UInt8) : rSm ⟨eSm x ++ t, false, false⟩ = (x, ⟨t, false, false⟩) := by
 unfold fSm at hf
 unfold xSm at hx
 unfold rSm eSm
 simp only [rtS (-400) 400 x hf hx]
theorem rtDa (x : Int × Int) (hf : fDa x) (hx : xDa x = false) (t : List UInt8) : rDa ⟨eDa x ++ t, false, false⟩ = (x, ⟨t, false, false⟩) := by
 unfold fDa at hf
 unfold xDa at hx
 simp only [Bool.or_eq_false_iff] at hx
 unfold rDa eDa
 simp only [List.append_assoc]
 simp only [rtS (-5) 5 x.1 hf.1 hx.1]
 simp only [rtN 6 x.2 hx.2]
 rw [cN hf.2 hx.2 (by omega)]
theorem rtEx (x : Int) (hf : fEx x) (hx : xEx x = false) (t : List UInt8) : rEx ⟨eEx x ++ t, false, false⟩ = (x, ⟨t, false, false⟩) := by
 unfold fEx at hf
 unfold xEx at hx
 unfold rEx eEx
 simp only [rtM x hf]
theorem rtPl (x : Int) (hf : fPl x) (hx : xPl x = false) (t : List UInt8) : rPl ⟨ePl x ++ t, false, false⟩ = (x, ⟨t, false, false⟩) := by
 unfold fPl at hf
 unfold xPl at hx
 unfold rPl ePl
 simp only [rtM x hf]
theorem rtCh (x : Int × Int × Int) (hf : fCh x) (hx : xCh x = false) (t : List UInt8) : rCh ⟨eCh x ++ t, false, false⟩ = (x, ⟨t, false, false⟩) := by
 unfold fCh at hf
 unfold xCh at hx
 unfold rCh eCh
 simp only [List.append_assoc]
 simp only [rtM x.1 hf.1]
 simp only [rtM x.2.1 hf.2.1]
 simp only [rtN 10080 x.2.2 hx]
 rw [cN hf.2.2 hx (by omega)]
theorem rtMu (x : Int) (hf : fMu x) (hx : xMu x = false) (t : List UInt8) : rMu ⟨eMu x ++ t, false, false⟩ = (x, ⟨t, false, false⟩) := by
 unfold fMu at hf
 unfold xMu at hx
 unfold rMu eMu
 simp only [rtD 4294967295 x (by omega) hf]
 rw [uI_id hf.1 (by have := hf.2; omega)]
theorem rtWa (x : Int × Int) (hf : fWa x) (hx : xWa x = false) (t : List UInt8) : rWa ⟨eWa x ++ t, false, false⟩ = (x, ⟨t, false, false⟩) := by
 unfold fWa at hf
 unfold xWa at hx
 unfold rWa eWa
 simp only [List.append_assoc]
 simp only [rtD 4294967295 x.1 (by omega) hf.1]
 simp only [rtN 1000 x.2 hx]
 rw [uI_id hf.1.1 (by have := hf.1.2; omega), cN hf.2 hx (by omega)]
theorem rtPa (x : Int × Int) (hf : fPa x) (hx : xPa x = false) (t : List UInt8) : rPa ⟨ePa x ++ t, false, false⟩ = (x, ⟨t, false, false⟩) := by
 unfold fPa at hf
 unfold xPa at hx
 unfold rPa ePa
 simp only [List.append_assoc]
 simp only [rtD 4294967295 x.1 (by omega) hf.1]
 simp only [rtD 4294967295 x.2 (by omega) hf.2]
 rw [uI_id hf.1.1 (by have := hf.1.2; omega), uI_id hf.2.1 (by have := hf.2.2; omega)]
theorem rtTs (x : Int) (hf : fTs x) (hx : xTs x = false) (t : List UInt8) : rTs ⟨eTs x ++ t, false, false⟩ = (x, ⟨t, false, false⟩) := by
 unfold fTs at hf
 unfold xTs at hx
 unfold rTs eTs
 simp only [rtM x hf]
theorem rtVo (x : Int × Int) (hf : fVo x) (hx : xVo x = false) (t : List UInt8) : rVo ⟨eVo x ++ t, false, false⟩ = (x, ⟨t, false, false⟩) := by
 unfold fVo at hf
 unfold xVo at hx
 unfold rVo eVo
 simp only [List.append_assoc]
 simp only [rtD 4294967295 x.1 (by omega) hf.1]
 simp only [rtN 40 x.2 hx]
 rw [uI_id hf.1.1 (by have := hf.1.2; omega), cN hf.2 hx (by omega)]
theorem rtZo (b : Int) (ts : List (Int × Int)) (hf : fZo b ts) (hx : xZo b ts = false) (t : List UInt8) : rZo ⟨eZo b ts ++ t, false, false⟩ = ((b, ts), ⟨t, false, false⟩) := by
 unfold fZo at hf
 unfold xZo at hx
 simp only [Bool.or_eq_false_iff] at hx
 unfold rZo eZo
 simp only [List.append_assoc]
 rw [rtS (-900) 900 b hf.1 hx.1]
 try dsimp only
 rw [rtRow 700 ts (by omega) hx.2 hf.2 rtTu]
 try dsimp only
theorem rtHs (most : Nat) (ss : List (Int × Int × Int)) (hm : most < 1000000) (hf : fHs ss) (hx : xHs most ss = false) (t : List UInt8) : rHs most ⟨eHs ss ++ t, false, false⟩ = (ss, ⟨t, false, false⟩) := by
 unfold fHs at hf
 unfold xHs at hx
 unfold rHs eHs
 rw [rtRow most ss (by omega) hx hf rtSh]
 try dsimp only
theorem rtSe (s : Se) (hf : fSe s) (hx : xSe s = false) (t : List UInt8) : rSe ⟨eSe s ++ t, false, false⟩ = (s, ⟨t, false, false⟩) := by
 unfold fSe at hf
 unfold xSe at hx
 simp only [Bool.or_eq_false_iff] at hx
 unfold rSe eSe
 simp only [List.append_assoc]
 rw [rtZo s.base s.turns  hf.1 hx.1]
 try dsimp only
 rw [rtHs 10 s.shifts (by omega)  hf.2.1 hx.2.1]
 try dsimp only
 rw [rtRow 60 s.off (by omega) hx.2.2.1 hf.2.2.1 rtOf]
 try dsimp only
 rw [rtN 240 s.before hx.2.2.2.1]
 try dsimp only
 rw [rtN 240 s.after hx.2.2.2.2]
 try dsimp only
 rw [cN hf.2.2.2.1 hx.2.2.2.1 (by omega), cN hf.2.2.2.2 hx.2.2.2.2 (by omega)]
theorem rtSs (xs : List Int) (hf : fSs xs) (hx : xSs xs = false) (t : List UInt8) : rSs ⟨eSs xs ++ t, false, false⟩ = (xs, ⟨t, false, false⟩) := by
 unfold fSs at hf
 unfold xSs at hx
 unfold rSs eSs
 rw [rtRow 400 xs (by omega) hx hf rtSm]
 try dsimp only
theorem rtRu (r : Ru) (hf : fRu r) (hx : xRu r = false) (t : List UInt8) : rRu ⟨eRu r ++ t, false, false⟩ = (r, ⟨t, false, false⟩) := by
 unfold fRu at hf
 unfold xRu at hx
 simp only [Bool.or_eq_false_iff] at hx
 unfold rRu eRu
 simp only [List.append_assoc]
 rw [rtN 4 r.freq hx.1]
 try dsimp only
 rw [rtN 999 r.interval hx.2.1]
 try dsimp only
 rw [rtN 5000 r.count hx.2.2.1]
 try dsimp only
 rw [rtM r.til hf.2.2.2.1]
 try dsimp only
 rw [rtSs r.bm  hf.2.2.2.2.1 hx.2.2.2.1]
 try dsimp only
 rw [rtSs r.bmd  hf.2.2.2.2.2.1 hx.2.2.2.2.1]
 try dsimp only
 rw [rtRow 400 r.bd (by omega) hx.2.2.2.2.2.1 hf.2.2.2.2.2.2.1 rtDa]
 try dsimp only
 rw [rtSs r.bsp  hf.2.2.2.2.2.2.2.1 hx.2.2.2.2.2.2.1]
 try dsimp only
 rw [rtN 6 r.start hx.2.2.2.2.2.2.2]
 try dsimp only
 rw [cN hf.1 hx.1 (by omega), cN hf.2.1 hx.2.1 (by omega), cN hf.2.2.1 hx.2.2.1 (by omega), cN hf.2.2.2.2.2.2.2.2 hx.2.2.2.2.2.2.2 (by omega)]
theorem rtQu (q : Qu) (hf : fQu q) (hx : xQu q = false) (t : List UInt8) : rQu ⟨eQu q ++ t, false, false⟩ = (q, ⟨t, false, false⟩) := by
 unfold fQu at hf
 unfold xQu at hx
 simp only [Bool.or_eq_false_iff] at hx
 unfold rQu eQu
 simp only [List.append_assoc]
 rw [rtM q.a hf.1]
 try dsimp only
 rw [rtM q.b hf.2.1]
 try dsimp only
 rw [rtN 10080 q.long hx.1]
 try dsimp only
 rw [rtN 1440 q.grid hx.2.1]
 try dsimp only
 rw [rtRow 64 q.must (by omega) hx.2.2.1 hf.2.2.2.2.1 rtMu]
 try dsimp only
 rw [rtRow 16 q.may (by omega) hx.2.2.2.1 hf.2.2.2.2.2.1 rtWa]
 try dsimp only
 rw [rtN 100 q.seats hx.2.2.2.2.1]
 try dsimp only
 rw [rtRow 32 q.apart (by omega) hx.2.2.2.2.2.1 hf.2.2.2.2.2.2.2.1 rtPa]
 try dsimp only
 rw [rtHs 8 q.prefer (by omega)  hf.2.2.2.2.2.2.2.2 hx.2.2.2.2.2.2]
 try dsimp only
 rw [cN hf.2.2.1 hx.1 (by omega), cN hf.2.2.2.1 hx.2.1 (by omega), cN hf.2.2.2.2.2.2.1 hx.2.2.2.2.1 (by omega)]
theorem rtPo (p : Po) (hf : fPo p) (hx : xPo p = false) (t : List UInt8) : rPo ⟨ePo p ++ t, false, false⟩ = (p, ⟨t, false, false⟩) := by
 unfold fPo at hf
 unfold xPo at hx
 simp only [Bool.or_eq_false_iff] at hx
 unfold rPo ePo
 simp only [List.append_assoc]
 rw [rtD 4294967295 p.id (by omega) hf.1]
 try dsimp only
 rw [rtD 4294967295 p.owner (by omega) hf.2.1]
 try dsimp only
 rw [rtQu p.qu  hf.2.2.1 hx.1]
 try dsimp only
 rw [rtRow 40 p.slots (by omega) hx.2.1 hf.2.2.2.1 rtTs]
 try dsimp only
 rw [rtRow 4096 p.votes (by omega) hx.2.2.1 hf.2.2.2.2.1 rtVo]
 try dsimp only
 rw [rtM p.til hf.2.2.2.2.2.1]
 try dsimp only
 rw [rtN 4 p.state hx.2.2.2.1]
 try dsimp only
 rw [rtN 40 p.winner hx.2.2.2.2]
 try dsimp only
 rw [uI_id hf.1.1 (by have := hf.1.2; omega), uI_id hf.2.1.1 (by have := hf.2.1.2; omega), cN hf.2.2.2.2.2.2.1 hx.2.2.2.1 (by omega), cN hf.2.2.2.2.2.2.2 hx.2.2.2.2 (by omega)]
end Go.Proofs.YtapennlmboabeaaGreat

namespace Go.Proofs.YtapennlmboabeaaGreat
open Go Go.Vi
def pl (e : Ev) : Ev := if e.again = true then { e with world := false } else ⟨e.start, e.long, e.world, false, Ru0, [], [], []⟩
theorem rtEv (e : Ev) (hf : fEv e) (hx : xEv e = false) (t : List UInt8) : rEv ⟨eEv e ++ t, false, false⟩ = (pl e, ⟨t, false, false⟩) := by
 unfold xEv at hx
 unfold eEv pl
 cases ha : e.again
 ·replace hf := hf.1
  rw [if_neg (by rw [ha]; simp)] at hx
  rw [if_neg (by simp), if_neg (by simp)]
  unfold fE0 at hf
  unfold xE0 at hx
  unfold rEv eE0
  simp only [List.append_assoc]
  rw [rtM e.start hf.1]
  try dsimp only
  rw [rtN 10080 e.long hx]
  try dsimp only
  rw [rtF e.again]
  try dsimp only
  rw [ha]
  simp only [Bool.false_eq_true, reduceIte]
  unfold rEvF
  rw [rtF e.world]
  try dsimp only
  rw [cN hf.2.1 hx (by omega)]
 ·replace hf := hf.2
  rw [if_pos ha] at hx
  rw [if_pos rfl , if_pos rfl]
  unfold fE1 at hf
  unfold xE1 at hx
  simp only [Bool.or_eq_false_iff] at hx
  unfold rEv eE1
  simp only [List.append_assoc]
  rw [rtM e.start hf.1]
  try dsimp only
  rw [rtN 10080 e.long hx.1]
  try dsimp only
  rw [rtF e.again]
  try dsimp only
  rw [ha]
  simp only [Bool.false_eq_true, reduceIte]
  unfold rEvT
  rw [rtRu e.rule  hf.2.2.2.1 hx.2.1]
  try dsimp only
  rw [rtRow 50 e.ex (by omega) hx.2.2.1 hf.2.2.2.2.1 rtEx]
  try dsimp only
  rw [rtRow 50 e.plus (by omega) hx.2.2.2.1 hf.2.2.2.2.2.1 rtPl]
  try dsimp only
  rw [rtRow 50 e.ch (by omega) hx.2.2.2.2 hf.2.2.2.2.2.2 rtCh]
  try dsimp only
  rw [cN hf.2.1 hx.1 (by omega)]
end Go.Proofs.YtapennlmboabeaaGreat

namespace Go.Proofs.YtapennlmboabeaaGreat
open Go Go.Vi
theorem pl_fits {e : Ev} (h : e.fits) : (pl e).fits := by
 unfold pl
 split
 ·exact h
 ·simp [Ev.fits, Ru.fits]
end Go.Proofs.YtapennlmboabeaaGreat
