import Derived.Test.YtgefljdclekadaaGreatWMH
import Derived.Test.YtgefljdclekadaaGreatVi25
import Derived.Test.YtgefljdclekadaaGreatWMG
import Derived.Test.YtgefljdclekadaaGreatWMC
set_option linter.unusedVariables false
set_option linter.unusedSimpArgs false
namespace Go.Proofs.YtgefljdclekadaaGreat
open Go Go.Vi
theorem mG (most : Nat) (l : List UInt8) (bad : Bool) (hl : l.length ≤ 1099511627776) (hm : most ≤ 1099511627776) (ok : Bool) (hok : ok = (!bad && decide (l.length ≤ most))) :
  az Tryz.prog 21 [.ptr 0 0 0 1, .int .i64 most] [Cw 1 bad, Ww 2 l.length, ba true 1 true (r8 l)] (if ok = true then .tup [.list none false (r8 l), .bool true] else .tup [.list (some true) true [], .bool false])
   [Cw 1 bad, Ww 2 l.length, ba true 1 true (r8 l)] := by
 refine aS Tryz.func21 low21 (by simp [c21]) ?_
 simp only [c21]
 have hb := vP l hl
 cases bad
 ·by_cases hg : most < l.length
  ·have e : ok = false := by rw [hok]; simp; omega
   have c1 : ((l.length : Int) > (most : Int)) = True := by simp; omega
   subst e
   simp only [zS, reduceIte]
   repeat' ((first | apply ah | apply al | apply ai | apply af | apply ab | apply ak mixed | (with_reducible first | refine au ?_ | refine aB (f := .c (.fn 61 [])) ?_ | refine ar ?_ | refine am (hb) (by simp) ?_) | ((first | refine aj ?_ ?_ | refine aa ?_ ?_) <;> intro hc <;> (try simp only [hc]) <;> try simp at hc) | (with_reducible refine ⟨?_, ?_⟩; (focus ((repeat' with_reducible refine ⟨?_, ?_⟩) <;> first | exact trivial | assumption | (simp; done) | (simp only [zA] at *; omega) | omega | (simp [fs]; done) | exact ax))) | (with_reducible intro x hx) | omega) <;> (try simp only [Wr, be, c1, Nat.reduceBEq, reduceIte, Nat.reduceEqDiff, Nat.reduceAdd, Nat.reduceSub, reduceCtorEq, cond_false, fw, fd]))
   refine ay [0, 1, 2] (by rfl) (by simp) (by simp [fg])
  ·have e : ok = true := by rw [hok]; simp; omega
   have c1 : ((l.length : Int) > (most : Int)) = False := by simp; omega
   subst e
   simp only [reduceIte]
   repeat' ((first | apply ah | apply al | apply ai | apply af | apply ab | apply ak mixed | (with_reducible first | refine au ?_ | refine aB (f := .c (.fn 61 [])) ?_ | refine ar ?_ | refine am (hb) (by simp) ?_) | ((first | refine aj ?_ ?_ | refine aa ?_ ?_) <;> intro hc <;> (try simp only [hc]) <;> try simp at hc) | (with_reducible refine ⟨?_, ?_⟩; (focus ((repeat' with_reducible refine ⟨?_, ?_⟩) <;> first | exact trivial | assumption | (simp; done) | (simp only [zA] at *; omega) | omega | (simp [fs]; done) | exact ax))) | (with_reducible intro x hx) | omega) <;> (try simp only [Wr, be, c1, Nat.reduceBEq, reduceIte, Nat.reduceEqDiff, Nat.reduceAdd, Nat.reduceSub, reduceCtorEq, cond_false, fw, fd]))
   refine ay [0, 1, 2] (by rfl) (by simp) (by simp [fg])
 ·have e : ok = false := by rw [hok]; simp
  subst e
  simp only [zS, reduceIte]
  repeat' ((first | apply ah | apply al | apply ai | apply af | apply ab | apply ak mixed | (with_reducible first | refine au ?_ | refine aB (f := .c (.fn 61 [])) ?_ | refine ar ?_ | refine am (hb) (by simp) ?_) | ((first | refine aj ?_ ?_ | refine aa ?_ ?_) <;> intro hc <;> (try simp only [hc]) <;> try simp at hc) | (with_reducible refine ⟨?_, ?_⟩; (focus ((repeat' with_reducible refine ⟨?_, ?_⟩) <;> first | exact trivial | assumption | (simp; done) | (simp only [zA] at *; omega) | omega | (simp [fs]; done) | exact ax))) | (with_reducible intro x hx) | omega) <;> (try simp only [Wr, Nat.reduceBEq, reduceIte, Nat.reduceEqDiff, Nat.reduceAdd, Nat.reduceSub, reduceCtorEq, cond_true, fw, fd]))
  refine ay [0, 1, 2] (by rfl) (by simp) (by simp [fg])
theorem uB (most : Nat) (b l : List UInt8) (rb cb : Bool) (hb : b.length ≤ 1099511627776) (hm : most ≤ 1099511627776) :
  az Tryz.prog 31 [.ptr 0 0 0 1, .list none false (r8 b), .int .i64 most] [Cr 1 cb, Rd l rb] (.bool (!cb && (!rb && l.isEmpty) && decide (b.length ≤ most)))
   [Cr 1 cb, Rd l rb] := by
 refine aS Tryz.func31 low31 (by simp [c31]) ?_
 simp only [c31]
 have he := end_p l rb
 generalize (!rb && l.isEmpty) = x at he ⊢
 cases cb
 ·cases x
  ·repeat' ((first | apply ah | apply ai | apply af | apply ak mixed | (with_reducible first | refine au ?_ | refine ar ?_) | refine ae (he) ?_ ?_ | (refine aj ?_ ?_ <;> intro hc <;> (try simp only [hc]) <;> try simp at hc) | (with_reducible refine ⟨?_, ?_⟩; (focus ((repeat' with_reducible refine ⟨?_, ?_⟩) <;> first | exact trivial | assumption | (simp; done) | (simp only [zA] at *; omega) | omega | (simp [fs]; done) | exact ax))) | (with_reducible intro x hx) | omega) <;> (try simp only [Nat.reduceBEq, reduceIte, Nat.reduceAdd, cond_true, cond_false, fw, fd]))
   refine ay [0, 1] (by rfl) (by simp) (by simp [fg])
  ·by_cases hg : b.length ≤ most
   ·have e : decide (b.length ≤ most) = true := by simpa using hg
    have c1 : ((b.length : Int) ≤ (most : Int)) = True := by simp; omega
    rw [e]
    repeat' ((first | apply ah | apply ai | apply af | apply ak mixed | (with_reducible first | refine au ?_ | refine ar ?_) | refine ae (he) ?_ ?_ | (refine aj ?_ ?_ <;> intro hc <;> (try simp only [hc]) <;> try simp at hc) | (with_reducible refine ⟨?_, ?_⟩; (focus ((repeat' with_reducible refine ⟨?_, ?_⟩) <;> first | exact trivial | assumption | (simp; done) | (simp only [zA] at *; omega) | omega | (simp [fs]; done) | exact ax))) | (with_reducible intro x hx) | omega) <;> (try simp only [be, c1, Nat.reduceBEq, reduceIte, Nat.reduceAdd, cond_true, fw, fd]))
    refine ay [0, 1] (by rfl) (by simp) (by simp [fg])
   ·have e : decide (b.length ≤ most) = false := by simpa using hg
    have c1 : ((b.length : Int) ≤ (most : Int)) = False := by simp; omega
    rw [e]
    repeat' ((first | apply ah | apply ai | apply af | apply ak mixed | (with_reducible first | refine au ?_ | refine ar ?_) | refine ae (he) ?_ ?_ | (refine aj ?_ ?_ <;> intro hc <;> (try simp only [hc]) <;> try simp at hc) | (with_reducible refine ⟨?_, ?_⟩; (focus ((repeat' with_reducible refine ⟨?_, ?_⟩) <;> first | exact trivial | assumption | (simp; done) | (simp only [zA] at *; omega) | omega | (simp [fs]; done) | exact ax))) | (with_reducible intro x hx) | omega) <;> (try simp only [be, c1, Nat.reduceBEq, reduceIte, Nat.reduceAdd, cond_true, fw, fd]))
    refine ay [0, 1] (by rfl) (by simp) (by simp [fg])
 ·repeat' ((first | apply ah | apply ai | apply af | apply ak mixed | (with_reducible first | refine au ?_ | refine ar ?_) | refine ae (he) ?_ ?_ | (refine aj ?_ ?_ <;> intro hc <;> (try simp only [hc]) <;> try simp at hc) | (with_reducible refine ⟨?_, ?_⟩; (focus ((repeat' with_reducible refine ⟨?_, ?_⟩) <;> first | exact trivial | assumption | (simp; done) | (simp only [zA] at *; omega) | omega | (simp [fs]; done) | exact ax))) | (with_reducible intro x hx) | omega) <;> (try simp only [Nat.reduceBEq, Nat.reduceAdd, cond_false, fw, fd]))
  refine ay [0, 1] (by rfl) (by simp) (by simp [fg])
end Go.Proofs.YtgefljdclekadaaGreat

namespace Go.Proofs.YtgefljdclekadaaGreat
open Go Go.Vi
theorem zl (m k : Nat) (hk : k < 18446744073709551616) (hm : k ≤ m) (t : List UInt8) (c : Bool) : aN m ⟨bl k ++ t, false, c⟩ = (k, ⟨t, false, c⟩) := by
 unfold aN dc
 simp only [zS, reduceIte]
 rw [iO m k t hk hm]
theorem lz (m : Nat) (x : Int) (hx : decide (m < uI x) = false) (t : List UInt8) : aN m ⟨bl (uI x) ++ t, false, false⟩ = (uI x, ⟨t, false, false⟩) :=
 zl m _ (cy x) (by simpa using hx) t false
theorem cN {m : Nat} {x : Int} (hf : dv x) (hx : decide (m < uI x) = false) (hm : m < 9223372036854775808) : ((uI x : Nat) : Int) = x := by
 have h1 : uI x ≤ m := by simpa using hx
 obtain ⟨a, b⟩ := hf
 unfold uI at h1 ⊢
 omega
theorem sy (m : Nat) (x : Int) (hm : m ≤ 18446744073709551615) (hf : 0 ≤ x ∧ x ≤ m) (t : List UInt8) : aN m ⟨bl (uI x) ++ t, false, false⟩ = (uI x, ⟨t, false, false⟩) :=
 zl m _ (cy x) (by have := dX hf.1 (by omega); omega) t false
theorem sA (x : Int) (hf : dv x) (t : List UInt8) : cB ⟨bl (zz x) ++ t, false, false⟩ = (x, ⟨t, false, false⟩) := by
 have h := fu hf.1 hf.2
 unfold cB dc
 simp only [zS, reduceIte]
 rw [iO 18446744073709551615 (zz x) t h (by omega)]
 dsimp only
 rw [rF]
theorem rtS (lo hi x : Int) (hf : dv x) (hx : decide (x < lo ∨ hi < x) = false) (t : List UInt8) : ik lo hi ⟨bl (zz x) ++ t, false, false⟩ = (x, ⟨t, false, false⟩) := by
 have h := fu hf.1 hf.2
 unfold ik dc
 simp only [zS, reduceIte]
 rw [iO 18446744073709551615 (zz x) t h (by omega)]
 dsimp only
 rw [rF, hx]
 rfl
theorem rtF (b : Bool) (t : List UInt8) : nv ⟨mZ b ++ t, false, false⟩ = (b, ⟨t, false, false⟩) := by
 unfold nv dc mZ
 simp only [zS, reduceIte]
 cases b
 ·have := iO 1 0 t (by omega) (by omega)
  rw [ci (by omega)] at this
  simp only [zS, reduceIte]
  rw [show ([0] : List UInt8) = [UInt8.ofNat 0] from rfl, this]
  rfl
 ·have := iO 1 1 t (by omega) (by omega)
  rw [ci (by omega)] at this
  simp only [reduceIte]
  rw [show ([1] : List UInt8) = [UInt8.ofNat 1] from rfl, this]
  rfl
theorem rtGo {α : Type} {re : Rs → α × Rs} {e : α → List UInt8} : ∀ (l : List α) (a : List α) (t : List UInt8), (∀ y ∈ l, ∀ u, re ⟨e y ++ u, false, false⟩ = (y, ⟨u, false, false⟩)) → dz re l.length ⟨l.flatMap e ++ t, false, false⟩ a = (a ++ l, ⟨t, false, false⟩)
 | [], a, t, _ => by simp [dz]
 | y :: l, a, t, h => by
  have h1 := h y (List.mem_cons_self) (l.flatMap e ++ t)
  rw [List.flatMap_cons, zJ, zK, dz, h1]
  dsimp only
  rw [if_neg (by simp), rtGo l _ t (fun z hz => h z (List.mem_cons_of_mem _ hz)), zJ]
  rfl
theorem ft {α : Type} {re : Rs → α × Rs} {e : α → List UInt8} {x : α → Bool} {f : α → Prop} (most : Nat) (l : List α) (hm : most < 18446744073709551616) (hx : bn x most l = false) (hf : l.length ≤ 140737488351232 ∧ ∀ y ∈ l, f y) (h : ∀ y, f y → x y = false → ∀ u, re ⟨e y ++ u, false, false⟩ = (y, ⟨u, false, false⟩)) (t : List UInt8) :
  aG re most ⟨aY e l ++ t, false, false⟩ = (l, ⟨t, false, false⟩) := by
 unfold bn at hx
 simp only [zM] at hx
 unfold aG aY
 rw [zJ, zl most l.length (by omega) (by simpa using hx.1)]
 dsimp only
 rw [rtGo l [] t (fun y hy => h y (hf.2 y hy) (by
  have := hx.2
  rw [List.any_eq_false] at this
  simpa using this y hy)), List.nil_append]
theorem rtTu (x : Int × Int) (hf : vA x) (hx : nL x = false) (t : List UInt8) : nk ⟨mV x ++ t, false, false⟩ = (x, ⟨t, false, false⟩) := by
 unfold vA at hf
 unfold nL at hx
 unfold nk mV
 simp only [zJ]
 simp only [sA x.1 hf.1]
 simp only [rtS (-900) 900 x.2 hf.2 hx]
theorem rtSh (x : Int × Int × Int) (hf : tx x) (hx : iX x = false) (t : List UInt8) : nh ⟨lR x ++ t, false, false⟩ = (x, ⟨t, false, false⟩) := by
 unfold tx at hf
 unfold iX at hx
 simp only [zM] at hx
 unfold nh lR
 simp only [zJ]
 simp only [lz 127 x.1 hx.1]
 simp only [lz 1440 x.2.1 hx.2.1]
 simp only [lz 1440 x.2.2 hx.2.2]
 rw [cN hf.1 hx.1 (by omega), cN hf.2.1 hx.2.1 (by omega), cN hf.2.2 hx.2.2 (by omega)]
theorem rtOf (x : Int) (hf : vu x) (hx : nI x = false) (t : List UInt8) : nf ⟨nP x ++ t, false, false⟩ = (x, ⟨t, false, false⟩) := by
 unfold vu at hf
 unfold nI at hx
 unfold nf nP
 simp only [lz 109937 x hx]
 rw [cN hf hx (by omega)]
theorem rtSm (x : Int) (hf : vz x) (hx : nK x = false) (t : List UInt8) : ni ⟨nQ x ++ t, false, false⟩ = (x, ⟨t, false, false⟩) := by
 unfold vz at hf
 unfold nK at hx
 unfold ni nQ
 simp only [rtS (-400) 400 x hf hx]
theorem rtDa (x : Int × Int) (hf : vp x) (hx : nG x = false) (t : List UInt8) : m9 ⟨mS x ++ t, false, false⟩ = (x, ⟨t, false, false⟩) := by
 unfold vp at hf
 unfold nG at hx
 simp only [zM] at hx
 unfold m9 mS
 simp only [zJ]
 simp only [rtS (-5) 5 x.1 hf.1 hx.1]
 simp only [lz 6 x.2 hx.2]
 rw [cN hf.2 hx.2 (by omega)]
theorem rtEx (x : Int) (hf : xE x) (hx : vF x = false) (t : List UInt8) : my ⟨pg x ++ t, false, false⟩ = (x, ⟨t, false, false⟩) := by
 unfold xE at hf
 unfold vF at hx
 unfold my pg
 simp only [sA x hf]
theorem rtPl (x : Int) (hf : xF x) (hx : vG x = false) (t : List UInt8) : mz ⟨ph x ++ t, false, false⟩ = (x, ⟨t, false, false⟩) := by
 unfold xF at hf
 unfold vG at hx
 unfold mz ph
 simp only [sA x hf]
theorem rtCh (x : Int × Int × Int) (hf : vo x) (hx : nF x = false) (t : List UInt8) : mv ⟨mR x ++ t, false, false⟩ = (x, ⟨t, false, false⟩) := by
 unfold vo at hf
 unfold nF at hx
 unfold mv mR
 simp only [zJ]
 simp only [sA x.1 hf.1]
 simp only [sA x.2.1 hf.2.1]
 simp only [lz 10080 x.2.2 hx]
 rw [cN hf.2.2 hx (by omega)]
theorem rtMu (x : Int) (hf : vt x) (hx : nH x = false) (t : List UInt8) : ne ⟨nO x ++ t, false, false⟩ = (x, ⟨t, false, false⟩) := by
 unfold vt at hf
 unfold nH at hx
 unfold ne nO
 simp only [sy 4294967295 x (by omega) hf]
 rw [dX hf.1 (by have := hf.2; omega)]
theorem rtWa (x : Int × Int) (hf : vC x) (hx : nN x = false) (t : List UInt8) : nq ⟨mX x ++ t, false, false⟩ = (x, ⟨t, false, false⟩) := by
 unfold vC at hf
 unfold nN at hx
 unfold nq mX
 simp only [zJ]
 simp only [sy 4294967295 x.1 (by omega) hf.1]
 simp only [lz 1000 x.2 hx]
 rw [dX hf.1.1 (by have := hf.1.2; omega), cN hf.2 hx (by omega)]
theorem rtPa (x : Int × Int) (hf : vv x) (hx : nJ x = false) (t : List UInt8) : ng ⟨mT x ++ t, false, false⟩ = (x, ⟨t, false, false⟩) := by
 unfold vv at hf
 unfold nJ at hx
 unfold ng mT
 simp only [zJ]
 simp only [sy 4294967295 x.1 (by omega) hf.1]
 simp only [sy 4294967295 x.2 (by omega) hf.2]
 rw [dX hf.1.1 (by have := hf.1.2; omega), dX hf.2.1 (by have := hf.2.2; omega)]
theorem rtTs (x : Int) (hf : xG x) (hx : pe x = false) (t : List UInt8) : nj ⟨pm x ++ t, false, false⟩ = (x, ⟨t, false, false⟩) := by
 unfold xG at hf
 unfold pe at hx
 unfold nj pm
 simp only [sA x hf]
theorem rtVo (x : Int × Int) (hf : vB x) (hx : nM x = false) (t : List UInt8) : np ⟨mW x ++ t, false, false⟩ = (x, ⟨t, false, false⟩) := by
 unfold vB at hf
 unfold nM at hx
 unfold np mW
 simp only [zJ]
 simp only [sy 4294967295 x.1 (by omega) hf.1]
 simp only [lz 40 x.2 hx]
 rw [dX hf.1.1 (by have := hf.1.2; omega), cN hf.2 hx (by omega)]
theorem rtZo (b : Int) (ts : List (Int × Int)) (hf : fZo b ts) (hx : xZ b ts = false) (t : List UInt8) : nT ⟨rQ b ts ++ t, false, false⟩ = ((b, ts), ⟨t, false, false⟩) := by
 unfold fZo at hf
 unfold xZ at hx
 simp only [zM] at hx
 unfold nT rQ
 simp only [zJ]
 rw [rtS (-900) 900 b hf.1 hx.1]
 try dsimp only
 rw [ft 700 ts (by omega) hx.2 hf.2 rtTu]
 try dsimp only
theorem rtHs (most : Nat) (ss : List (Int × Int × Int)) (hm : most < 1000000) (hf : vr ss) (hx : pc most ss = false) (t : List UInt8) : kM most ⟨ke ss ++ t, false, false⟩ = (ss, ⟨t, false, false⟩) := by
 unfold vr at hf
 unfold pc at hx
 unfold kM ke
 rw [ft most ss (by omega) hx hf rtSh]
 try dsimp only
theorem rtSe (s : Se) (hf : wb s) (hx : mI s = false) (t : List UInt8) : jE ⟨pk s ++ t, false, false⟩ = (s, ⟨t, false, false⟩) := by
 unfold wb at hf
 unfold mI at hx
 simp only [zM] at hx
 unfold jE pk
 simp only [zJ]
 rw [rtZo s.base s.turns  hf.1 hx.1]
 try dsimp only
 rw [rtHs 10 s.shifts (by omega)  hf.2.1 hx.2.1]
 try dsimp only
 rw [ft 60 s.off (by omega) hx.2.2.1 hf.2.2.1 rtOf]
 try dsimp only
 rw [lz 240 s.before hx.2.2.2.1]
 try dsimp only
 rw [lz 240 s.after hx.2.2.2.2]
 try dsimp only
 rw [cN hf.2.2.2.1 hx.2.2.2.1 (by omega), cN hf.2.2.2.2 hx.2.2.2.2 (by omega)]
theorem zm (xs : List Int) (hf : wc xs) (hx : pd xs = false) (t : List UInt8) : ix ⟨mU xs ++ t, false, false⟩ = (xs, ⟨t, false, false⟩) := by
 unfold wc at hf
 unfold pd at hx
 unfold ix mU
 rw [ft 400 xs (by omega) hx hf rtSm]
 try dsimp only
theorem rtRu (r : Ru) (hf : yS r) (hx : xY r = false) (t : List UInt8) : ib ⟨qP r ++ t, false, false⟩ = (r, ⟨t, false, false⟩) := by
 unfold yS at hf
 unfold xY at hx
 simp only [zM] at hx
 unfold ib qP
 simp only [zJ]
 rw [lz 4 r.freq hx.1]
 try dsimp only
 rw [lz 999 r.interval hx.2.1]
 try dsimp only
 rw [lz 5000 r.count hx.2.2.1]
 try dsimp only
 rw [sA r.til hf.2.2.2.1]
 try dsimp only
 rw [zm r.bm  hf.2.2.2.2.1 hx.2.2.2.1]
 try dsimp only
 rw [zm r.bmd  hf.2.2.2.2.2.1 hx.2.2.2.2.1]
 try dsimp only
 rw [ft 400 r.bd (by omega) hx.2.2.2.2.2.1 hf.2.2.2.2.2.2.1 rtDa]
 try dsimp only
 rw [zm r.bsp  hf.2.2.2.2.2.2.2.1 hx.2.2.2.2.2.2.1]
 try dsimp only
 rw [lz 6 r.start hx.2.2.2.2.2.2.2]
 try dsimp only
 rw [cN hf.1 hx.1 (by omega), cN hf.2.1 hx.2.1 (by omega), cN hf.2.2.1 hx.2.2.1 (by omega), cN hf.2.2.2.2.2.2.2.2 hx.2.2.2.2.2.2.2 (by omega)]
theorem rtQu (q : Qu) (hf : vw q) (hx : vn q = false) (t : List UInt8) : ij ⟨pj q ++ t, false, false⟩ = (q, ⟨t, false, false⟩) := by
 unfold vw at hf
 unfold vn at hx
 simp only [zM] at hx
 unfold ij pj
 simp only [zJ]
 rw [sA q.a hf.1]
 try dsimp only
 rw [sA q.b hf.2.1]
 try dsimp only
 rw [lz 10080 q.long hx.1]
 try dsimp only
 rw [lz 1440 q.grid hx.2.1]
 try dsimp only
 rw [ft 64 q.must (by omega) hx.2.2.1 hf.2.2.2.2.1 rtMu]
 try dsimp only
 rw [ft 16 q.may (by omega) hx.2.2.2.1 hf.2.2.2.2.2.1 rtWa]
 try dsimp only
 rw [lz 100 q.seats hx.2.2.2.2.1]
 try dsimp only
 rw [ft 32 q.apart (by omega) hx.2.2.2.2.2.1 hf.2.2.2.2.2.2.2.1 rtPa]
 try dsimp only
 rw [rtHs 8 q.prefer (by omega)  hf.2.2.2.2.2.2.2.2 hx.2.2.2.2.2.2]
 try dsimp only
 rw [cN hf.2.2.1 hx.1 (by omega), cN hf.2.2.2.1 hx.2.1 (by omega), cN hf.2.2.2.2.2.2.1 hx.2.2.2.2.1 (by omega)]
theorem rtPo (p : Po) (hf : tw p) (hx : im p = false) (t : List UInt8) : fO ⟨gz p ++ t, false, false⟩ = (p, ⟨t, false, false⟩) := by
 unfold tw at hf
 unfold im at hx
 simp only [zM] at hx
 unfold fO gz
 simp only [zJ]
 rw [sy 4294967295 p.id (by omega) hf.1]
 try dsimp only
 rw [sy 4294967295 p.owner (by omega) hf.2.1]
 try dsimp only
 rw [rtQu p.qu  hf.2.2.1 hx.1]
 try dsimp only
 rw [ft 40 p.slots (by omega) hx.2.1 hf.2.2.2.1 rtTs]
 try dsimp only
 rw [ft 4096 p.votes (by omega) hx.2.2.1 hf.2.2.2.2.1 rtVo]
 try dsimp only
 rw [sA p.til hf.2.2.2.2.2.1]
 try dsimp only
 rw [lz 4 p.state hx.2.2.2.1]
 try dsimp only
 rw [lz 40 p.winner hx.2.2.2.2]
 try dsimp only
 rw [dX hf.1.1 (by have := hf.1.2; omega), dX hf.2.1.1 (by have := hf.2.1.2; omega), cN hf.2.2.2.2.2.2.1 hx.2.2.2.1 (by omega), cN hf.2.2.2.2.2.2.2 hx.2.2.2.2 (by omega)]
end Go.Proofs.YtgefljdclekadaaGreat

namespace Go.Proofs.YtgefljdclekadaaGreat
open Go Go.Vi
def pl (e : Ev) : Ev := if e.again = true then { e with world := false } else ⟨e.start, e.long, e.world, false, vL, [], [], []⟩
theorem rtEv (e : Ev) (hf : zw e) (hx : vE e = false) (t : List UInt8) : jJ ⟨pE e ++ t, false, false⟩ = (pl e, ⟨t, false, false⟩) := by
 unfold vE at hx
 unfold pE pl
 cases ha : e.again
 ·replace hf := hf.1
  rw [if_neg (by rw [ha]; simp)] at hx
  rw [if_neg (by simp), if_neg (by simp)]
  unfold zu at hf
  unfold xW at hx
  unfold jJ rO
  simp only [zJ]
  rw [sA e.start hf.1]
  try dsimp only
  rw [lz 10080 e.long hx]
  try dsimp only
  rw [rtF e.again]
  try dsimp only
  rw [ha]
  simp only [zS, reduceIte]
  unfold up
  rw [rtF e.world]
  try dsimp only
  rw [cN hf.2.1 hx (by omega)]
 ·replace hf := hf.2
  rw [if_pos ha] at hx
  rw [if_pos rfl , if_pos rfl]
  unfold zv at hf
  unfold xX at hx
  simp only [zM] at hx
  unfold jJ rP
  simp only [zJ]
  rw [sA e.start hf.1]
  try dsimp only
  rw [lz 10080 e.long hx.1]
  try dsimp only
  rw [rtF e.again]
  try dsimp only
  rw [ha]
  simp only [zS, reduceIte]
  unfold uq
  rw [rtRu e.rule  hf.2.2.2.1 hx.2.1]
  try dsimp only
  rw [ft 50 e.ex (by omega) hx.2.2.1 hf.2.2.2.2.1 rtEx]
  try dsimp only
  rw [ft 50 e.plus (by omega) hx.2.2.2.1 hf.2.2.2.2.2.1 rtPl]
  try dsimp only
  rw [ft 50 e.ch (by omega) hx.2.2.2.2 hf.2.2.2.2.2.2 rtCh]
  try dsimp only
  rw [cN hf.2.1 hx.1 (by omega)]
end Go.Proofs.YtgefljdclekadaaGreat

namespace Go.Proofs.YtgefljdclekadaaGreat
open Go Go.Vi
theorem wn {e : Ev} (h : e.fits) : (pl e).fits := by
 unfold pl
 split
 ·exact h
 ·simp [Ev.fits, Ru.fits]
end Go.Proofs.YtgefljdclekadaaGreat

namespace Go.Proofs.YtgefljdclekadaaGreat
open Go Go.Vi
def a5 : As := ⟨2, 5, 7, 5, 0, ⟨0, [], [], [], 0, 0⟩, ⟨0, 0, false, false, vL, [], [], []⟩, ⟨0, 0, 0, 0, [], [], 0, [], []⟩, ⟨Array.mk []⟩, 0, 0, 0, false, 0⟩
theorem eA25 : yk a5 = [2, 5, 7] := by
 unfold yk a5
 dsimp only
 rw [show uI 2 = 2 from rfl, show uI 5 = 5 from rfl, show uI 7 = 7 from rfl, ci (by omega), ci (by omega), ci (by omega)]
 rfl
theorem xK : aN 11 ⟨[2, 5, 7], false, false⟩ = (2, ⟨[5, 7], false, false⟩) := by
 have := zl 11 2 (by omega) (by omega) [5, 7] false
 rw [ci (by omega)] at this
 exact this
theorem zj : aN 4294967295 ⟨[5, 7], false, false⟩ = (5, ⟨[7], false, false⟩) := by
 have := zl 4294967295 5 (by omega) (by omega) [7] false
 rw [ci (by omega)] at this
 exact this
theorem zk : aN 18446744073709551615 ⟨[7], false, false⟩ = (7, ⟨[], false, false⟩) := by
 have := zl 18446744073709551615 7 (by omega) (by omega) [] false
 rw [ci (by omega)] at this
 exact this
theorem vO : ∃ R', R'.map fW = a5.cells ∧
  az Tryz.prog 49 [.ptr 0 0 0 1, .ptr 2 0 0 1] [Cr 1 false, Rd [2, 5, 7] false, Va 42 Z42] (.tup [])
   [Cr 1 false, Rd [] false, Va 42 R'] := by
 have h := yf ⟨[2, 5, 7], false, false⟩ (by rw [xK]) (by simp)
 rw [xK] at h
 dsimp only at h
 rw [zj] at h
 dsimp only at h
 rw [zk] at h
 exact h
theorem rW : aP Tryz.prog 50 [.list none false (r8 [2, 5, 7])] (.tup [.agg a5.cells, .bool true]) := by
 refine bf Tryz.func50 low50 (by simp [c50]) ?_
 obtain ⟨R', hm, ha⟩ := vO
 have hn := jB none false [2, 5, 7] (by simp)
 have hr := uB 65536 [2, 5, 7] [] false false (by simp) (by omega)
 have hg : (!false && (!false && ([] : List UInt8).isEmpty) && decide (([2, 5, 7] : List UInt8).length ≤ 65536)) = true := by simp
 rw [hg] at hr
 clear hg
 generalize ([2, 5, 7] : List UInt8) = b at hn ha hr ⊢
 generalize ([] : List UInt8) = l0 at ha hr
 unfold Z42 at ha
 simp only [c50, c50_18, c50_17, c50_16, c50_15]
 obtain ⟨C, hC⟩ : ∃ C, C = c50_14 := ⟨_, rfl⟩
 rw [← hC]
 repeat' ((first | apply ah | apply al | apply ai | apply af | apply ab | apply ak mixed | (with_reducible first | refine ac ?_ | refine aB (f := .c (.fn 30 [])) ?_ | refine aB (f := .c (.fn 49 [])) ?_ | refine ar ?_ | refine am (hn) (by simp) ?_ | refine am (ha) (by simp) ?_) | (refine aa ?_ ?_ <;> intro hc <;> (try simp only [hc]) <;> try simp at hc) | (with_reducible refine ⟨?_, ?_⟩; (focus ((repeat' with_reducible refine ⟨?_, ?_⟩) <;> first | exact trivial | assumption | (simp; done) | (simp only [zA] at *; omega) | omega | (simp [fs]; done) | exact ax))) | (with_reducible intro x hx) | omega) <;> (try simp only [Nat.reduceBEq, reduceIte, Nat.reduceEqDiff, Nat.reduceAdd, Nat.reduceSub, Nat.reduceLT, Nat.reduceLeDiff, reduceCtorEq, ne_eq, fw, fd]))
 refine ye 3 a5.cells rfl rfl rfl rfl hm ?_
 subst hC
 clear ha hm hn
 generalize a5 = v
 simp only [List.set_cons_zero, List.set_cons_succ, As.cells]
 repeat' ((first | apply ah | apply al | apply ai | apply af | apply ab | apply ak mixed | (with_reducible first | refine ac ?_ | refine aB (f := .c (.fn 31 [])) ?_ | refine ar ?_ | refine am (hr) (by simp) ?_) | (refine aa ?_ ?_ <;> intro hc <;> (try simp only [hc]) <;> try simp at hc) | (with_reducible refine ⟨?_, ?_⟩; (focus ((repeat' with_reducible refine ⟨?_, ?_⟩) <;> first | exact trivial | assumption | (simp; done) | (simp only [zA] at *; omega) | omega | (simp [fs]; done) | exact ax))) | (with_reducible intro x hx) | omega) <;> (try simp only [Nat.reduceBEq, reduceIte, Nat.reduceEqDiff, Nat.reduceAdd, Nat.reduceSub, reduceCtorEq, fw, fd]))
theorem sn : aP Tryz.prog 18 [.agg a5.cells] (.tup [.list none false (r8 [2, 5, 7]), .bool true]) := by
 refine bf Tryz.func18 low18 (by simp [c18]) ?_
 simp only [c18]
 have h1 := jC
 have h2 := cA2_w [] false 42 a5.cells 0 a5 rfl rfl rfl rfl (by simp [fA2, a5, dv]) (by rw [eA25]; simp)
 have hx : xA2 a5 = false := rfl
 rw [hx, eA25] at h2
 simp only [List.nil_append, Bool.false_or, zL] at h2
 have h3 := mG 65536 [2, 5, 7] false (by simp) (by omega) true (by simp)
 have h4 := rW
 have h5 := wt a5 a5 (by simp [As.fits, a5, Se.fits, Ev.fits, Qu.fits, Ru.fits]) (by simp [As.fits, a5, Se.fits, Ev.fits, Qu.fits, Ru.fits])
 simp only [reduceIte, decide_true] at h3 h5
 generalize ([2, 5, 7] : List UInt8) = b at h2 h3 h4 ⊢
 generalize a5 = v at h2 h4 h5 ⊢
 unfold As.cells at h2 h4 h5 ⊢
 clear hx
 repeat' ((first | apply ah | apply al | apply ai | apply af | apply ab | apply ak mixed | (with_reducible first | refine ac ?_ | refine aB (f := .c (.fn 19 [])) ?_ | refine aB (f := .c (.fn 49 [])) ?_ | refine aB (f := .c (.fn 21 [])) ?_ | refine ar ?_ | refine am (h1) (by simp) ?_ | refine am (h2) (by simp) ?_ | refine am (h3) (by simp) ?_) | refine ae (h4) ?_ ?_ | refine ae (h5) ?_ ?_ | ((first | refine aj ?_ ?_ | refine aa ?_ ?_) <;> intro hc <;> (try simp only [hc]) <;> try simp at hc) | (with_reducible refine ⟨?_, ?_⟩; (focus ((repeat' with_reducible refine ⟨?_, ?_⟩) <;> first | exact trivial | assumption | (simp; done) | (simp only [zA] at *; omega) | omega | (simp [fs]; done) | exact ax))) | (with_reducible intro x hx) | omega) <;> (try simp only [Wr, Nat.reduceBEq, reduceIte, Nat.reduceEqDiff, Nat.reduceAdd, Nat.reduceSub, Nat.reduceLT, Nat.reduceLeDiff, reduceCtorEq, cond_false, ne_eq, fw, fd]))
end Go.Proofs.YtgefljdclekadaaGreat

namespace Go.Proofs.YtgefljdclekadaaGreat
open Go Go.Vi
theorem wd : aP Tryz.prog 6 [] (.bool true) := by
 refine bf Tryz.func6 low6 (by simp [c6]) ?_
 simp only [c6]
 have h := sn
 simp only [As.cells, a5, aJ, aV, bo, List.map_nil] at h
 have hs : (bs [2, 5, 7] == bs [UInt8.ofNat 2, UInt8.ofNat 5, UInt8.ofNat 7]) = true := by rfl
 repeat' ((first | apply ah | apply ai | apply af | apply ak mixed | (with_reducible first | refine ac ?_ | refine ar ?_) | refine ae (h) ?_ ?_ | (refine aj ?_ ?_ <;> intro hc <;> (try simp only [hc]) <;> try simp at hc) | (with_reducible refine ⟨?_, ?_⟩; (focus ((repeat' with_reducible refine ⟨?_, ?_⟩) <;> first | exact trivial | assumption | (simp; done) | (simp only [zA] at *; omega) | omega | (simp [fs]; done) | exact ax))) | (with_reducible intro x hx) | omega) <;> (try simp only [j9, ce, hs, Nat.reduceBEq, reduceIte, Nat.reduceAdd, Nat.reduceLeDiff, cond_true, fw, fd]))
end Go.Proofs.YtgefljdclekadaaGreat
