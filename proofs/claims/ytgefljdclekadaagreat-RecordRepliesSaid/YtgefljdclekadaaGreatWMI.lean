import Derived.Test.YtgefljdclekadaaGreatWMH
import Derived.Test.YtgefljdclekadaaGreatVi25
import Derived.Test.YtgefljdclekadaaGreatWMG
import Derived.Test.YtgefljdclekadaaGreatWMC
set_option linter.unusedVariables false
set_option linter.unusedSimpArgs false
set_option linter.unnecessarySimpa false
namespace Go.Proofs.YtgefljdclekadaaGreat
open Go Go.Vi



theorem written_p (most : Nat) (l : List UInt8) (bad : Bool) (hl : l.length ≤ 1099511627776) (hm : most ≤ 1099511627776) (ok : Bool) (hok : ok = (!bad && decide (l.length ≤ most))) :
  CallG Tryz.prog 21 [.ptr 0 0 0 1, .int .i64 most] [Cw 1 bad, Ww 2 l.length, acc true 1 true (r8 l)] (if ok = true then .tup [.list none false (r8 l), .bool true] else .tup [.list (some true) true [], .bool false])
   [Cw 1 bad, Ww 2 l.length, acc true 1 true (r8 l)] := by
 refine callG Tryz.func21 low21 (by simp [c21]) ?_
 simp only [c21]
 have hb := bytes_p l hl
 cases bad
 ·by_cases hg : most < l.length
  ·have e : ok = false := by rw [hok]; simp; omega
   have c1 : ((l.length : Int) > (most : Int)) = True := by simp; omega
   subst e
   simp only [Bool.false_eq_true, reduceIte]
   repeat' ((first | apply Run_seq | apply Run_skip | apply Run_ret | apply Run_nil | apply Run_condK | apply Run_ops mixed | (with_reducible first | refine PostG_open ?_ | refine ro_callA' (f := .c (.fn 61 [])) ?_ | refine ro_callV ?_ | refine CallE_use (hb) (by simp) ?_) | ((first | refine GuardK_split ?_ ?_ | refine CondK_split ?_ ?_) <;> intro hc <;> (try simp only [hc]) <;> try simp at hc) | (with_reducible refine ⟨?_, ?_⟩; (focus ((repeat' with_reducible refine ⟨?_, ?_⟩) <;> first | exact trivial | assumption | (simp; done) | (simp only [List.length_map] at *; omega) | omega | (simp [fs]; done) | exact r8_sz))) | (with_reducible intro x hx) | omega) <;> (try simp only [Wr, r8_len, c1, Nat.reduceBEq, reduceIte, Nat.reduceEqDiff, Nat.reduceAdd, Nat.reduceSub, reduceCtorEq, cond_false, fw, fd]))
   refine GcTo_own [0, 1, 2] (by rfl) (by simp) (by simp [fg])
  ·have e : ok = true := by rw [hok]; simp; omega
   have c1 : ((l.length : Int) > (most : Int)) = False := by simp; omega
   subst e
   simp only [reduceIte]
   repeat' ((first | apply Run_seq | apply Run_skip | apply Run_ret | apply Run_nil | apply Run_condK | apply Run_ops mixed | (with_reducible first | refine PostG_open ?_ | refine ro_callA' (f := .c (.fn 61 [])) ?_ | refine ro_callV ?_ | refine CallE_use (hb) (by simp) ?_) | ((first | refine GuardK_split ?_ ?_ | refine CondK_split ?_ ?_) <;> intro hc <;> (try simp only [hc]) <;> try simp at hc) | (with_reducible refine ⟨?_, ?_⟩; (focus ((repeat' with_reducible refine ⟨?_, ?_⟩) <;> first | exact trivial | assumption | (simp; done) | (simp only [List.length_map] at *; omega) | omega | (simp [fs]; done) | exact r8_sz))) | (with_reducible intro x hx) | omega) <;> (try simp only [Wr, r8_len, c1, Nat.reduceBEq, reduceIte, Nat.reduceEqDiff, Nat.reduceAdd, Nat.reduceSub, reduceCtorEq, cond_false, fw, fd]))
   refine GcTo_own [0, 1, 2] (by rfl) (by simp) (by simp [fg])
 ·have e : ok = false := by rw [hok]; simp
  subst e
  simp only [Bool.false_eq_true, reduceIte]
  repeat' ((first | apply Run_seq | apply Run_skip | apply Run_ret | apply Run_nil | apply Run_condK | apply Run_ops mixed | (with_reducible first | refine PostG_open ?_ | refine ro_callA' (f := .c (.fn 61 [])) ?_ | refine ro_callV ?_ | refine CallE_use (hb) (by simp) ?_) | ((first | refine GuardK_split ?_ ?_ | refine CondK_split ?_ ?_) <;> intro hc <;> (try simp only [hc]) <;> try simp at hc) | (with_reducible refine ⟨?_, ?_⟩; (focus ((repeat' with_reducible refine ⟨?_, ?_⟩) <;> first | exact trivial | assumption | (simp; done) | (simp only [List.length_map] at *; omega) | omega | (simp [fs]; done) | exact r8_sz))) | (with_reducible intro x hx) | omega) <;> (try simp only [Wr, Nat.reduceBEq, reduceIte, Nat.reduceEqDiff, Nat.reduceAdd, Nat.reduceSub, reduceCtorEq, cond_true, fw, fd]))
  refine GcTo_own [0, 1, 2] (by rfl) (by simp) (by simp [fg])
theorem read_p (most : Nat) (b l : List UInt8) (rb cb : Bool) (hb : b.length ≤ 1099511627776) (hm : most ≤ 1099511627776) :
  CallG Tryz.prog 31 [.ptr 0 0 0 1, .list none false (r8 b), .int .i64 most] [Cr 1 cb, Rd l rb] (.bool (!cb && (!rb && l.isEmpty) && decide (b.length ≤ most)))
   [Cr 1 cb, Rd l rb] := by
 refine callG Tryz.func31 low31 (by simp [c31]) ?_
 simp only [c31]
 have he := end_p l rb
 generalize (!rb && l.isEmpty) = x at he ⊢
 cases cb
 ·cases x
  ·repeat' ((first | apply Run_seq | apply Run_ret | apply Run_nil | apply Run_ops mixed | (with_reducible first | refine PostG_open ?_ | refine ro_callV ?_) | refine CallV_pure (he) ?_ ?_ | (refine GuardK_split ?_ ?_ <;> intro hc <;> (try simp only [hc]) <;> try simp at hc) | (with_reducible refine ⟨?_, ?_⟩; (focus ((repeat' with_reducible refine ⟨?_, ?_⟩) <;> first | exact trivial | assumption | (simp; done) | (simp only [List.length_map] at *; omega) | omega | (simp [fs]; done) | exact r8_sz))) | (with_reducible intro x hx) | omega) <;> (try simp only [Nat.reduceBEq, reduceIte, Nat.reduceAdd, cond_true, cond_false, fw, fd]))
   refine GcTo_own [0, 1] (by rfl) (by simp) (by simp [fg])
  ·by_cases hg : b.length ≤ most
   ·have e : decide (b.length ≤ most) = true := by simpa using hg
    have c1 : ((b.length : Int) ≤ (most : Int)) = True := by simp; omega
    rw [e]
    repeat' ((first | apply Run_seq | apply Run_ret | apply Run_nil | apply Run_ops mixed | (with_reducible first | refine PostG_open ?_ | refine ro_callV ?_) | refine CallV_pure (he) ?_ ?_ | (refine GuardK_split ?_ ?_ <;> intro hc <;> (try simp only [hc]) <;> try simp at hc) | (with_reducible refine ⟨?_, ?_⟩; (focus ((repeat' with_reducible refine ⟨?_, ?_⟩) <;> first | exact trivial | assumption | (simp; done) | (simp only [List.length_map] at *; omega) | omega | (simp [fs]; done) | exact r8_sz))) | (with_reducible intro x hx) | omega) <;> (try simp only [r8_len, c1, Nat.reduceBEq, reduceIte, Nat.reduceAdd, cond_true, fw, fd]))
    refine GcTo_own [0, 1] (by rfl) (by simp) (by simp [fg])
   ·have e : decide (b.length ≤ most) = false := by simpa using hg
    have c1 : ((b.length : Int) ≤ (most : Int)) = False := by simp; omega
    rw [e]
    repeat' ((first | apply Run_seq | apply Run_ret | apply Run_nil | apply Run_ops mixed | (with_reducible first | refine PostG_open ?_ | refine ro_callV ?_) | refine CallV_pure (he) ?_ ?_ | (refine GuardK_split ?_ ?_ <;> intro hc <;> (try simp only [hc]) <;> try simp at hc) | (with_reducible refine ⟨?_, ?_⟩; (focus ((repeat' with_reducible refine ⟨?_, ?_⟩) <;> first | exact trivial | assumption | (simp; done) | (simp only [List.length_map] at *; omega) | omega | (simp [fs]; done) | exact r8_sz))) | (with_reducible intro x hx) | omega) <;> (try simp only [r8_len, c1, Nat.reduceBEq, reduceIte, Nat.reduceAdd, cond_true, fw, fd]))
    refine GcTo_own [0, 1] (by rfl) (by simp) (by simp [fg])
 ·repeat' ((first | apply Run_seq | apply Run_ret | apply Run_nil | apply Run_ops mixed | (with_reducible first | refine PostG_open ?_ | refine ro_callV ?_) | refine CallV_pure (he) ?_ ?_ | (refine GuardK_split ?_ ?_ <;> intro hc <;> (try simp only [hc]) <;> try simp at hc) | (with_reducible refine ⟨?_, ?_⟩; (focus ((repeat' with_reducible refine ⟨?_, ?_⟩) <;> first | exact trivial | assumption | (simp; done) | (simp only [List.length_map] at *; omega) | omega | (simp [fs]; done) | exact r8_sz))) | (with_reducible intro x hx) | omega) <;> (try simp only [Nat.reduceBEq, Nat.reduceAdd, cond_false, fw, fd]))
  refine GcTo_own [0, 1] (by rfl) (by simp) (by simp [fg])
end Go.Proofs.YtgefljdclekadaaGreat

namespace Go.Proofs.YtgefljdclekadaaGreat
open Go Go.Vi

theorem rtK (m k : Nat) (hk : k < 18446744073709551616) (hm : k ≤ m) (t : List UInt8) (c : Bool) : rqN m ⟨num k ++ t, false, c⟩ = (k, ⟨t, false, c⟩) := by
 unfold rqN rdN
 simp only [Bool.false_eq_true, reduceIte]
 rw [rd_num0 m k t hk hm]
theorem rtN (m : Nat) (x : Int) (hx : decide (m < uI x) = false) (t : List UInt8) : rqN m ⟨num (uI x) ++ t, false, false⟩ = (uI x, ⟨t, false, false⟩) :=
 rtK m _ (uI_lt x) (by simpa using hx) t false
theorem cN {m : Nat} {x : Int} (hf : Fit x) (hx : decide (m < uI x) = false) (hm : m < 9223372036854775808) : ((uI x : Nat) : Int) = x := by
 have h1 : uI x ≤ m := by simpa using hx
 obtain ⟨a, b⟩ := hf
 unfold uI at h1 ⊢
 omega
theorem rtD (m : Nat) (x : Int) (hm : m ≤ 18446744073709551615) (hf : 0 ≤ x ∧ x ≤ m) (t : List UInt8) : rqN m ⟨num (uI x) ++ t, false, false⟩ = (uI x, ⟨t, false, false⟩) :=
 rtK m _ (uI_lt x) (by have := uI_id hf.1 (by omega); omega) t false
theorem rtM (x : Int) (hf : Fit x) (t : List UInt8) : rqM ⟨num (zz x) ++ t, false, false⟩ = (x, ⟨t, false, false⟩) := by
 have h := zz_lt hf.1 hf.2
 unfold rqM rdN
 simp only [Bool.false_eq_true, reduceIte]
 rw [rd_num0 18446744073709551615 (zz x) t h (by omega)]
 dsimp only
 rw [unzz_zz]
theorem rtF (b : Bool) (t : List UInt8) : rqF ⟨fl8 b ++ t, false, false⟩ = (b, ⟨t, false, false⟩) := by
 unfold rqF rdN fl8
 simp only [Bool.false_eq_true, reduceIte]
 cases b
 ·have := rd_num0 1 0 t (by omega) (by omega)
  rw [num_small (by omega)] at this
  simp only [Bool.false_eq_true, reduceIte]
  rw [show ([0] : List UInt8) = [UInt8.ofNat 0] from rfl, this]
  rfl
 ·have := rd_num0 1 1 t (by omega) (by omega)
  rw [num_small (by omega)] at this
  simp only [reduceIte]
  rw [show ([1] : List UInt8) = [UInt8.ofNat 1] from rfl, this]
  rfl
theorem rtT (m : Nat) (s : ByteArray) (hm : m < 9223372036854775808) (hx : decide ((m : Int) < (s.size : Int)) = false) (t : List UInt8) : rqT m ⟨tx8 s ++ t, false, false⟩ = (s, ⟨t, false, false⟩) := by
 have h : s.size ≤ m := by simpa using hx
 have e : rdN m (num s.size ++ (s.data.toList ++ t)) false = (s.size, s.data.toList ++ t, false) := by
  unfold rdN
  simp only [Bool.false_eq_true, reduceIte]
  exact rd_num0 m s.size _ (by omega) h
 have hlen : s.data.toList.length = s.size := rfl
 unfold rqT rdT tx8
 dsimp only
 rw [List.append_assoc, e]
 dsimp only
 rw [if_neg (by simp only [Bool.false_eq_true, false_or, List.length_append]; omega), ← hlen, List.take_left, List.drop_left, bs_of]
theorem rtGo {α : Type} {re : Rs → α × Rs} {e : α → List UInt8} : ∀ (l : List α) (a : List α) (t : List UInt8), (∀ y ∈ l, ∀ u, re ⟨e y ++ u, false, false⟩ = (y, ⟨u, false, false⟩)) → rowGo re l.length ⟨l.flatMap e ++ t, false, false⟩ a = (a ++ l, ⟨t, false, false⟩)
 | [], a, t, _ => by simp [rowGo]
 | y :: l, a, t, h => by
  have h1 := h y (List.mem_cons_self) (l.flatMap e ++ t)
  rw [List.flatMap_cons, List.append_assoc, List.length_cons, rowGo, h1]
  dsimp only
  rw [if_neg (by simp), rtGo l _ t (fun z hz => h z (List.mem_cons_of_mem _ hz)), List.append_assoc]
  rfl
theorem rtRow {α : Type} {re : Rs → α × Rs} {e : α → List UInt8} {x : α → Bool} {f : α → Prop} (most : Nat) (l : List α) (hm : most < 18446744073709551616) (hx : xRow x most l = false) (hf : l.length ≤ 140737488351232 ∧ ∀ y ∈ l, f y) (h : ∀ y, f y → x y = false → ∀ u, re ⟨e y ++ u, false, false⟩ = (y, ⟨u, false, false⟩)) (t : List UInt8) :
  rRow re most ⟨eRow e l ++ t, false, false⟩ = (l, ⟨t, false, false⟩) := by
 unfold xRow at hx
 simp only [Bool.or_eq_false_iff] at hx
 unfold rRow eRow
 rw [List.append_assoc, rtK most l.length (by omega) (by simpa using hx.1)]
 dsimp only
 rw [rtGo l [] t (fun y hy => h y (hf.2 y hy) (by
  have := hx.2
  rw [List.any_eq_false] at this
  simpa using this y hy)), List.nil_append]
theorem rtSh (x : Int × Int × Int) (hf : fSh x) (hx : xSh x = false) (t : List UInt8) : rSh ⟨eSh x ++ t, false, false⟩ = (x, ⟨t, false, false⟩) := by
 unfold fSh at hf
 unfold xSh at hx
 simp only [Bool.or_eq_false_iff] at hx
 unfold rSh eSh
 simp only [List.append_assoc]
 simp only [rtN 127 x.1 hx.1]
 simp only [rtN 1440 x.2.1 hx.2.1]
 simp only [rtN 1440 x.2.2 hx.2.2]
 rw [cN hf.1 hx.1 (by omega), cN hf.2.1 hx.2.1 (by omega), cN hf.2.2 hx.2.2 (by omega)]
theorem rtMu (x : Int) (hf : fMu x) (hx : xMu x = false) (t : List UInt8) : rMu ⟨eMu x ++ t, false, false⟩ = (x, ⟨t, false, false⟩) := by
 unfold fMu at hf
 unfold xMu at hx
 unfold rMu eMu
 simp only [rtD 4294967295 x (by omega) hf]
 rw [uI_id hf.1 (by have := hf.2; omega)]
theorem rtWa (x : Int × Int) (hf : fWa x) (hx : xWa x = false) (t : List UInt8) : rWa ⟨eWa x ++ t, false, false⟩ = (x, ⟨t, false, false⟩) := by
 unfold fWa at hf
 unfold xWa at hx
 unfold rWa eWa
 simp only [List.append_assoc]
 simp only [rtD 4294967295 x.1 (by omega) hf.1]
 simp only [rtN 1000 x.2 hx]
 rw [uI_id hf.1.1 (by have := hf.1.2; omega), cN hf.2 hx (by omega)]
theorem rtPa (x : Int × Int) (hf : fPa x) (hx : xPa x = false) (t : List UInt8) : rPa ⟨ePa x ++ t, false, false⟩ = (x, ⟨t, false, false⟩) := by
 unfold fPa at hf
 unfold xPa at hx
 unfold rPa ePa
 simp only [List.append_assoc]
 simp only [rtD 4294967295 x.1 (by omega) hf.1]
 simp only [rtD 4294967295 x.2 (by omega) hf.2]
 rw [uI_id hf.1.1 (by have := hf.1.2; omega), uI_id hf.2.1 (by have := hf.2.2; omega)]
theorem rtTs (x : Int) (hf : fTs x) (hx : xTs x = false) (t : List UInt8) : rTs ⟨eTs x ++ t, false, false⟩ = (x, ⟨t, false, false⟩) := by
 unfold fTs at hf
 unfold xTs at hx
 unfold rTs eTs
 simp only [rtM x hf]
theorem rtVo (x : Int × Int) (hf : fVo x) (hx : xVo x = false) (t : List UInt8) : rVo ⟨eVo x ++ t, false, false⟩ = (x, ⟨t, false, false⟩) := by
 unfold fVo at hf
 unfold xVo at hx
 unfold rVo eVo
 simp only [List.append_assoc]
 simp only [rtD 4294967295 x.1 (by omega) hf.1]
 simp only [rtN 40 x.2 hx]
 rw [uI_id hf.1.1 (by have := hf.1.2; omega), cN hf.2 hx (by omega)]
theorem rtSl (x : Int × Int × Int) (hf : fSl x) (hx : xSl x = false) (t : List UInt8) : rSl ⟨eSl x ++ t, false, false⟩ = (x, ⟨t, false, false⟩) := by
 unfold fSl at hf
 unfold xSl at hx
 simp only [Bool.or_eq_false_iff] at hx
 unfold rSl eSl
 simp only [List.append_assoc]
 simp only [rtM x.1 hf.1]
 simp only [rtN 100000 x.2.1 hx.1]
 simp only [rtN 100 x.2.2 hx.2]
 rw [cN hf.2.1 hx.1 (by omega), cN hf.2.2 hx.2 (by omega)]
theorem rtHs (most : Nat) (ss : List (Int × Int × Int)) (hm : most < 1000000) (hf : fHs ss) (hx : xHs most ss = false) (t : List UInt8) : rHs most ⟨eHs ss ++ t, false, false⟩ = (ss, ⟨t, false, false⟩) := by
 unfold fHs at hf
 unfold xHs at hx
 unfold rHs eHs
 rw [rtRow most ss (by omega) hx hf rtSh]
 try dsimp only
theorem rtQu (q : Qu) (hf : fQu q) (hx : xQu q = false) (t : List UInt8) : rQu ⟨eQu q ++ t, false, false⟩ = (q, ⟨t, false, false⟩) := by
 unfold fQu at hf
 unfold xQu at hx
 simp only [Bool.or_eq_false_iff] at hx
 unfold rQu eQu
 simp only [List.append_assoc]
 rw [rtM q.a hf.1]
 try dsimp only
 rw [rtM q.b hf.2.1]
 try dsimp only
 rw [rtN 10080 q.long hx.1]
 try dsimp only
 rw [rtN 1440 q.grid hx.2.1]
 try dsimp only
 rw [rtRow 64 q.must (by omega) hx.2.2.1 hf.2.2.2.2.1 rtMu]
 try dsimp only
 rw [rtRow 16 q.may (by omega) hx.2.2.2.1 hf.2.2.2.2.2.1 rtWa]
 try dsimp only
 rw [rtN 100 q.seats hx.2.2.2.2.1]
 try dsimp only
 rw [rtRow 32 q.apart (by omega) hx.2.2.2.2.2.1 hf.2.2.2.2.2.2.2.1 rtPa]
 try dsimp only
 rw [rtHs 8 q.prefer (by omega)  hf.2.2.2.2.2.2.2.2 hx.2.2.2.2.2.2]
 try dsimp only
 rw [cN hf.2.2.1 hx.1 (by omega), cN hf.2.2.2.1 hx.2.1 (by omega), cN hf.2.2.2.2.2.2.1 hx.2.2.2.2.1 (by omega)]
theorem rtPo (p : Po) (hf : fPo p) (hx : xPo p = false) (t : List UInt8) : rPo ⟨ePo p ++ t, false, false⟩ = (p, ⟨t, false, false⟩) := by
 unfold fPo at hf
 unfold xPo at hx
 simp only [Bool.or_eq_false_iff] at hx
 unfold rPo ePo
 simp only [List.append_assoc]
 rw [rtD 4294967295 p.id (by omega) hf.1]
 try dsimp only
 rw [rtD 4294967295 p.owner (by omega) hf.2.1]
 try dsimp only
 rw [rtQu p.qu  hf.2.2.1 hx.1]
 try dsimp only
 rw [rtRow 40 p.slots (by omega) hx.2.1 hf.2.2.2.1 rtTs]
 try dsimp only
 rw [rtRow 4096 p.votes (by omega) hx.2.2.1 hf.2.2.2.2.1 rtVo]
 try dsimp only
 rw [rtM p.til hf.2.2.2.2.2.1]
 try dsimp only
 rw [rtN 4 p.state hx.2.2.2.1]
 try dsimp only
 rw [rtN 40 p.winner hx.2.2.2.2]
 try dsimp only
 rw [uI_id hf.1.1 (by have := hf.1.2; omega), uI_id hf.2.1.1 (by have := hf.2.1.2; omega), cN hf.2.2.2.2.2.2.1 hx.2.2.2.1 (by omega), cN hf.2.2.2.2.2.2.2 hx.2.2.2.2 (by omega)]
end Go.Proofs.YtgefljdclekadaaGreat

namespace Go.Proofs.YtgefljdclekadaaGreat
open Go Go.Vi

end Go.Proofs.YtgefljdclekadaaGreat

namespace Go.Proofs.YtgefljdclekadaaGreat
open Go Go.Vi



end Go.Proofs.YtgefljdclekadaaGreat

namespace Go.Proofs.YtgefljdclekadaaGreat
open Go Go.Vi



def a5 : As := ⟨2, 5, 7, 5, 0, ⟨0, [], [], [], 0, 0⟩, ⟨0, 0, false, false, Ru0, [], [], []⟩, ⟨0, 0, 0, 0, [], [], 0, [], []⟩, ⟨Array.mk []⟩, 0, 0, 0, false, 0⟩
theorem eA25 : eA2 a5 = [2, 5, 7] := by
 unfold eA2 a5
 dsimp only
 rw [show uI 2 = 2 from rfl, show uI 5 = 5 from rfl, show uI 7 = 7 from rfl, num_small (by omega), num_small (by omega), num_small (by omega)]
 rfl
theorem read5 : rqN 11 ⟨[2, 5, 7], false, false⟩ = (2, ⟨[5, 7], false, false⟩) := by
 have := rtK 11 2 (by omega) (by omega) [5, 7] false
 rw [num_small (by omega)] at this
 exact this
theorem read5b : rqN 4294967295 ⟨[5, 7], false, false⟩ = (5, ⟨[7], false, false⟩) := by
 have := rtK 4294967295 5 (by omega) (by omega) [7] false
 rw [num_small (by omega)] at this
 exact this
theorem read5c : rqN 18446744073709551615 ⟨[7], false, false⟩ = (7, ⟨[], false, false⟩) := by
 have := rtK 18446744073709551615 7 (by omega) (by omega) [] false
 rw [num_small (by omega)] at this
 exact this
theorem ask5_rr : ∃ R', R'.map nl1 = a5.cells ∧
  CallG Tryz.prog 49 [.ptr 0 0 0 1, .ptr 2 0 0 1] [Cr 1 false, Rd [2, 5, 7] false, Va 42 Z42] (.tup [])
   [Cr 1 false, Rd [] false, Va 42 R'] := by
 have h := ask2_r ⟨[2, 5, 7], false, false⟩ (by rw [read5]) (by simp)
 rw [read5] at h
 dsimp only at h
 rw [read5b] at h
 dsimp only at h
 rw [read5c] at h
 exact h
theorem getAsk5_p : PureD Tryz.prog 50 [.list none false (r8 [2, 5, 7])] (.tup [.agg a5.cells, .bool true]) := by
 refine pureV Tryz.func50 low50 (by simp [c50]) ?_
 obtain ⟨R', hm, ha⟩ := ask5_rr
 have hn := newReader_p none false [2, 5, 7] (by simp)
 have hr := read_p 65536 [2, 5, 7] [] false false (by simp) (by omega)
 have hg : (!false && (!false && ([] : List UInt8).isEmpty) && decide (([2, 5, 7] : List UInt8).length ≤ 65536)) = true := by simp
 rw [hg] at hr
 clear hg
 generalize ([2, 5, 7] : List UInt8) = b at hn ha hr ⊢
 generalize ([] : List UInt8) = l0 at ha hr
 unfold Z42 at ha
 simp only [c50, c50_18, c50_17, c50_16, c50_15]
 obtain ⟨C, hC⟩ : ∃ C, C = c50_14 := ⟨_, rfl⟩
 rw [← hC]
 repeat' ((first | apply Run_seq | apply Run_skip | apply Run_ret | apply Run_nil | apply Run_condK | apply Run_ops mixed | (with_reducible first | refine PostV_open ?_ | refine ro_callA' (f := .c (.fn 30 [])) ?_ | refine ro_callA' (f := .c (.fn 49 [])) ?_ | refine ro_callV ?_ | refine CallE_use (hn) (by simp) ?_ | refine CallE_use (ha) (by simp) ?_) | (refine CondK_split ?_ ?_ <;> intro hc <;> (try simp only [hc]) <;> try simp at hc) | (with_reducible refine ⟨?_, ?_⟩; (focus ((repeat' with_reducible refine ⟨?_, ?_⟩) <;> first | exact trivial | assumption | (simp; done) | (simp only [List.length_map] at *; omega) | omega | (simp [fs]; done) | exact r8_sz))) | (with_reducible intro x hx) | omega) <;> (try simp only [Nat.reduceBEq, reduceIte, Nat.reduceEqDiff, Nat.reduceAdd, Nat.reduceSub, Nat.reduceLT, Nat.reduceLeDiff, reduceCtorEq, ne_eq, fw, fd]))
 refine Run_nl 3 a5.cells rfl rfl rfl rfl hm ?_
 subst hC
 clear ha hm hn
 generalize a5 = v
 simp only [List.set_cons_zero, List.set_cons_succ, As.cells]
 repeat' ((first | apply Run_seq | apply Run_skip | apply Run_ret | apply Run_nil | apply Run_condK | apply Run_ops mixed | (with_reducible first | refine PostV_open ?_ | refine ro_callA' (f := .c (.fn 31 [])) ?_ | refine ro_callV ?_ | refine CallE_use (hr) (by simp) ?_) | (refine CondK_split ?_ ?_ <;> intro hc <;> (try simp only [hc]) <;> try simp at hc) | (with_reducible refine ⟨?_, ?_⟩; (focus ((repeat' with_reducible refine ⟨?_, ?_⟩) <;> first | exact trivial | assumption | (simp; done) | (simp only [List.length_map] at *; omega) | omega | (simp [fs]; done) | exact r8_sz))) | (with_reducible intro x hx) | omega) <;> (try simp only [Nat.reduceBEq, reduceIte, Nat.reduceEqDiff, Nat.reduceAdd, Nat.reduceSub, reduceCtorEq, fw, fd]))
theorem putAsk5_p : PureD Tryz.prog 18 [.agg a5.cells] (.tup [.list none false (r8 [2, 5, 7]), .bool true]) := by
 refine pureV Tryz.func18 low18 (by simp [c18]) ?_
 simp only [c18]
 have h1 := newWriter_p
 have h2 := cA2_w [] false 42 a5.cells 0 a5 rfl rfl rfl rfl (by simp [fA2, a5, Fit]) (by rw [eA25]; simp)
 have hx : xA2 a5 = false := rfl
 rw [hx, eA25] at h2
 simp only [List.nil_append, Bool.false_or, List.length_nil] at h2
 have h3 := written_p 65536 [2, 5, 7] false (by simp) (by omega) true (by simp)
 have h4 := getAsk5_p
 have h5 := recAs_p a5 a5 (by simp [As.fits, a5, Se.fits, Ev.fits, Qu.fits, Ru.fits]) (by simp [As.fits, a5, Se.fits, Ev.fits, Qu.fits, Ru.fits])
 simp only [reduceIte, decide_true] at h3 h5
 generalize ([2, 5, 7] : List UInt8) = b at h2 h3 h4 ⊢
 generalize a5 = v at h2 h4 h5 ⊢
 unfold As.cells at h2 h4 h5 ⊢
 clear hx
 repeat' ((first | apply Run_seq | apply Run_skip | apply Run_ret | apply Run_nil | apply Run_condK | apply Run_ops mixed | (with_reducible first | refine PostV_open ?_ | refine ro_callA' (f := .c (.fn 19 [])) ?_ | refine ro_callA' (f := .c (.fn 49 [])) ?_ | refine ro_callA' (f := .c (.fn 21 [])) ?_ | refine ro_callV ?_ | refine CallE_use (h1) (by simp) ?_ | refine CallE_use (h2) (by simp) ?_ | refine CallE_use (h3) (by simp) ?_) | refine CallV_pure (h4) ?_ ?_ | refine CallV_pure (h5) ?_ ?_ | ((first | refine GuardK_split ?_ ?_ | refine CondK_split ?_ ?_) <;> intro hc <;> (try simp only [hc]) <;> try simp at hc) | (with_reducible refine ⟨?_, ?_⟩; (focus ((repeat' with_reducible refine ⟨?_, ?_⟩) <;> first | exact trivial | assumption | (simp; done) | (simp only [List.length_map] at *; omega) | omega | (simp [fs]; done) | exact r8_sz))) | (with_reducible intro x hx) | omega) <;> (try simp only [Wr, Nat.reduceBEq, reduceIte, Nat.reduceEqDiff, Nat.reduceAdd, Nat.reduceSub, Nat.reduceLT, Nat.reduceLeDiff, reduceCtorEq, cond_false, ne_eq, fw, fd]))
end Go.Proofs.YtgefljdclekadaaGreat

namespace Go.Proofs.YtgefljdclekadaaGreat
open Go Go.Vi



theorem fixed_p : PureD Tryz.prog 6 [] (.bool true) := by
 refine pureV Tryz.func6 low6 (by simp [c6]) ?_
 simp only [c6]
 have h := putAsk5_p
 simp only [As.cells, a5, row1, row2, row3, List.map_nil] at h
 have hs : (bs [2, 5, 7] == bs [UInt8.ofNat 2, UInt8.ofNat 5, UInt8.ofNat 7]) = true := by rfl
 repeat' ((first | apply Run_seq | apply Run_ret | apply Run_nil | apply Run_ops mixed | (with_reducible first | refine PostV_open ?_ | refine ro_callV ?_) | refine CallV_pure (h) ?_ ?_ | (refine GuardK_split ?_ ?_ <;> intro hc <;> (try simp only [hc]) <;> try simp at hc) | (with_reducible refine ⟨?_, ?_⟩; (focus ((repeat' with_reducible refine ⟨?_, ?_⟩) <;> first | exact trivial | assumption | (simp; done) | (simp only [List.length_map] at *; omega) | omega | (simp [fs]; done) | exact r8_sz))) | (with_reducible intro x hx) | omega) <;> (try simp only [bytes_r8, bs_mk, hs, Nat.reduceBEq, reduceIte, Nat.reduceAdd, Nat.reduceLeDiff, cond_true, fw, fd]))
end Go.Proofs.YtgefljdclekadaaGreat
