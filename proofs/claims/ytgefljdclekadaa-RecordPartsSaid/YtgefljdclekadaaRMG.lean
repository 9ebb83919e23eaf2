import Derived.Test.YtgefljdclekadaaRMF
import Derived.Test.YtgefljdclekadaaVi25
import Derived.Test.YtgefljdclekadaaRR9
import Derived.Test.YtgefljdclekadaaRMC
set_option linter.unusedVariables false
set_option linter.unusedSimpArgs false
namespace Go.Proofs.Ytgefljdclekadaa
open Go Go.Vi
theorem ask_r (s : Rs) (hl : s.l.length ≤ 1099511627776) : ∃ R', R'.map gq = (fK s).1.cells ∧
  az Try.prog 18 [.ptr 0 0 0 1, .ptr 2 0 0 1] [Cr 1 s.cb, Rd s.l s.rb, Va 42 ib] (.tup [])
   [Cr 1 (fK s).2.cb, Rd (fK s).2.l (fK s).2.rb, Va 42 R'] := by
 have e : fK s = (if (aA 11 s).1 = 1 then rL (aA 11 s).1 (aA 4294967295 (aA 11 s).2).1 (aA 18446744073709551615 (aA 4294967295 (aA 11 s).2).2).1 (aA 18446744073709551615 (aA 4294967295 (aA 11 s).2).2).2 else if (aA 11 s).1 = 2 then tZ (aA 11 s).1 (aA 4294967295 (aA 11 s).2).1 (aA 18446744073709551615 (aA 4294967295 (aA 11 s).2).2).1 (aA 18446744073709551615 (aA 4294967295 (aA 11 s).2).2).2 else if (aA 11 s).1 = 3 then rD (aA 11 s).1 (aA 4294967295 (aA 11 s).2).1 (aA 18446744073709551615 (aA 4294967295 (aA 11 s).2).2).1 (aA 18446744073709551615 (aA 4294967295 (aA 11 s).2).2).2 else if (aA 11 s).1 = 4 then sK (aA 11 s).1 (aA 4294967295 (aA 11 s).2).1 (aA 18446744073709551615 (aA 4294967295 (aA 11 s).2).2).1 (aA 18446744073709551615 (aA 4294967295 (aA 11 s).2).2).2 else if (aA 11 s).1 = 5 then sG (aA 11 s).1 (aA 4294967295 (aA 11 s).2).1 (aA 18446744073709551615 (aA 4294967295 (aA 11 s).2).2).1 (aA 18446744073709551615 (aA 4294967295 (aA 11 s).2).2).2 else if (aA 11 s).1 = 6 then sJ (aA 11 s).1 (aA 4294967295 (aA 11 s).2).1 (aA 18446744073709551615 (aA 4294967295 (aA 11 s).2).2).1 (aA 18446744073709551615 (aA 4294967295 (aA 11 s).2).2).2 else if (aA 11 s).1 = 7 then rQ (aA 11 s).1 (aA 4294967295 (aA 11 s).2).1 (aA 18446744073709551615 (aA 4294967295 (aA 11 s).2).2).1 (aA 18446744073709551615 (aA 4294967295 (aA 11 s).2).2).2 else if (aA 11 s).1 = 8 then sY (aA 11 s).1 (aA 4294967295 (aA 11 s).2).1 (aA 18446744073709551615 (aA 4294967295 (aA 11 s).2).2).1 (aA 18446744073709551615 (aA 4294967295 (aA 11 s).2).2).2 else if (aA 11 s).1 = 9 then sg (aA 11 s).1 (aA 4294967295 (aA 11 s).2).1 (aA 18446744073709551615 (aA 4294967295 (aA 11 s).2).2).1 (aA 18446744073709551615 (aA 4294967295 (aA 11 s).2).2).2 else if (aA 11 s).1 = 10 then kF (aA 11 s).1 (aA 4294967295 (aA 11 s).2).1 (aA 18446744073709551615 (aA 4294967295 (aA 11 s).2).2).1 (aA 18446744073709551615 (aA 4294967295 (aA 11 s).2).2).2 else if (aA 11 s).1 = 11 then kt (aA 11 s).1 (aA 4294967295 (aA 11 s).2).1 (aA 18446744073709551615 (aA 4294967295 (aA 11 s).2).2).1 (aA 18446744073709551615 (aA 4294967295 (aA 11 s).2).2).2 else tS (aA 11 s).1 (aA 4294967295 (aA 11 s).2).1 (aA 18446744073709551615 (aA 4294967295 (aA 11 s).2).2).1 (aA 18446744073709551615 (aA 4294967295 (aA 11 s).2).2).2) := rfl
 rw [e]
 by_cases k1 : (aA 11 s).1 = 1
 ·rw [if_pos k1]; exact xE s k1 hl
 by_cases k2 : (aA 11 s).1 = 2
 ·rw [if_neg k1, if_pos k2]; exact rO s k2 hl
 by_cases k3 : (aA 11 s).1 = 3
 ·rw [if_neg k1, if_neg k2, if_pos k3]; exact wQ s k3 hl
 by_cases k4 : (aA 11 s).1 = 4
 ·rw [if_neg k1, if_neg k2, if_neg k3, if_pos k4]; exact w0 s k4 hl
 by_cases k5 : (aA 11 s).1 = 5
 ·rw [if_neg k1, if_neg k2, if_neg k3, if_neg k4, if_pos k5]; exact wB s k5 hl
 by_cases k6 : (aA 11 s).1 = 6
 ·rw [if_neg k1, if_neg k2, if_neg k3, if_neg k4, if_neg k5, if_pos k6]; exact xT s k6 hl
 by_cases k7 : (aA 11 s).1 = 7
 ·rw [if_neg k1, if_neg k2, if_neg k3, if_neg k4, if_neg k5, if_neg k6, if_pos k7]; exact wD s k7 hl
 by_cases k8 : (aA 11 s).1 = 8
 ·rw [if_neg k1, if_neg k2, if_neg k3, if_neg k4, if_neg k5, if_neg k6, if_neg k7, if_pos k8]; exact wT s k8 hl
 by_cases k9 : (aA 11 s).1 = 9
 ·rw [if_neg k1, if_neg k2, if_neg k3, if_neg k4, if_neg k5, if_neg k6, if_neg k7, if_neg k8, if_pos k9]; exact ww s k9 hl
 by_cases k10 : (aA 11 s).1 = 10
 ·rw [if_neg k1, if_neg k2, if_neg k3, if_neg k4, if_neg k5, if_neg k6, if_neg k7, if_neg k8, if_neg k9, if_pos k10]; exact vg s k10 hl
 by_cases k11 : (aA 11 s).1 = 11
 ·rw [if_neg k1, if_neg k2, if_neg k3, if_neg k4, if_neg k5, if_neg k6, if_neg k7, if_neg k8, if_neg k9, if_neg k10, if_pos k11]; exact vn s k11 hl
 rw [if_neg k1, if_neg k2, if_neg k3, if_neg k4, if_neg k5, if_neg k6, if_neg k7, if_neg k8, if_neg k9, if_neg k10, if_neg k11]
 exact xD s (fun c h1 h2 hc => by omega) hl
theorem lG (most : Nat) (l : List UInt8) (bad : Bool) (hl : l.length ≤ 1099511627776) (hm : most ≤ 1099511627776) (ok : Bool) (hok : ok = (!bad && decide (l.length ≤ most))) :
  az Try.prog 19 [.ptr 0 0 0 1, .int .i64 most] [Cw 1 bad, Ww 2 l.length, aU true 1 true (r8 l)] (if ok = true then .tup [.list none false (r8 l), .bool true] else .tup [.list (some true) true [], .bool false])
   [Cw 1 bad, Ww 2 l.length, aU true 1 true (r8 l)] := by
 refine aK Try.func19 low19 (by simp [c19]) ?_
 simp only [c19]
 have hb := vb l hl
 cases bad
 ·by_cases hg : most < l.length
  ·have e : ok = false := by rw [hok]; simp; omega
   have c1 : ((l.length : Int) > (most : Int)) = True := by simp; omega
   subst e
   simp only [Bool.false_eq_true, reduceIte]
   repeat' ((first | apply ai | apply ah | apply al | apply aj | apply ae | apply ak mixed | (with_reducible first | refine af ?_ | refine ar (f := .c (.fn 41 [])) ?_ | refine ao ?_ | refine ab (hb) (by simp) ?_) | ((first | refine ac ?_ ?_ | refine aa ?_ ?_) <;> intro hc <;> (try simp only [hc]) <;> try simp at hc) | (with_reducible refine ⟨?_, ?_⟩; (focus ((repeat' with_reducible refine ⟨?_, ?_⟩) <;> first | exact trivial | assumption | (simp; done) | (simp only [List.length_map] at *; omega) | omega | (simp [fs]; done) | exact ay))) | (with_reducible intro x hx) | omega) <;> (try simp only [Wr, aV, c1, Nat.reduceBEq, reduceIte, Nat.reduceEqDiff, Nat.reduceAdd, Nat.reduceSub, reduceCtorEq, cond_false, fw, fd]))
   refine aw [0, 1, 2] (by rfl) (by simp) (by simp [fg])
  ·have e : ok = true := by rw [hok]; simp; omega
   have c1 : ((l.length : Int) > (most : Int)) = False := by simp; omega
   subst e
   simp only [reduceIte]
   repeat' ((first | apply ai | apply ah | apply al | apply aj | apply ae | apply ak mixed | (with_reducible first | refine af ?_ | refine ar (f := .c (.fn 41 [])) ?_ | refine ao ?_ | refine ab (hb) (by simp) ?_) | ((first | refine ac ?_ ?_ | refine aa ?_ ?_) <;> intro hc <;> (try simp only [hc]) <;> try simp at hc) | (with_reducible refine ⟨?_, ?_⟩; (focus ((repeat' with_reducible refine ⟨?_, ?_⟩) <;> first | exact trivial | assumption | (simp; done) | (simp only [List.length_map] at *; omega) | omega | (simp [fs]; done) | exact ay))) | (with_reducible intro x hx) | omega) <;> (try simp only [Wr, aV, c1, Nat.reduceBEq, reduceIte, Nat.reduceEqDiff, Nat.reduceAdd, Nat.reduceSub, reduceCtorEq, cond_false, fw, fd]))
   refine aw [0, 1, 2] (by rfl) (by simp) (by simp [fg])
 ·have e : ok = false := by rw [hok]; simp
  subst e
  simp only [Bool.false_eq_true, reduceIte]
  repeat' ((first | apply ai | apply ah | apply al | apply aj | apply ae | apply ak mixed | (with_reducible first | refine af ?_ | refine ar (f := .c (.fn 41 [])) ?_ | refine ao ?_ | refine ab (hb) (by simp) ?_) | ((first | refine ac ?_ ?_ | refine aa ?_ ?_) <;> intro hc <;> (try simp only [hc]) <;> try simp at hc) | (with_reducible refine ⟨?_, ?_⟩; (focus ((repeat' with_reducible refine ⟨?_, ?_⟩) <;> first | exact trivial | assumption | (simp; done) | (simp only [List.length_map] at *; omega) | omega | (simp [fs]; done) | exact ay))) | (with_reducible intro x hx) | omega) <;> (try simp only [Wr, Nat.reduceBEq, reduceIte, Nat.reduceEqDiff, Nat.reduceAdd, Nat.reduceSub, reduceCtorEq, cond_true, fw, fd]))
  refine aw [0, 1, 2] (by rfl) (by simp) (by simp [fg])
theorem sF (most : Nat) (b l : List UInt8) (rb cb : Bool) (hb : b.length ≤ 1099511627776) (hm : most ≤ 1099511627776) :
  az Try.prog 24 [.ptr 0 0 0 1, .list none false (r8 b), .int .i64 most] [Cr 1 cb, Rd l rb] (.bool (!cb && (!rb && l.isEmpty) && decide (b.length ≤ most)))
   [Cr 1 cb, Rd l rb] := by
 refine aK Try.func24 low24 (by simp [c24]) ?_
 simp only [c24]
 have he := end_p l rb
 generalize (!rb && l.isEmpty) = x at he ⊢
 cases cb
 ·cases x
  ·repeat' ((first | apply ai | apply al | apply aj | apply ak mixed | (with_reducible first | refine af ?_ | refine ao ?_) | refine av (he) ?_ ?_ | (refine ac ?_ ?_ <;> intro hc <;> (try simp only [hc]) <;> try simp at hc) | (with_reducible refine ⟨?_, ?_⟩; (focus ((repeat' with_reducible refine ⟨?_, ?_⟩) <;> first | exact trivial | assumption | (simp; done) | (simp only [List.length_map] at *; omega) | omega | (simp [fs]; done) | exact ay))) | (with_reducible intro x hx) | omega) <;> (try simp only [Nat.reduceBEq, reduceIte, Nat.reduceAdd, cond_true, cond_false, fw, fd]))
   refine aw [0, 1] (by rfl) (by simp) (by simp [fg])
  ·by_cases hg : b.length ≤ most
   ·have e : decide (b.length ≤ most) = true := by simpa using hg
    have c1 : ((b.length : Int) ≤ (most : Int)) = True := by simp; omega
    rw [e]
    repeat' ((first | apply ai | apply al | apply aj | apply ak mixed | (with_reducible first | refine af ?_ | refine ao ?_) | refine av (he) ?_ ?_ | (refine ac ?_ ?_ <;> intro hc <;> (try simp only [hc]) <;> try simp at hc) | (with_reducible refine ⟨?_, ?_⟩; (focus ((repeat' with_reducible refine ⟨?_, ?_⟩) <;> first | exact trivial | assumption | (simp; done) | (simp only [List.length_map] at *; omega) | omega | (simp [fs]; done) | exact ay))) | (with_reducible intro x hx) | omega) <;> (try simp only [aV, c1, Nat.reduceBEq, reduceIte, Nat.reduceAdd, cond_true, fw, fd]))
    refine aw [0, 1] (by rfl) (by simp) (by simp [fg])
   ·have e : decide (b.length ≤ most) = false := by simpa using hg
    have c1 : ((b.length : Int) ≤ (most : Int)) = False := by simp; omega
    rw [e]
    repeat' ((first | apply ai | apply al | apply aj | apply ak mixed | (with_reducible first | refine af ?_ | refine ao ?_) | refine av (he) ?_ ?_ | (refine ac ?_ ?_ <;> intro hc <;> (try simp only [hc]) <;> try simp at hc) | (with_reducible refine ⟨?_, ?_⟩; (focus ((repeat' with_reducible refine ⟨?_, ?_⟩) <;> first | exact trivial | assumption | (simp; done) | (simp only [List.length_map] at *; omega) | omega | (simp [fs]; done) | exact ay))) | (with_reducible intro x hx) | omega) <;> (try simp only [aV, c1, Nat.reduceBEq, reduceIte, Nat.reduceAdd, cond_true, fw, fd]))
    refine aw [0, 1] (by rfl) (by simp) (by simp [fg])
 ·repeat' ((first | apply ai | apply al | apply aj | apply ak mixed | (with_reducible first | refine af ?_ | refine ao ?_) | refine av (he) ?_ ?_ | (refine ac ?_ ?_ <;> intro hc <;> (try simp only [hc]) <;> try simp at hc) | (with_reducible refine ⟨?_, ?_⟩; (focus ((repeat' with_reducible refine ⟨?_, ?_⟩) <;> first | exact trivial | assumption | (simp; done) | (simp only [List.length_map] at *; omega) | omega | (simp [fs]; done) | exact ay))) | (with_reducible intro x hx) | omega) <;> (try simp only [Nat.reduceBEq, Nat.reduceAdd, cond_false, fw, fd]))
  refine aw [0, 1] (by rfl) (by simp) (by simp [fg])
def t9 (q : As × Rs) (b : List UInt8) : Bool := !q.2.cb && (!q.2.rb && q.2.l.isEmpty) && decide (b.length ≤ 65536)
def Az : As := ⟨0, 0, 0, 0, 0, ⟨0, [], [], [], 0, 0⟩, ⟨0, 0, false, false, ⟨0, 0, 0, 0, [], [], [], [], 0⟩, [], [], []⟩, ⟨0, 0, 0, 0, [], [], 0, [], []⟩, ⟨Array.mk []⟩, 0, 0, 0, false, 0⟩
def kv (b : List UInt8) : D := .tup [.agg (if t9 (fK ⟨b, false, false⟩) b = true then (fK ⟨b, false, false⟩).1.cells else Az.cells), .bool (t9 (fK ⟨b, false, false⟩) b)]
theorem kL (b : List UInt8) (hl : b.length ≤ 1099511627776) : br Try.prog 9 [.list none false (r8 b)] (kv b) := by
 refine bX Try.func9 low9 (by simp [c9]) ?_
 unfold kv
 obtain ⟨R', hm, ha⟩ := ask_r ⟨b, false, false⟩ hl
 have hn := iZ none false b hl
 dsimp only at ha
 generalize fK ⟨b, false, false⟩ = q at hm ha ⊢
 obtain ⟨v, s⟩ := q
 dsimp only at hm ha ⊢
 have hr := sF 65536 b s.l s.rb s.cb hl (by omega)
 have hg : t9 (v, s) b = (!s.cb && (!s.rb && s.l.isEmpty) && decide (b.length ≤ 65536)) := rfl
 rw [← hg] at hr
 generalize t9 (v, s) b = ok at hr ⊢
 clear hg
 unfold ib at ha
 simp only [c9, c9_18, c9_17, c9_16, c9_15]
 obtain ⟨C, hC⟩ : ∃ C, C = c9_14 := ⟨_, rfl⟩
 rw [← hC]
 repeat' ((first | apply ai | apply ah | apply al | apply aj | apply ae | apply ak mixed | (with_reducible first | refine ax ?_ | refine ar (f := .c (.fn 23 [])) ?_ | refine ar (f := .c (.fn 18 [])) ?_ | refine ao ?_ | refine ab (hn) (by simp) ?_ | refine ab (ha) (by simp) ?_) | (refine aa ?_ ?_ <;> intro hc <;> (try simp only [hc]) <;> try simp at hc) | (with_reducible refine ⟨?_, ?_⟩; (focus ((repeat' with_reducible refine ⟨?_, ?_⟩) <;> first | exact trivial | assumption | (simp; done) | (simp only [List.length_map] at *; omega) | omega | (simp [fs]; done) | exact ay))) | (with_reducible intro x hx) | omega) <;> (try simp only [Nat.reduceBEq, reduceIte, Nat.reduceEqDiff, Nat.reduceAdd, Nat.reduceSub, Nat.reduceLT, Nat.reduceLeDiff, reduceCtorEq, ne_eq, fw, fd]))
 refine tn 3 v.cells rfl rfl rfl rfl hm ?_
 subst hC
 clear ha hm hn
 simp only [List.set_cons_zero, List.set_cons_succ, As.cells]
 cases ok
 ·simp only [Bool.false_eq_true, reduceIte, Az, aI, aS, bh, List.map_nil]
  repeat' ((first | apply ai | apply ah | apply al | apply aj | apply ae | apply ak mixed | (with_reducible first | refine ax ?_ | refine ar (f := .c (.fn 24 [])) ?_ | refine ao ?_ | refine ab (hr) (by simp) ?_) | (refine aa ?_ ?_ <;> intro hc <;> (try simp only [hc]) <;> try simp at hc) | (with_reducible refine ⟨?_, ?_⟩; (focus ((repeat' with_reducible refine ⟨?_, ?_⟩) <;> first | exact trivial | assumption | (simp; done) | (simp only [List.length_map] at *; omega) | omega | (simp [fs]; done) | exact ay))) | (with_reducible intro x hx) | omega) <;> (try simp only [Nat.reduceBEq, reduceIte, Nat.reduceEqDiff, Nat.reduceAdd, Nat.reduceSub, reduceCtorEq, fw, fd]))
 ·simp only [reduceIte]
  repeat' ((first | apply ai | apply ah | apply al | apply aj | apply ae | apply ak mixed | (with_reducible first | refine ax ?_ | refine ar (f := .c (.fn 24 [])) ?_ | refine ao ?_ | refine ab (hr) (by simp) ?_) | (refine aa ?_ ?_ <;> intro hc <;> (try simp only [hc]) <;> try simp at hc) | (with_reducible refine ⟨?_, ?_⟩; (focus ((repeat' with_reducible refine ⟨?_, ?_⟩) <;> first | exact trivial | assumption | (simp; done) | (simp only [List.length_map] at *; omega) | omega | (simp [fs]; done) | exact ay))) | (with_reducible intro x hx) | omega) <;> (try simp only [Nat.reduceBEq, reduceIte, Nat.reduceEqDiff, Nat.reduceAdd, Nat.reduceSub, reduceCtorEq, fw, fd]))
end Go.Proofs.Ytgefljdclekadaa

namespace Go.Proofs.Ytgefljdclekadaa
open Go Go.Vi
theorem yh (m k : Nat) (hk : k < 18446744073709551616) (hm : k ≤ m) (t : List UInt8) (c : Bool) : aA m ⟨aX k ++ t, false, c⟩ = (k, ⟨t, false, c⟩) := by
 unfold aA co
 simp only [Bool.false_eq_true, reduceIte]
 rw [gz m k t hk hm]
theorem gM (m : Nat) (x : Int) (hx : decide (m < uI x) = false) (t : List UInt8) : aA m ⟨aX (uI x) ++ t, false, false⟩ = (uI x, ⟨t, false, false⟩) :=
 yh m _ (gN x) (by simpa using hx) t false
theorem cN {m : Nat} {x : Int} (hf : cR x) (hx : decide (m < uI x) = false) (hm : m < 9223372036854775808) : ((uI x : Nat) : Int) = x := by
 have h1 : uI x ≤ m := by simpa using hx
 obtain ⟨a, b⟩ := hf
 unfold uI at h1 ⊢
 omega
theorem gB (m : Nat) (x : Int) (hm : m ≤ 18446744073709551615) (hf : 0 ≤ x ∧ x ≤ m) (t : List UInt8) : aA m ⟨aX (uI x) ++ t, false, false⟩ = (uI x, ⟨t, false, false⟩) :=
 yh m _ (gN x) (by have := en hf.1 (by omega); omega) t false
theorem rB (x : Int) (hf : cR x) (t : List UInt8) : cw ⟨aX (zz x) ++ t, false, false⟩ = (x, ⟨t, false, false⟩) := by
 have h := lS hf.1 hf.2
 unfold cw co
 simp only [Bool.false_eq_true, reduceIte]
 rw [gz 18446744073709551615 (zz x) t h (by omega)]
 dsimp only
 rw [pG]
theorem rtS (lo hi x : Int) (hf : cR x) (hx : decide (x < lo ∨ hi < x) = false) (t : List UInt8) : fL lo hi ⟨aX (zz x) ++ t, false, false⟩ = (x, ⟨t, false, false⟩) := by
 have h := lS hf.1 hf.2
 unfold fL co
 simp only [Bool.false_eq_true, reduceIte]
 rw [gz 18446744073709551615 (zz x) t h (by omega)]
 dsimp only
 rw [pG, hx]
 rfl
theorem rtF (b : Bool) (t : List UInt8) : gS ⟨oq b ++ t, false, false⟩ = (b, ⟨t, false, false⟩) := by
 unfold gS co oq
 simp only [Bool.false_eq_true, reduceIte]
 cases b
 ·have := gz 1 0 t (by omega) (by omega)
  rw [ck (by omega)] at this
  simp only [Bool.false_eq_true, reduceIte]
  rw [show ([0] : List UInt8) = [UInt8.ofNat 0] from rfl, this]
  rfl
 ·have := gz 1 1 t (by omega) (by omega)
  rw [ck (by omega)] at this
  simp only [reduceIte]
  rw [show ([1] : List UInt8) = [UInt8.ofNat 1] from rfl, this]
  rfl
theorem rtT (m : Nat) (s : ByteArray) (hm : m < 9223372036854775808) (hx : decide ((m : Int) < (s.size : Int)) = false) (t : List UInt8) : qc m ⟨t6 s ++ t, false, false⟩ = (s, ⟨t, false, false⟩) := by
 have h : s.size ≤ m := by simpa using hx
 have e : co m (aX s.size ++ (s.data.toList ++ t)) false = (s.size, s.data.toList ++ t, false) := by
  unfold co
  simp only [Bool.false_eq_true, reduceIte]
  exact gz m s.size _ (by omega) h
 have hlen : s.data.toList.length = s.size := rfl
 unfold qc o9 t6
 dsimp only
 rw [List.append_assoc, e]
 dsimp only
 rw [if_neg (by simp only [Bool.false_eq_true, false_or, List.length_append]; omega), ← hlen, List.take_left, List.drop_left, sC]
theorem rtGo {α : Type} {re : Rs → α × Rs} {e : α → List UInt8} : ∀ (l : List α) (a : List α) (t : List UInt8), (∀ y ∈ l, ∀ u, re ⟨e y ++ u, false, false⟩ = (y, ⟨u, false, false⟩)) → bz re l.length ⟨l.flatMap e ++ t, false, false⟩ a = (a ++ l, ⟨t, false, false⟩)
 | [], a, t, _ => by simp [bz]
 | y :: l, a, t, h => by
  have h1 := h y (List.mem_cons_self) (l.flatMap e ++ t)
  rw [List.flatMap_cons, List.append_assoc, List.length_cons, bz, h1]
  dsimp only
  rw [if_neg (by simp), rtGo l _ t (fun z hz => h z (List.mem_cons_of_mem _ hz)), List.append_assoc]
  rfl
theorem gi {α : Type} {re : Rs → α × Rs} {e : α → List UInt8} {x : α → Bool} {f : α → Prop} (most : Nat) (l : List α) (hm : most < 18446744073709551616) (hx : bT x most l = false) (hf : l.length ≤ 140737488351232 ∧ ∀ y ∈ l, f y) (h : ∀ y, f y → x y = false → ∀ u, re ⟨e y ++ u, false, false⟩ = (y, ⟨u, false, false⟩)) (t : List UInt8) :
  aM re most ⟨bn e l ++ t, false, false⟩ = (l, ⟨t, false, false⟩) := by
 unfold bT at hx
 simp only [Bool.or_eq_false_iff] at hx
 unfold aM bn
 rw [List.append_assoc, yh most l.length (by omega) (by simpa using hx.1)]
 dsimp only
 rw [rtGo l [] t (fun y hy => h y (hf.2 y hy) (by
  have := hx.2
  rw [List.any_eq_false] at this
  simpa using this y hy)), List.nil_append]
theorem rtTu (x : Int × Int) (hf : ye x) (hx : oj x = false) (t : List UInt8) : jy ⟨ji x ++ t, false, false⟩ = (x, ⟨t, false, false⟩) := by
 unfold ye at hf
 unfold oj at hx
 unfold jy ji
 simp only [List.append_assoc]
 simp only [rB x.1 hf.1]
 simp only [rtS (-900) 900 x.2 hf.2 hx]
theorem rtSh (x : Int × Int × Int) (hf : wX x) (hx : ou x = false) (t : List UInt8) : jw ⟨jh x ++ t, false, false⟩ = (x, ⟨t, false, false⟩) := by
 unfold wX at hf
 unfold ou at hx
 simp only [Bool.or_eq_false_iff] at hx
 unfold jw jh
 simp only [List.append_assoc]
 simp only [gM 127 x.1 hx.1]
 simp only [gM 1440 x.2.1 hx.2.1]
 simp only [gM 1440 x.2.2 hx.2.2]
 rw [cN hf.1 hx.1 (by omega), cN hf.2.1 hx.2.1 (by omega), cN hf.2.2 hx.2.2 (by omega)]
theorem rtOf (x : Int) (hf : xZ x) (hx : n5 x = false) (t : List UInt8) : jm ⟨jz x ++ t, false, false⟩ = (x, ⟨t, false, false⟩) := by
 unfold xZ at hf
 unfold n5 at hx
 unfold jm jz
 simp only [gM 109937 x hx]
 rw [cN hf hx (by omega)]
theorem rtSm (x : Int) (hf : xQ x) (hx : oi x = false) (t : List UInt8) : jg ⟨jt x ++ t, false, false⟩ = (x, ⟨t, false, false⟩) := by
 unfold xQ at hf
 unfold oi at hx
 unfold jg jt
 simp only [rtS (-400) 400 x hf hx]
theorem rtDa (x : Int × Int) (hf : yf x) (hx : n6 x = false) (t : List UInt8) : jn ⟨jo x ++ t, false, false⟩ = (x, ⟨t, false, false⟩) := by
 unfold yf at hf
 unfold n6 at hx
 simp only [Bool.or_eq_false_iff] at hx
 unfold jn jo
 simp only [List.append_assoc]
 simp only [rtS (-5) 5 x.1 hf.1 hx.1]
 simp only [gM 6 x.2 hx.2]
 rw [cN hf.2 hx.2 (by omega)]
theorem rtEx (x : Int) (hf : xy x) (hx : n7 x = false) (t : List UInt8) : iX ⟨jj x ++ t, false, false⟩ = (x, ⟨t, false, false⟩) := by
 unfold xy at hf
 unfold n7 at hx
 unfold iX jj
 simp only [rB x hf]
theorem rtPl (x : Int) (hf : wt x) (hx : n8 x = false) (t : List UInt8) : i5 ⟨js x ++ t, false, false⟩ = (x, ⟨t, false, false⟩) := by
 unfold wt at hf
 unfold n8 at hx
 unfold i5 js
 simp only [rB x hf]
theorem rtCh (x : Int × Int × Int) (hf : xh x) (hx : ot x = false) (t : List UInt8) : jd ⟨ju x ++ t, false, false⟩ = (x, ⟨t, false, false⟩) := by
 unfold xh at hf
 unfold ot at hx
 unfold jd ju
 simp only [List.append_assoc]
 simp only [rB x.1 hf.1]
 simp only [rB x.2.1 hf.2.1]
 simp only [gM 10080 x.2.2 hx]
 rw [cN hf.2.2 hx (by omega)]
theorem rtMu (x : Int) (hf : wE x) (hx : od x = false) (t : List UInt8) : jx ⟨jB x ++ t, false, false⟩ = (x, ⟨t, false, false⟩) := by
 unfold wE at hf
 unfold od at hx
 unfold jx jB
 simp only [gB 4294967295 x (by omega) hf]
 rw [en hf.1 (by have := hf.2; omega)]
theorem rtWa (x : Int × Int) (hf : wC x) (hx : n9 x = false) (t : List UInt8) : jr ⟨jk x ++ t, false, false⟩ = (x, ⟨t, false, false⟩) := by
 unfold wC at hf
 unfold n9 at hx
 unfold jr jk
 simp only [List.append_assoc]
 simp only [gB 4294967295 x.1 (by omega) hf.1]
 simp only [gM 1000 x.2 hx]
 rw [en hf.1.1 (by have := hf.1.2; omega), cN hf.2 hx (by omega)]
theorem rtPa (x : Int × Int) (hf : wo x) (hx : oh x = false) (t : List UInt8) : jl ⟨jv x ++ t, false, false⟩ = (x, ⟨t, false, false⟩) := by
 unfold wo at hf
 unfold oh at hx
 unfold jl jv
 simp only [List.append_assoc]
 simp only [gB 4294967295 x.1 (by omega) hf.1]
 simp only [gB 4294967295 x.2 (by omega) hf.2]
 rw [en hf.1.1 (by have := hf.1.2; omega), en hf.2.1 (by have := hf.2.2; omega)]
theorem rtZo (b : Int) (ts : List (Int × Int)) (hf : fZo b ts) (hx : wS b ts = false) (t : List UInt8) : kU ⟨t8 b ts ++ t, false, false⟩ = ((b, ts), ⟨t, false, false⟩) := by
 unfold fZo at hf
 unfold wS at hx
 simp only [Bool.or_eq_false_iff] at hx
 unfold kU t8
 simp only [List.append_assoc]
 rw [rtS (-900) 900 b hf.1 hx.1]
 try dsimp only
 rw [gi 700 ts (by omega) hx.2 hf.2 rtTu]
 try dsimp only
theorem rtHs (most : Nat) (ss : List (Int × Int × Int)) (hm : most < 1000000) (hf : yt ss) (hx : uB most ss = false) (t : List UInt8) : iA most ⟨qg ss ++ t, false, false⟩ = (ss, ⟨t, false, false⟩) := by
 unfold yt at hf
 unfold uB at hx
 unfold iA qg
 rw [gi most ss (by omega) hx hf rtSh]
 try dsimp only
theorem rtSe (s : Se) (hf : vN s) (hx : xb s = false) (t : List UInt8) : ip ⟨tC s ++ t, false, false⟩ = (s, ⟨t, false, false⟩) := by
 unfold vN at hf
 unfold xb at hx
 simp only [Bool.or_eq_false_iff] at hx
 unfold ip tC
 simp only [List.append_assoc]
 rw [rtZo s.base s.turns  hf.1 hx.1]
 try dsimp only
 rw [rtHs 10 s.shifts (by omega)  hf.2.1 hx.2.1]
 try dsimp only
 rw [gi 60 s.off (by omega) hx.2.2.1 hf.2.2.1 rtOf]
 try dsimp only
 rw [gM 240 s.before hx.2.2.2.1]
 try dsimp only
 rw [gM 240 s.after hx.2.2.2.2]
 try dsimp only
 rw [cN hf.2.2.2.1 hx.2.2.2.1 (by omega), cN hf.2.2.2.2 hx.2.2.2.2 (by omega)]
theorem xk (xs : List Int) (hf : x9 xs) (hx : tk xs = false) (t : List UInt8) : fP ⟨pC xs ++ t, false, false⟩ = (xs, ⟨t, false, false⟩) := by
 unfold x9 at hf
 unfold tk at hx
 unfold fP pC
 rw [gi 400 xs (by omega) hx hf rtSm]
 try dsimp only
theorem rtRu (r : Ru) (hf : xG r) (hx : xC r = false) (t : List UInt8) : fM ⟨tw r ++ t, false, false⟩ = (r, ⟨t, false, false⟩) := by
 unfold xG at hf
 unfold xC at hx
 simp only [Bool.or_eq_false_iff] at hx
 unfold fM tw
 simp only [List.append_assoc]
 rw [gM 4 r.freq hx.1]
 try dsimp only
 rw [gM 999 r.interval hx.2.1]
 try dsimp only
 rw [gM 5000 r.count hx.2.2.1]
 try dsimp only
 rw [rB r.til hf.2.2.2.1]
 try dsimp only
 rw [xk r.bm  hf.2.2.2.2.1 hx.2.2.2.1]
 try dsimp only
 rw [xk r.bmd  hf.2.2.2.2.2.1 hx.2.2.2.2.1]
 try dsimp only
 rw [gi 400 r.bd (by omega) hx.2.2.2.2.2.1 hf.2.2.2.2.2.2.1 rtDa]
 try dsimp only
 rw [xk r.bsp  hf.2.2.2.2.2.2.2.1 hx.2.2.2.2.2.2.1]
 try dsimp only
 rw [gM 6 r.start hx.2.2.2.2.2.2.2]
 try dsimp only
 rw [cN hf.1 hx.1 (by omega), cN hf.2.1 hx.2.1 (by omega), cN hf.2.2.1 hx.2.2.1 (by omega), cN hf.2.2.2.2.2.2.2.2 hx.2.2.2.2.2.2.2 (by omega)]
theorem rtQu (q : Qu) (hf : uA q) (hx : uX q = false) (t : List UInt8) : ew ⟨qe q ++ t, false, false⟩ = (q, ⟨t, false, false⟩) := by
 unfold uA at hf
 unfold uX at hx
 simp only [Bool.or_eq_false_iff] at hx
 unfold ew qe
 simp only [List.append_assoc]
 rw [rB q.a hf.1]
 try dsimp only
 rw [rB q.b hf.2.1]
 try dsimp only
 rw [gM 10080 q.long hx.1]
 try dsimp only
 rw [gM 1440 q.grid hx.2.1]
 try dsimp only
 rw [gi 64 q.must (by omega) hx.2.2.1 hf.2.2.2.2.1 rtMu]
 try dsimp only
 rw [gi 16 q.may (by omega) hx.2.2.2.1 hf.2.2.2.2.2.1 rtWa]
 try dsimp only
 rw [gM 100 q.seats hx.2.2.2.2.1]
 try dsimp only
 rw [gi 32 q.apart (by omega) hx.2.2.2.2.2.1 hf.2.2.2.2.2.2.2.1 rtPa]
 try dsimp only
 rw [rtHs 8 q.prefer (by omega)  hf.2.2.2.2.2.2.2.2 hx.2.2.2.2.2.2]
 try dsimp only
 rw [cN hf.2.2.1 hx.1 (by omega), cN hf.2.2.2.1 hx.2.1 (by omega), cN hf.2.2.2.2.2.2.1 hx.2.2.2.2.1 (by omega)]
end Go.Proofs.Ytgefljdclekadaa

namespace Go.Proofs.Ytgefljdclekadaa
open Go Go.Vi
def pl (e : Ev) : Ev := if e.again = true then { e with world := false } else ⟨e.start, e.long, e.world, false, Ru0, [], [], []⟩
theorem rtEv (e : Ev) (hf : yn e) (hx : yr e = false) (t : List UInt8) : ir ⟨sE e ++ t, false, false⟩ = (pl e, ⟨t, false, false⟩) := by
 unfold yr at hx
 unfold sE pl
 cases ha : e.again
 ·replace hf := hf.1
  rw [if_neg (by rw [ha]; simp)] at hx
  rw [if_neg (by simp), if_neg (by simp)]
  unfold fE0 at hf
  unfold xE0 at hx
  unfold ir vV
  simp only [List.append_assoc]
  rw [rB e.start hf.1]
  try dsimp only
  rw [gM 10080 e.long hx]
  try dsimp only
  rw [rtF e.again]
  try dsimp only
  rw [ha]
  simp only [Bool.false_eq_true, reduceIte]
  unfold kS
  rw [rtF e.world]
  try dsimp only
  rw [cN hf.2.1 hx (by omega)]
 ·replace hf := hf.2
  rw [if_pos ha] at hx
  rw [if_pos rfl , if_pos rfl]
  unfold fE1 at hf
  unfold xE1 at hx
  simp only [Bool.or_eq_false_iff] at hx
  unfold ir wg
  simp only [List.append_assoc]
  rw [rB e.start hf.1]
  try dsimp only
  rw [gM 10080 e.long hx.1]
  try dsimp only
  rw [rtF e.again]
  try dsimp only
  rw [ha]
  simp only [Bool.false_eq_true, reduceIte]
  unfold kT
  rw [rtRu e.rule  hf.2.2.2.1 hx.2.1]
  try dsimp only
  rw [gi 50 e.ex (by omega) hx.2.2.1 hf.2.2.2.2.1 rtEx]
  try dsimp only
  rw [gi 50 e.plus (by omega) hx.2.2.2.1 hf.2.2.2.2.2.1 rtPl]
  try dsimp only
  rw [gi 50 e.ch (by omega) hx.2.2.2.2 hf.2.2.2.2.2.2 rtCh]
  try dsimp only
  rw [cN hf.2.1 hx.1 (by omega)]
def nA1 (a : As) : As := { A0 1 (uI a.caller) (uI a.number) with se := a.se }
theorem rtA1 (a : As) (hk : a.kind = 1) (hf0 : jI a) (hx : yB a = false) (t : List UInt8) : fK ⟨tX a ++ t, false, false⟩ = (nA1 a, ⟨t, false, false⟩) := by
 have hf : fA1 a := ⟨hf0.kind, hf0.caller, hf0.number, hf0.se⟩
 unfold fA1 at hf
 unfold yB at hx
 simp only [Bool.or_eq_false_iff] at hx
 have hu : uI a.kind = 1 := by rw [hk]; rfl
 unfold fK tX
 simp only [List.append_assoc]
 rw [gM 11 a.kind hx.1]
 try dsimp only
 rw [gB 4294967295 a.caller (by omega) hf.2.1]
 try dsimp only
 rw [gB 18446744073709551615 a.number (by omega) hf.2.2.1]
 try dsimp only
 rw [hu]
 simp only [Nat.reduceEqDiff, reduceIte]
 unfold rL
 try dsimp only
 rw [rtSe a.se  hf.2.2.2 hx.2]
 try dsimp only
 try rfl
def nA2 (a : As) : As := A0 2 (uI a.caller) (uI a.number)
theorem rtA2 (a : As) (hk : a.kind = 2) (hf0 : jI a) (hx : xH a = false) (t : List UInt8) : fK ⟨rv a ++ t, false, false⟩ = (nA2 a, ⟨t, false, false⟩) := by
 have hf : fA2 a := ⟨hf0.kind, hf0.caller, hf0.number⟩
 unfold fA2 at hf
 unfold xH at hx
 have hu : uI a.kind = 2 := by rw [hk]; rfl
 unfold fK rv
 simp only [List.append_assoc]
 rw [gM 11 a.kind hx]
 try dsimp only
 rw [gB 4294967295 a.caller (by omega) hf.2.1]
 try dsimp only
 rw [gB 18446744073709551615 a.number (by omega) hf.2.2]
 try dsimp only
 rw [hu]
 simp only [Nat.reduceEqDiff, reduceIte]
 unfold tZ
 try dsimp only
 try rfl
def nA3 (a : As) : As := { A0 3 (uI a.caller) (uI a.number) with id := a.id, ev := pl a.ev }
theorem rtA3 (a : As) (hk : a.kind = 3) (hf0 : jI a) (hx : yA a = false) (t : List UInt8) : fK ⟨tY a ++ t, false, false⟩ = (nA3 a, ⟨t, false, false⟩) := by
 have hf : fA3 a := ⟨hf0.kind, hf0.caller, hf0.number, hf0.id, hf0.ev⟩
 unfold fA3 at hf
 unfold yA at hx
 simp only [Bool.or_eq_false_iff] at hx
 have hu : uI a.kind = 3 := by rw [hk]; rfl
 unfold fK tY
 simp only [List.append_assoc]
 rw [gM 11 a.kind hx.1]
 try dsimp only
 rw [gB 4294967295 a.caller (by omega) hf.2.1]
 try dsimp only
 rw [gB 18446744073709551615 a.number (by omega) hf.2.2.1]
 try dsimp only
 rw [hu]
 simp only [Nat.reduceEqDiff, reduceIte]
 unfold rD
 try dsimp only
 rw [gB 4294967295 a.id (by omega) hf.2.2.2.1]
 try dsimp only
 rw [rtEv a.ev  hf.2.2.2.2 hx.2]
 try dsimp only
 rw [en hf.2.2.2.1.1 (by have := hf.2.2.2.1.2; omega)]
 try rfl
def nA4 (a : As) : As := { A0 4 (uI a.caller) (uI a.number) with id := a.id }
theorem rtA4 (a : As) (hk : a.kind = 4) (hf0 : jI a) (hx : yq a = false) (t : List UInt8) : fK ⟨tW a ++ t, false, false⟩ = (nA4 a, ⟨t, false, false⟩) := by
 have hf : fA4 a := ⟨hf0.kind, hf0.caller, hf0.number, hf0.id⟩
 unfold fA4 at hf
 unfold yq at hx
 have hu : uI a.kind = 4 := by rw [hk]; rfl
 unfold fK tW
 simp only [List.append_assoc]
 rw [gM 11 a.kind hx]
 try dsimp only
 rw [gB 4294967295 a.caller (by omega) hf.2.1]
 try dsimp only
 rw [gB 18446744073709551615 a.number (by omega) hf.2.2.1]
 try dsimp only
 rw [hu]
 simp only [Nat.reduceEqDiff, reduceIte]
 unfold sK
 try dsimp only
 rw [gB 4294967295 a.id (by omega) hf.2.2.2]
 try dsimp only
 rw [en hf.2.2.2.1 (by have := hf.2.2.2.2; omega)]
 try rfl
def nA5 (a : As) : As := { A0 5 (uI a.caller) (uI a.number) with qu := a.qu, cursor := a.cursor, count := a.count }
theorem rtA5 (a : As) (hk : a.kind = 5) (hf0 : jI a) (hx : yx a = false) (t : List UInt8) : fK ⟨tP a ++ t, false, false⟩ = (nA5 a, ⟨t, false, false⟩) := by
 have hf : fA5 a := ⟨hf0.kind, hf0.caller, hf0.number, hf0.qu, hf0.cursor, hf0.count⟩
 unfold fA5 at hf
 unfold yx at hx
 simp only [Bool.or_eq_false_iff] at hx
 have hu : uI a.kind = 5 := by rw [hk]; rfl
 unfold fK tP
 simp only [List.append_assoc]
 rw [gM 11 a.kind hx.1]
 try dsimp only
 rw [gB 4294967295 a.caller (by omega) hf.2.1]
 try dsimp only
 rw [gB 18446744073709551615 a.number (by omega) hf.2.2.1]
 try dsimp only
 rw [hu]
 simp only [Nat.reduceEqDiff, reduceIte]
 unfold sG
 try dsimp only
 rw [rtQu a.qu  hf.2.2.2.1 hx.2.1]
 try dsimp only
 rw [rtT 64 a.cursor (by omega) hx.2.2.1]
 try dsimp only
 rw [gM 100 a.count hx.2.2.2]
 try dsimp only
 rw [cN hf.2.2.2.2.2 hx.2.2.2 (by omega)]
 try rfl
def nA6 (a : As) : As := { A0 6 (uI a.caller) (uI a.number) with poll := a.poll, qu := a.qu, count := a.count, til := a.til }
theorem rtA6 (a : As) (hk : a.kind = 6) (hf0 : jI a) (hx : yi a = false) (t : List UInt8) : fK ⟨tT a ++ t, false, false⟩ = (nA6 a, ⟨t, false, false⟩) := by
 have hf : fA6 a := ⟨hf0.kind, hf0.caller, hf0.number, hf0.poll, hf0.qu, hf0.count, hf0.til⟩
 unfold fA6 at hf
 unfold yi at hx
 simp only [Bool.or_eq_false_iff] at hx
 have hu : uI a.kind = 6 := by rw [hk]; rfl
 unfold fK tT
 simp only [List.append_assoc]
 rw [gM 11 a.kind hx.1]
 try dsimp only
 rw [gB 4294967295 a.caller (by omega) hf.2.1]
 try dsimp only
 rw [gB 18446744073709551615 a.number (by omega) hf.2.2.1]
 try dsimp only
 rw [hu]
 simp only [Nat.reduceEqDiff, reduceIte]
 unfold sJ
 try dsimp only
 rw [gB 4294967295 a.poll (by omega) hf.2.2.2.1]
 try dsimp only
 rw [rtQu a.qu  hf.2.2.2.2.1 hx.2.1]
 try dsimp only
 rw [gM 100 a.count hx.2.2]
 try dsimp only
 rw [rB a.til hf.2.2.2.2.2.2]
 try dsimp only
 rw [en hf.2.2.2.1.1 (by have := hf.2.2.2.1.2; omega), cN hf.2.2.2.2.2.1 hx.2.2 (by omega)]
 try rfl
def nA7 (a : As) : As := { A0 7 (uI a.caller) (uI a.number) with poll := a.poll, slot := a.slot, yes := a.yes }
theorem rtA7 (a : As) (hk : a.kind = 7) (hf0 : jI a) (hx : yy a = false) (t : List UInt8) : fK ⟨tU a ++ t, false, false⟩ = (nA7 a, ⟨t, false, false⟩) := by
 have hf : fA7 a := ⟨hf0.kind, hf0.caller, hf0.number, hf0.poll, hf0.slot, trivial⟩
 unfold fA7 at hf
 unfold yy at hx
 simp only [Bool.or_eq_false_iff] at hx
 have hu : uI a.kind = 7 := by rw [hk]; rfl
 unfold fK tU
 simp only [List.append_assoc]
 rw [gM 11 a.kind hx.1]
 try dsimp only
 rw [gB 4294967295 a.caller (by omega) hf.2.1]
 try dsimp only
 rw [gB 18446744073709551615 a.number (by omega) hf.2.2.1]
 try dsimp only
 rw [hu]
 simp only [Nat.reduceEqDiff, reduceIte]
 unfold rQ
 try dsimp only
 rw [gB 4294967295 a.poll (by omega) hf.2.2.2.1]
 try dsimp only
 rw [gM 40 a.slot hx.2]
 try dsimp only
 rw [rtF a.yes]
 try dsimp only
 rw [en hf.2.2.2.1.1 (by have := hf.2.2.2.1.2; omega), cN hf.2.2.2.2.1 hx.2 (by omega)]
 try rfl
def nA8 (a : As) : As := { A0 8 (uI a.caller) (uI a.number) with poll := a.poll }
theorem rtA8 (a : As) (hk : a.kind = 8) (hf0 : jI a) (hx : yk a = false) (t : List UInt8) : fK ⟨t7 a ++ t, false, false⟩ = (nA8 a, ⟨t, false, false⟩) := by
 have hf : fA8 a := ⟨hf0.kind, hf0.caller, hf0.number, hf0.poll⟩
 unfold fA8 at hf
 unfold yk at hx
 have hu : uI a.kind = 8 := by rw [hk]; rfl
 unfold fK t7
 simp only [List.append_assoc]
 rw [gM 11 a.kind hx]
 try dsimp only
 rw [gB 4294967295 a.caller (by omega) hf.2.1]
 try dsimp only
 rw [gB 18446744073709551615 a.number (by omega) hf.2.2.1]
 try dsimp only
 rw [hu]
 simp only [Nat.reduceEqDiff, reduceIte]
 unfold sY
 try dsimp only
 rw [gB 4294967295 a.poll (by omega) hf.2.2.2]
 try dsimp only
 rw [en hf.2.2.2.1 (by have := hf.2.2.2.2; omega)]
 try rfl
def nA9 (a : As) : As := { A0 9 (uI a.caller) (uI a.number) with poll := a.poll, id := a.id }
theorem rtA9 (a : As) (hk : a.kind = 9) (hf0 : jI a) (hx : yu a = false) (t : List UInt8) : fK ⟨tQ a ++ t, false, false⟩ = (nA9 a, ⟨t, false, false⟩) := by
 have hf : fA9 a := ⟨hf0.kind, hf0.caller, hf0.number, hf0.poll, hf0.id⟩
 unfold fA9 at hf
 unfold yu at hx
 have hu : uI a.kind = 9 := by rw [hk]; rfl
 unfold fK tQ
 simp only [List.append_assoc]
 rw [gM 11 a.kind hx]
 try dsimp only
 rw [gB 4294967295 a.caller (by omega) hf.2.1]
 try dsimp only
 rw [gB 18446744073709551615 a.number (by omega) hf.2.2.1]
 try dsimp only
 rw [hu]
 simp only [Nat.reduceEqDiff, reduceIte]
 unfold sg
 try dsimp only
 rw [gB 4294967295 a.poll (by omega) hf.2.2.2.1]
 try dsimp only
 rw [gB 4294967295 a.id (by omega) hf.2.2.2.2]
 try dsimp only
 rw [en hf.2.2.2.1.1 (by have := hf.2.2.2.1.2; omega), en hf.2.2.2.2.1 (by have := hf.2.2.2.2.2; omega)]
 try rfl
def xM (a : As) : As := { A0 10 (uI a.caller) (uI a.number) with poll := a.poll }
theorem rtA10 (a : As) (hk : a.kind = 10) (hf0 : jI a) (hx : rr a = false) (t : List UInt8) : fK ⟨kZ a ++ t, false, false⟩ = (xM a, ⟨t, false, false⟩) := by
 have hf : vo a := ⟨hf0.kind, hf0.caller, hf0.number, hf0.poll⟩
 unfold vo at hf
 unfold rr at hx
 have hu : uI a.kind = 10 := by rw [hk]; rfl
 unfold fK kZ
 simp only [List.append_assoc]
 rw [gM 11 a.kind hx]
 try dsimp only
 rw [gB 4294967295 a.caller (by omega) hf.2.1]
 try dsimp only
 rw [gB 18446744073709551615 a.number (by omega) hf.2.2.1]
 try dsimp only
 rw [hu]
 simp only [Nat.reduceEqDiff, reduceIte]
 unfold kF
 try dsimp only
 rw [gB 4294967295 a.poll (by omega) hf.2.2.2]
 try dsimp only
 rw [en hf.2.2.2.1 (by have := hf.2.2.2.2; omega)]
 try rfl
def wl (a : As) : As := { A0 11 (uI a.caller) (uI a.number) with til := a.til }
theorem rtA11 (a : As) (hk : a.kind = 11) (hf0 : jI a) (hx : qh a = false) (t : List UInt8) : fK ⟨kY a ++ t, false, false⟩ = (wl a, ⟨t, false, false⟩) := by
 have hf : ug a := ⟨hf0.kind, hf0.caller, hf0.number, hf0.til⟩
 unfold ug at hf
 unfold qh at hx
 have hu : uI a.kind = 11 := by rw [hk]; rfl
 unfold fK kY
 simp only [List.append_assoc]
 rw [gM 11 a.kind hx]
 try dsimp only
 rw [gB 4294967295 a.caller (by omega) hf.2.1]
 try dsimp only
 rw [gB 18446744073709551615 a.number (by omega) hf.2.2.1]
 try dsimp only
 rw [hu]
 simp only [Nat.reduceEqDiff, reduceIte]
 unfold kt
 try dsimp only
 rw [rB a.til hf.2.2.2]
 try dsimp only
 try rfl
def uV (a : As) : As := if a.kind = 1 then nA1 a else if a.kind = 2 then nA2 a else if a.kind = 3 then nA3 a else if a.kind = 4 then nA4 a else if a.kind = 5 then nA5 a else if a.kind = 6 then nA6 a else if a.kind = 7 then nA7 a else if a.kind = 8 then nA8 a else if a.kind = 9 then nA9 a else if a.kind = 10 then xM a else if a.kind = 11 then wl a else a
theorem rK (a : As) (hf : jI a) (hx : yw a = false) (t : List UInt8) : fK ⟨eM a ++ t, false, false⟩ = (uV a, ⟨t, false, false⟩) := by
 unfold yw at hx
 unfold eM uV
 by_cases k1 : a.kind = 1
 ·simp only [k1, Int.reduceEq, reduceIte] at hx ⊢
  exact rtA1 a k1 hf hx t
 by_cases k2 : a.kind = 2
 ·simp only [k2, Int.reduceEq, reduceIte] at hx ⊢
  exact rtA2 a k2 hf hx t
 by_cases k3 : a.kind = 3
 ·simp only [k3, Int.reduceEq, reduceIte] at hx ⊢
  exact rtA3 a k3 hf hx t
 by_cases k4 : a.kind = 4
 ·simp only [k4, Int.reduceEq, reduceIte] at hx ⊢
  exact rtA4 a k4 hf hx t
 by_cases k5 : a.kind = 5
 ·simp only [k5, Int.reduceEq, reduceIte] at hx ⊢
  exact rtA5 a k5 hf hx t
 by_cases k6 : a.kind = 6
 ·simp only [k6, Int.reduceEq, reduceIte] at hx ⊢
  exact rtA6 a k6 hf hx t
 by_cases k7 : a.kind = 7
 ·simp only [k7, Int.reduceEq, reduceIte] at hx ⊢
  exact rtA7 a k7 hf hx t
 by_cases k8 : a.kind = 8
 ·simp only [k8, Int.reduceEq, reduceIte] at hx ⊢
  exact rtA8 a k8 hf hx t
 by_cases k9 : a.kind = 9
 ·simp only [k9, Int.reduceEq, reduceIte] at hx ⊢
  exact rtA9 a k9 hf hx t
 by_cases k10 : a.kind = 10
 ·simp only [k10, Int.reduceEq, reduceIte] at hx ⊢
  exact rtA10 a k10 hf hx t
 by_cases k11 : a.kind = 11
 ·simp only [k11, Int.reduceEq, reduceIte] at hx ⊢
  exact rtA11 a k11 hf hx t
 simp only [k1, k2, k3, k4, k5, k6, k7, k8, k9, k10, k11, reduceIte] at hx
 simp [xA0] at hx
end Go.Proofs.Ytgefljdclekadaa

namespace Go.Proofs.Ytgefljdclekadaa
open Go Go.Vi
theorem uk {e : Ev} (h : e.fits) : (pl e).fits := by
 unfold pl
 split
 ·exact h
 ·simp [Ev.fits, Ru.fits]
theorem sU {a : As} (h : a.fits) : (uV a).fits := by
 obtain ⟨h1, h2, h3⟩ := h
 have h4 := uk h2
 unfold uV
 repeat' split
 all_goals (refine ⟨?_, ?_, ?_⟩ <;> first | exact h1 | exact h2 | exact h3 | exact h4 | (simp [nA1, nA2, nA3, nA4, nA5, nA6, nA7, nA8, nA9, xM, wl, A0, Se.fits, Ev.fits, Qu.fits, Ru.fits]; done))
def sN (a : As) : Bool := !yw a && decide ((eM a).length ≤ 65536)
def hI (a : As) : Bool := sN a && decide (uV a = a)
def pe (a : As) : D := if hI a = true then .tup [.list none false (r8 (eM a)), .bool true] else .tup [.list none false [], .bool false]
theorem oF {a : As} (hf : jI a) (h : sN a = true) : kv (eM a) = .tup [.agg (uV a).cells, .bool true] := by
 unfold sN at h
 simp only [Bool.and_eq_true, Bool.not_eq_true', decide_eq_true_eq] at h
 have e := rK a hf h.1 []
 rw [List.append_nil] at e
 have g : t9 (uV a, ⟨[], false, false⟩) (eM a) = true := by unfold t9; simp [h.2]
 unfold kv
 rw [e, g]
 rfl
set_option maxHeartbeats 2000000 in
theorem nJ (a : As) (hf : jI a) (hfit : a.fits) (hl : (eM a).length ≤ 1099511627776) : br Try.prog 7 [.agg a.cells] (pe a) := by
 refine bX Try.func7 low7 (by simp [c7]) ?_
 simp only [c7]
 have h1 := ja
 have h2 := ask_w [] false a hf (by simpa using hl)
 simp only [List.nil_append, Bool.false_or, List.length_nil] at h2
 have h3 := lG 65536 (eM a) (yw a) hl (by omega) (sN a) rfl
 have h4 := kL (eM a) hl
 have h5 := mW (uV a) a (sU hfit) hfit
 unfold pe hI
 cases hw : sN a
 ·rw [hw] at h3
  simp only [Bool.false_eq_true, reduceIte, Bool.false_and] at h3 ⊢
  clear h4 h5
  unfold As.cells at h2 ⊢
  repeat' ((first | apply ai | apply ah | apply al | apply aj | apply ae | apply ak mixed | (with_reducible first | refine ax ?_ | refine ar (f := .c (.fn 17 [])) ?_ | refine ar (f := .c (.fn 18 [])) ?_ | refine ar (f := .c (.fn 19 [])) ?_ | refine ao ?_ | refine ab (h1) (by simp) ?_ | refine ab (h2) (by simp) ?_ | refine ab (h3) (by simp) ?_) | ((first | refine ac ?_ ?_ | refine aa ?_ ?_) <;> intro hc <;> (try simp only [hc]) <;> try simp at hc) | (with_reducible refine ⟨?_, ?_⟩; (focus ((repeat' with_reducible refine ⟨?_, ?_⟩) <;> first | exact trivial | assumption | (simp; done) | (simp only [List.length_map] at *; omega) | omega | (simp [fs]; done) | exact ay))) | (with_reducible intro x hx) | omega) <;> (try simp only [Wr, Nat.reduceBEq, reduceIte, Nat.reduceEqDiff, Nat.reduceAdd, Nat.reduceSub, Nat.reduceLT, Nat.reduceLeDiff, reduceCtorEq, ne_eq, fw, fd]))
 ·rw [hw] at h3
  rw [oF hf hw] at h4
  simp only [reduceIte, Bool.true_and] at h3 ⊢
  generalize uV a = x at h4 h5 ⊢
  generalize hd : decide (x = a) = d at h5 ⊢
  unfold As.cells at h2 h4 h5 ⊢
  clear hd
  cases d
  ·simp only [Bool.false_eq_true, reduceIte]
   repeat' ((first | apply ai | apply ah | apply al | apply aj | apply ae | apply ak mixed | (with_reducible first | refine ax ?_ | refine ar (f := .c (.fn 17 [])) ?_ | refine ar (f := .c (.fn 18 [])) ?_ | refine ar (f := .c (.fn 19 [])) ?_ | refine ao ?_ | refine ab (h1) (by simp) ?_ | refine ab (h2) (by simp) ?_ | refine ab (h3) (by simp) ?_) | refine av (h4) ?_ ?_ | refine av (h5) ?_ ?_ | ((first | refine ac ?_ ?_ | refine aa ?_ ?_) <;> intro hc <;> (try simp only [hc]) <;> try simp at hc) | (with_reducible refine ⟨?_, ?_⟩; (focus ((repeat' with_reducible refine ⟨?_, ?_⟩) <;> first | exact trivial | assumption | (simp; done) | (simp only [List.length_map] at *; omega) | omega | (simp [fs]; done) | exact ay))) | (with_reducible intro x hx) | omega) <;> (try simp only [Wr, Nat.reduceBEq, reduceIte, Nat.reduceEqDiff, Nat.reduceAdd, Nat.reduceSub, Nat.reduceLT, Nat.reduceLeDiff, reduceCtorEq, cond_false, ne_eq, fw, fd]))
  ·simp only [reduceIte]
   repeat' ((first | apply ai | apply ah | apply al | apply aj | apply ae | apply ak mixed | (with_reducible first | refine ax ?_ | refine ar (f := .c (.fn 17 [])) ?_ | refine ar (f := .c (.fn 18 [])) ?_ | refine ar (f := .c (.fn 19 [])) ?_ | refine ao ?_ | refine ab (h1) (by simp) ?_ | refine ab (h2) (by simp) ?_ | refine ab (h3) (by simp) ?_) | refine av (h4) ?_ ?_ | refine av (h5) ?_ ?_ | ((first | refine ac ?_ ?_ | refine aa ?_ ?_) <;> intro hc <;> (try simp only [hc]) <;> try simp at hc) | (with_reducible refine ⟨?_, ?_⟩; (focus ((repeat' with_reducible refine ⟨?_, ?_⟩) <;> first | exact trivial | assumption | (simp; done) | (simp only [List.length_map] at *; omega) | omega | (simp [fs]; done) | exact ay))) | (with_reducible intro x hx) | omega) <;> (try simp only [Wr, Nat.reduceBEq, reduceIte, Nat.reduceEqDiff, Nat.reduceAdd, Nat.reduceSub, Nat.reduceLT, Nat.reduceLeDiff, reduceCtorEq, cond_false, ne_eq, fw, fd]))
end Go.Proofs.Ytgefljdclekadaa

namespace Go.Proofs.Ytgefljdclekadaa
open Go Go.Vi
def a5 : As := ⟨2, 5, 7, 5, 0, ⟨0, [], [], [], 0, 0⟩, ⟨0, 0, false, false, Ru0, [], [], []⟩, ⟨0, 0, 0, 0, [], [], 0, [], []⟩, ⟨Array.mk []⟩, 0, 0, 0, false, 0⟩
theorem eA25 : rv a5 = [2, 5, 7] := by
 unfold rv a5
 dsimp only
 rw [show uI 2 = 2 from rfl, show uI 5 = 5 from rfl, show uI 7 = 7 from rfl, ck (by omega), ck (by omega), ck (by omega)]
 rfl
theorem vB : aA 11 ⟨[2, 5, 7], false, false⟩ = (2, ⟨[5, 7], false, false⟩) := by
 have := yh 11 2 (by omega) (by omega) [5, 7] false
 rw [ck (by omega)] at this
 exact this
theorem wI : aA 4294967295 ⟨[5, 7], false, false⟩ = (5, ⟨[7], false, false⟩) := by
 have := yh 4294967295 5 (by omega) (by omega) [7] false
 rw [ck (by omega)] at this
 exact this
theorem wy : aA 18446744073709551615 ⟨[7], false, false⟩ = (7, ⟨[], false, false⟩) := by
 have := yh 18446744073709551615 7 (by omega) (by omega) [] false
 rw [ck (by omega)] at this
 exact this
theorem vu : ∃ R', R'.map gq = a5.cells ∧
  az Try.prog 18 [.ptr 0 0 0 1, .ptr 2 0 0 1] [Cr 1 false, Rd [2, 5, 7] false, Va 42 ib] (.tup [])
   [Cr 1 false, Rd [] false, Va 42 R'] := by
 have h := rO ⟨[2, 5, 7], false, false⟩ (by rw [vB]) (by simp)
 unfold qA at h
 rw [vB] at h
 dsimp only at h
 rw [wI] at h
 dsimp only at h
 rw [wy] at h
 exact h
theorem qz : br Try.prog 9 [.list none false (r8 [2, 5, 7])] (.tup [.agg a5.cells, .bool true]) := by
 refine bX Try.func9 low9 (by simp [c9]) ?_
 obtain ⟨R', hm, ha⟩ := vu
 have hn := iZ none false [2, 5, 7] (by simp)
 have hr := sF 65536 [2, 5, 7] [] false false (by simp) (by omega)
 have hg : (!false && (!false && ([] : List UInt8).isEmpty) && decide (([2, 5, 7] : List UInt8).length ≤ 65536)) = true := by simp
 rw [hg] at hr
 clear hg
 generalize ([2, 5, 7] : List UInt8) = b at hn ha hr ⊢
 generalize ([] : List UInt8) = l0 at ha hr
 unfold ib at ha
 simp only [c9, c9_18, c9_17, c9_16, c9_15]
 obtain ⟨C, hC⟩ : ∃ C, C = c9_14 := ⟨_, rfl⟩
 rw [← hC]
 repeat' ((first | apply ai | apply ah | apply al | apply aj | apply ae | apply ak mixed | (with_reducible first | refine ax ?_ | refine ar (f := .c (.fn 23 [])) ?_ | refine ar (f := .c (.fn 18 [])) ?_ | refine ao ?_ | refine ab (hn) (by simp) ?_ | refine ab (ha) (by simp) ?_) | (refine aa ?_ ?_ <;> intro hc <;> (try simp only [hc]) <;> try simp at hc) | (with_reducible refine ⟨?_, ?_⟩; (focus ((repeat' with_reducible refine ⟨?_, ?_⟩) <;> first | exact trivial | assumption | (simp; done) | (simp only [List.length_map] at *; omega) | omega | (simp [fs]; done) | exact ay))) | (with_reducible intro x hx) | omega) <;> (try simp only [Nat.reduceBEq, reduceIte, Nat.reduceEqDiff, Nat.reduceAdd, Nat.reduceSub, Nat.reduceLT, Nat.reduceLeDiff, reduceCtorEq, ne_eq, fw, fd]))
 refine tn 3 a5.cells rfl rfl rfl rfl hm ?_
 subst hC
 clear ha hm hn
 generalize a5 = v
 simp only [List.set_cons_zero, List.set_cons_succ, As.cells]
 repeat' ((first | apply ai | apply ah | apply al | apply aj | apply ae | apply ak mixed | (with_reducible first | refine ax ?_ | refine ar (f := .c (.fn 24 [])) ?_ | refine ao ?_ | refine ab (hr) (by simp) ?_) | (refine aa ?_ ?_ <;> intro hc <;> (try simp only [hc]) <;> try simp at hc) | (with_reducible refine ⟨?_, ?_⟩; (focus ((repeat' with_reducible refine ⟨?_, ?_⟩) <;> first | exact trivial | assumption | (simp; done) | (simp only [List.length_map] at *; omega) | omega | (simp [fs]; done) | exact ay))) | (with_reducible intro x hx) | omega) <;> (try simp only [Nat.reduceBEq, reduceIte, Nat.reduceEqDiff, Nat.reduceAdd, Nat.reduceSub, reduceCtorEq, fw, fd]))
theorem qO : br Try.prog 7 [.agg a5.cells] (.tup [.list none false (r8 [2, 5, 7]), .bool true]) := by
 refine bX Try.func7 low7 (by simp [c7]) ?_
 simp only [c7]
 have h1 := ja
 have h2 := vF [] false 42 a5.cells 0 a5 rfl rfl rfl rfl (by simp [fA2, a5, cR]) (by rw [eA25]; simp)
 have hx : xH a5 = false := rfl
 rw [hx, eA25] at h2
 simp only [List.nil_append, Bool.false_or, List.length_nil] at h2
 have h3 := lG 65536 [2, 5, 7] false (by simp) (by omega) true (by simp)
 have h4 := qz
 have h5 := mW a5 a5 (by simp [As.fits, a5, Se.fits, Ev.fits, Qu.fits, Ru.fits]) (by simp [As.fits, a5, Se.fits, Ev.fits, Qu.fits, Ru.fits])
 simp only [reduceIte, decide_true] at h3 h5
 generalize ([2, 5, 7] : List UInt8) = b at h2 h3 h4 ⊢
 generalize a5 = v at h2 h4 h5 ⊢
 unfold As.cells at h2 h4 h5 ⊢
 clear hx
 repeat' ((first | apply ai | apply ah | apply al | apply aj | apply ae | apply ak mixed | (with_reducible first | refine ax ?_ | refine ar (f := .c (.fn 17 [])) ?_ | refine ar (f := .c (.fn 18 [])) ?_ | refine ar (f := .c (.fn 19 [])) ?_ | refine ao ?_ | refine ab (h1) (by simp) ?_ | refine ab (h2) (by simp) ?_ | refine ab (h3) (by simp) ?_) | refine av (h4) ?_ ?_ | refine av (h5) ?_ ?_ | ((first | refine ac ?_ ?_ | refine aa ?_ ?_) <;> intro hc <;> (try simp only [hc]) <;> try simp at hc) | (with_reducible refine ⟨?_, ?_⟩; (focus ((repeat' with_reducible refine ⟨?_, ?_⟩) <;> first | exact trivial | assumption | (simp; done) | (simp only [List.length_map] at *; omega) | omega | (simp [fs]; done) | exact ay))) | (with_reducible intro x hx) | omega) <;> (try simp only [Wr, Nat.reduceBEq, reduceIte, Nat.reduceEqDiff, Nat.reduceAdd, Nat.reduceSub, Nat.reduceLT, Nat.reduceLeDiff, reduceCtorEq, cond_false, ne_eq, fw, fd]))
end Go.Proofs.Ytgefljdclekadaa

namespace Go.Proofs.Ytgefljdclekadaa
open Go Go.Vi
theorem uO : br Try.prog 6 [] (.bool true) := by
 refine bX Try.func6 low6 (by simp [c6]) ?_
 simp only [c6]
 have h := qO
 simp only [As.cells, a5, aI, aS, bh, List.map_nil] at h
 have hs : (bs [2, 5, 7] == bs [UInt8.ofNat 2, UInt8.ofNat 5, UInt8.ofNat 7]) = true := by rfl
 repeat' ((first | apply ai | apply al | apply aj | apply ak mixed | (with_reducible first | refine ax ?_ | refine ao ?_) | refine av (h) ?_ ?_ | (refine ac ?_ ?_ <;> intro hc <;> (try simp only [hc]) <;> try simp at hc) | (with_reducible refine ⟨?_, ?_⟩; (focus ((repeat' with_reducible refine ⟨?_, ?_⟩) <;> first | exact trivial | assumption | (simp; done) | (simp only [List.length_map] at *; omega) | omega | (simp [fs]; done) | exact ay))) | (with_reducible intro x hx) | omega) <;> (try simp only [bl, cz, hs, Nat.reduceBEq, reduceIte, Nat.reduceAdd, Nat.reduceLeDiff, cond_true, fw, fd]))
end Go.Proofs.Ytgefljdclekadaa
