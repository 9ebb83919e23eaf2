import Derived.Test.YtgefljdclekadaaRSA
import Derived.Test.YtgefljdclekadaaVi25
import Derived.Test.YtgefljdclekadaaRME
import Derived.Test.YtgefljdclekadaaRMC
set_option linter.unusedVariables false
set_option linter.unusedSimpArgs false
set_option linter.unnecessarySimpa false
namespace Go.Proofs.Ytgefljdclekadaa
open Go Go.Vi



theorem written_p (most : Nat) (l : List UInt8) (bad : Bool) (hl : l.length ≤ 1099511627776) (hm : most ≤ 1099511627776) (ok : Bool) (hok : ok = (!bad && decide (l.length ≤ most))) :
  CallG Try.prog 19 [.ptr 0 0 0 1, .int .i64 most] [Cw 1 bad, Ww 2 l.length, acc true 1 true (r8 l)] (if ok = true then .tup [.list none false (r8 l), .bool true] else .tup [.list (some true) true [], .bool false])
   [Cw 1 bad, Ww 2 l.length, acc true 1 true (r8 l)] := by
 refine callG Try.func19 low19 (by simp [c19]) ?_
 simp only [c19]
 have hb := bytes_p l hl
 cases bad
 ·by_cases hg : most < l.length
  ·have e : ok = false := by rw [hok]; simp; omega
   have c1 : ((l.length : Int) > (most : Int)) = True := by simp; omega
   subst e
   simp only [Bool.false_eq_true, reduceIte]
   repeat' ((first | apply Run_seq | apply Run_skip | apply Run_ret | apply Run_nil | apply Run_condK | apply Run_ops mixed | with_reducible refine PostG_open ?_ | with_reducible refine ro_callA (f := .c (.fn 41 [])) ?_ | with_reducible refine ro_callA' (f := .c (.fn 41 [])) ?_ | with_reducible refine ro_callV ?_ | with_reducible refine CallE_use (hb) (by simp) ?_ | ((first | refine GuardK_split ?_ ?_ | refine CondK_split ?_ ?_) <;> intro hc <;> (try simp only [hc]) <;> try simp at hc) | (with_reducible refine And.intro ?_ ?_; (focus ((repeat' (with_reducible refine And.intro ?_ ?_)) <;> first | exact trivial | assumption | (simp; done) | (simp only [List.length_map] at *; omega) | omega | (simp [D.cells, D.ok, D.one, D.pt, D.pt1]; done) | exact r8_sz))) | (with_reducible intro x hx) | omega) <;> (try simp only [Wr, r8_len, c1, Nat.reduceBEq, argEnv, reduceIte, Nat.reduceEqDiff, Nat.reduceAdd, Nat.reduceSub, reduceCtorEq, binD, binInt, pickD, chkD, faddrD, lenD, loadD, D.pt1, cond_false, mapO, pull, pull2, pull1, pull0, pullσ, pullOb, Go.Vi.freeze, capt, reachL, reachO, isin, merge, mset, renOb, fr, D.ren, D.renL, ofRes, fw]))
   refine GcTo_own [0, 1, 2] (by rfl) (by simp) (by simp [keptW, ObKW, ObW, imp_self, acc_real, acc_nl, acc_pure, acc_fz, acc_sz, acc_rows, acc_spare, D.pt1, D.pt0, pull, pull2, pull1, pull0, idx_hit, idx_miss, sucO_some, pullOb, or_false, mapO])
  ·have e : ok = true := by rw [hok]; simp; omega
   have c1 : ((l.length : Int) > (most : Int)) = False := by simp; omega
   subst e
   simp only [reduceIte]
   repeat' ((first | apply Run_seq | apply Run_skip | apply Run_ret | apply Run_nil | apply Run_condK | apply Run_ops mixed | with_reducible refine PostG_open ?_ | with_reducible refine ro_callA (f := .c (.fn 41 [])) ?_ | with_reducible refine ro_callA' (f := .c (.fn 41 [])) ?_ | with_reducible refine ro_callV ?_ | with_reducible refine CallE_use (hb) (by simp) ?_ | ((first | refine GuardK_split ?_ ?_ | refine CondK_split ?_ ?_) <;> intro hc <;> (try simp only [hc]) <;> try simp at hc) | (with_reducible refine And.intro ?_ ?_; (focus ((repeat' (with_reducible refine And.intro ?_ ?_)) <;> first | exact trivial | assumption | (simp; done) | (simp only [List.length_map] at *; omega) | omega | (simp [D.cells, D.ok, D.one, D.pt, D.pt1]; done) | exact r8_sz))) | (with_reducible intro x hx) | omega) <;> (try simp only [Wr, r8_len, c1, Nat.reduceBEq, argEnv, reduceIte, Nat.reduceEqDiff, Nat.reduceAdd, Nat.reduceSub, reduceCtorEq, binD, binInt, pickD, chkD, faddrD, lenD, loadD, D.pt1, cond_false, mapO, pull, pull2, pull1, pull0, pullσ, pullOb, Go.Vi.freeze, capt, reachL, reachO, isin, merge, mset, renOb, fr, D.ren, D.renL, ofRes, fw]))
   refine GcTo_own [0, 1, 2] (by rfl) (by simp) (by simp [keptW, ObKW, ObW, imp_self, acc_real, acc_nl, acc_pure, acc_fz, acc_sz, acc_rows, acc_spare, D.pt1, D.pt0, pull, pull2, pull1, pull0, idx_hit, idx_miss, sucO_some, pullOb, or_false, mapO])
 ·have e : ok = false := by rw [hok]; simp
  subst e
  simp only [Bool.false_eq_true, reduceIte]
  repeat' ((first | apply Run_seq | apply Run_skip | apply Run_ret | apply Run_nil | apply Run_condK | apply Run_ops mixed | with_reducible refine PostG_open ?_ | with_reducible refine ro_callA (f := .c (.fn 41 [])) ?_ | with_reducible refine ro_callA' (f := .c (.fn 41 [])) ?_ | with_reducible refine ro_callV ?_ | with_reducible refine CallE_use (hb) (by simp) ?_ | ((first | refine GuardK_split ?_ ?_ | refine CondK_split ?_ ?_) <;> intro hc <;> (try simp only [hc]) <;> try simp at hc) | (with_reducible refine And.intro ?_ ?_; (focus ((repeat' (with_reducible refine And.intro ?_ ?_)) <;> first | exact trivial | assumption | (simp; done) | (simp only [List.length_map] at *; omega) | omega | (simp [D.cells, D.ok, D.one, D.pt, D.pt1]; done) | exact r8_sz))) | (with_reducible intro x hx) | omega) <;> (try simp only [Wr, Nat.reduceBEq, argEnv, reduceIte, Nat.reduceEqDiff, Nat.reduceAdd, Nat.reduceSub, reduceCtorEq, pickD, chkD, faddrD, loadD, D.pt1, cond_true, mapO, pull, pull2, pull1, pull0, pullσ, pullOb, Go.Vi.freeze, capt, reachL, reachO, isin, merge, mset, renOb, fr, D.ren, D.renL, ofRes, fw]))
  refine GcTo_own [0, 1, 2] (by rfl) (by simp) (by simp [keptW, ObKW, ObW, imp_self, acc_real, acc_nl, acc_pure, acc_fz, acc_sz, acc_rows, acc_spare, D.pt1, D.pt0, pull, pull2, pull1, pull0, idx_hit, idx_miss, sucO_some, pullOb, or_false, mapO])
theorem read_p (most : Nat) (b l : List UInt8) (rb cb : Bool) (hb : b.length ≤ 1099511627776) (hm : most ≤ 1099511627776) :
  CallG Try.prog 24 [.ptr 0 0 0 1, .list none false (r8 b), .int .i64 most] [Cr 1 cb, Rd l rb] (.bool (!cb && (!rb && l.isEmpty) && decide (b.length ≤ most)))
   [Cr 1 cb, Rd l rb] := by
 refine callG Try.func24 low24 (by simp [c24]) ?_
 simp only [c24]
 have he := end_p l rb
 generalize (!rb && l.isEmpty) = x at he ⊢
 cases cb
 ·cases x
  ·repeat' ((first | apply Run_seq | apply Run_ret | apply Run_nil | apply Run_ops mixed | with_reducible refine PostG_open ?_ | with_reducible refine ro_callV ?_ | refine CallV_pure (he) ?_ ?_ | (refine GuardK_split ?_ ?_ <;> intro hc <;> (try simp only [hc]) <;> try simp at hc) | (with_reducible refine And.intro ?_ ?_; (focus ((repeat' (with_reducible refine And.intro ?_ ?_)) <;> first | exact trivial | assumption | (simp; done) | (simp only [List.length_map] at *; omega) | omega | (simp [D.cells, D.ok, D.one, D.pt, D.pt1]; done) | exact r8_sz))) | (with_reducible intro x hx) | omega) <;> (try simp only [Nat.reduceBEq, argEnv, reduceIte, Nat.reduceAdd, okD, unD, pickD, chkD, faddrD, loadD, D.pt, D.pt1, cond_true, cond_false, view, view2, view1, view0, mapO, D.sc, D.sc1, D.sc2, ofRes, fw]))
   refine GcTo_own [0, 1] (by rfl) (by simp) (by simp [keptW, ObKW, ObW, imp_self, D.pt1, D.pt0, pull, pull2, pull1, pull0, idx_hit, idx_miss, sucO_some, pullOb, or_false, mapO])
  ·by_cases hg : b.length ≤ most
   ·have e : decide (b.length ≤ most) = true := by simpa using hg
    have c1 : ((b.length : Int) ≤ (most : Int)) = True := by simp; omega
    rw [e]
    repeat' ((first | apply Run_seq | apply Run_ret | apply Run_nil | apply Run_ops mixed | with_reducible refine PostG_open ?_ | with_reducible refine ro_callV ?_ | refine CallV_pure (he) ?_ ?_ | (refine GuardK_split ?_ ?_ <;> intro hc <;> (try simp only [hc]) <;> try simp at hc) | (with_reducible refine And.intro ?_ ?_; (focus ((repeat' (with_reducible refine And.intro ?_ ?_)) <;> first | exact trivial | assumption | (simp; done) | (simp only [List.length_map] at *; omega) | omega | (simp [D.cells, D.ok, D.one, D.pt, D.pt1]; done) | exact r8_sz))) | (with_reducible intro x hx) | omega) <;> (try simp only [r8_len, c1, Nat.reduceBEq, argEnv, reduceIte, Nat.reduceAdd, binD, binInt, okD, unD, pickD, chkD, faddrD, lenD, loadD, D.pt, D.pt1, cond_true, view, view2, view1, view0, mapO, D.sc, D.sc1, D.sc2, ofRes, fw]))
    refine GcTo_own [0, 1] (by rfl) (by simp) (by simp [keptW, ObKW, ObW, imp_self, D.pt1, D.pt0, pull, pull2, pull1, pull0, idx_hit, idx_miss, sucO_some, pullOb, or_false, mapO])
   ·have e : decide (b.length ≤ most) = false := by simpa using hg
    have c1 : ((b.length : Int) ≤ (most : Int)) = False := by simp; omega
    rw [e]
    repeat' ((first | apply Run_seq | apply Run_ret | apply Run_nil | apply Run_ops mixed | with_reducible refine PostG_open ?_ | with_reducible refine ro_callV ?_ | refine CallV_pure (he) ?_ ?_ | (refine GuardK_split ?_ ?_ <;> intro hc <;> (try simp only [hc]) <;> try simp at hc) | (with_reducible refine And.intro ?_ ?_; (focus ((repeat' (with_reducible refine And.intro ?_ ?_)) <;> first | exact trivial | assumption | (simp; done) | (simp only [List.length_map] at *; omega) | omega | (simp [D.cells, D.ok, D.one, D.pt, D.pt1]; done) | exact r8_sz))) | (with_reducible intro x hx) | omega) <;> (try simp only [r8_len, c1, Nat.reduceBEq, argEnv, reduceIte, Nat.reduceAdd, binD, binInt, okD, unD, pickD, chkD, faddrD, lenD, loadD, D.pt, D.pt1, cond_true, view, view2, view1, view0, mapO, D.sc, D.sc1, D.sc2, ofRes, fw]))
    refine GcTo_own [0, 1] (by rfl) (by simp) (by simp [keptW, ObKW, ObW, imp_self, D.pt1, D.pt0, pull, pull2, pull1, pull0, idx_hit, idx_miss, sucO_some, pullOb, or_false, mapO])
 ·repeat' ((first | apply Run_seq | apply Run_ret | apply Run_nil | apply Run_ops mixed | with_reducible refine PostG_open ?_ | with_reducible refine ro_callV ?_ | refine CallV_pure (he) ?_ ?_ | (refine GuardK_split ?_ ?_ <;> intro hc <;> (try simp only [hc]) <;> try simp at hc) | (with_reducible refine And.intro ?_ ?_; (focus ((repeat' (with_reducible refine And.intro ?_ ?_)) <;> first | exact trivial | assumption | (simp; done) | (simp only [List.length_map] at *; omega) | omega | (simp [D.cells, D.ok, D.one, D.pt, D.pt1]; done) | exact r8_sz))) | (with_reducible intro x hx) | omega) <;> (try simp only [Nat.reduceBEq, argEnv, Nat.reduceAdd, okD, unD, pickD, chkD, faddrD, loadD, cond_false, ofRes, fw]))
  refine GcTo_own [0, 1] (by rfl) (by simp) (by simp [keptW, ObKW, ObW, imp_self, D.pt1, D.pt0, pull, pull2, pull1, pull0, idx_hit, idx_miss, sucO_some, pullOb, or_false, mapO])
end Go.Proofs.Ytgefljdclekadaa

namespace Go.Proofs.Ytgefljdclekadaa
open Go Go.Vi

theorem rtK (m k : Nat) (hk : k < 18446744073709551616) (hm : k ≤ m) (t : List UInt8) (c : Bool) : rqN m ⟨num k ++ t, false, c⟩ = (k, ⟨t, false, c⟩) := by
 unfold rqN rdN
 simp only [Bool.false_eq_true, reduceIte]
 rw [rd_num0 m k t hk hm]
end Go.Proofs.Ytgefljdclekadaa

namespace Go.Proofs.Ytgefljdclekadaa
open Go Go.Vi

end Go.Proofs.Ytgefljdclekadaa

namespace Go.Proofs.Ytgefljdclekadaa
open Go Go.Vi



end Go.Proofs.Ytgefljdclekadaa

namespace Go.Proofs.Ytgefljdclekadaa
open Go Go.Vi



def a5 : As := ⟨2, 5, 7, 5, 0, ⟨0, [], [], [], 0, 0⟩, ⟨0, 0, false, false, Ru0, [], [], []⟩, ⟨0, 0, 0, 0, [], [], 0, [], []⟩, ⟨Array.mk []⟩, 0, 0, 0, false, 0⟩
theorem eA25 : eA2 a5 = [2, 5, 7] := by
 unfold eA2 a5
 dsimp only
 rw [show uI 2 = 2 from rfl, show uI 5 = 5 from rfl, show uI 7 = 7 from rfl, num_small (by omega), num_small (by omega), num_small (by omega)]
 rfl
theorem read5 : rqN 11 ⟨[2, 5, 7], false, false⟩ = (2, ⟨[5, 7], false, false⟩) := by
 have := rtK 11 2 (by omega) (by omega) [5, 7] false
 rw [num_small (by omega)] at this
 exact this
theorem read5b : rqN 4294967295 ⟨[5, 7], false, false⟩ = (5, ⟨[7], false, false⟩) := by
 have := rtK 4294967295 5 (by omega) (by omega) [7] false
 rw [num_small (by omega)] at this
 exact this
theorem read5c : rqN 18446744073709551615 ⟨[7], false, false⟩ = (7, ⟨[], false, false⟩) := by
 have := rtK 18446744073709551615 7 (by omega) (by omega) [] false
 rw [num_small (by omega)] at this
 exact this
theorem ask5_rr : ∃ R', R'.map nl1 = a5.cells ∧
  CallG Try.prog 18 [.ptr 0 0 0 1, .ptr 2 0 0 1] [Cr 1 false, Rd [2, 5, 7] false, Va 42 Z42] (.tup [])
   [Cr 1 false, Rd [] false, Va 42 R'] := by
 have h := ask2_r ⟨[2, 5, 7], false, false⟩ (by rw [read5]) (by simp)
 rw [read5] at h
 dsimp only at h
 rw [read5b] at h
 dsimp only at h
 rw [read5c] at h
 exact h
theorem getAsk5_p : PureD Try.prog 9 [.list none false (r8 [2, 5, 7])] (.tup [.agg a5.cells, .bool true]) := by
 refine pureV Try.func9 low9 (by simp [c9]) ?_
 obtain ⟨R', hm, ha⟩ := ask5_rr
 have hn := newReader_p none false [2, 5, 7] (by simp)
 have hr := read_p 65536 [2, 5, 7] [] false false (by simp) (by omega)
 have hg : (!false && (!false && ([] : List UInt8).isEmpty) && decide (([2, 5, 7] : List UInt8).length ≤ 65536)) = true := by simp
 rw [hg] at hr
 clear hg
 generalize ([2, 5, 7] : List UInt8) = b at hn ha hr ⊢
 generalize ([] : List UInt8) = l0 at ha hr
 unfold Z42 at ha
 simp only [c9, c9_18, c9_17, c9_16, c9_15]
 obtain ⟨C, hC⟩ : ∃ C, C = c9_14 := ⟨_, rfl⟩
 rw [← hC]
 repeat' ((first | apply Run_seq | apply Run_skip | apply Run_ret | apply Run_nil | apply Run_condK | apply Run_ops mixed | with_reducible refine PostV_open ?_ | with_reducible refine ro_callA (f := .c (.fn 23 [])) ?_ | with_reducible refine ro_callA' (f := .c (.fn 23 [])) ?_ | with_reducible refine ro_callA (f := .c (.fn 18 [])) ?_ | with_reducible refine ro_callA' (f := .c (.fn 18 [])) ?_ | with_reducible refine ro_callV ?_ | with_reducible refine CallE_use (hn) (by simp) ?_ | with_reducible refine CallE_use (ha) (by simp) ?_ | (refine CondK_split ?_ ?_ <;> intro hc <;> (try simp only [hc]) <;> try simp at hc) | (with_reducible refine And.intro ?_ ?_; (focus ((repeat' (with_reducible refine And.intro ?_ ?_)) <;> first | exact trivial | assumption | (simp; done) | (simp only [List.length_map] at *; omega) | omega | (simp [D.cells, D.ok, D.one, D.pt, D.pt1]; done) | exact r8_sz))) | (with_reducible intro x hx) | omega) <;> (try simp only [Nat.reduceBEq, argEnv, reduceIte, Nat.reduceEqDiff, Nat.reduceAdd, Nat.reduceSub, Nat.reduceLT, Nat.reduceLeDiff, reduceCtorEq, aggD, fillD, splice, D.cells, D.ok, D.one, D.pt1, D.pt0, ne_eq, mapO, pull, pull2, pull1, pull0, pullσ, pullOb, Go.Vi.freeze, capt, reachL, reachO, isin, merge, mset, renOb, fr, D.ren, D.renL, fw]))
 refine Run_nl 3 a5.cells rfl rfl rfl rfl hm ?_
 subst hC
 clear ha hm hn
 generalize a5 = v
 simp only [List.set_cons_zero, List.set_cons_succ, As.cells]
 repeat' ((first | apply Run_seq | apply Run_skip | apply Run_ret | apply Run_nil | apply Run_condK | apply Run_ops mixed | with_reducible refine PostV_open ?_ | with_reducible refine ro_callA (f := .c (.fn 24 [])) ?_ | with_reducible refine ro_callA' (f := .c (.fn 24 [])) ?_ | with_reducible refine ro_callV ?_ | with_reducible refine CallE_use (hr) (by simp) ?_ | (refine CondK_split ?_ ?_ <;> intro hc <;> (try simp only [hc]) <;> try simp at hc) | (with_reducible refine And.intro ?_ ?_; (focus ((repeat' (with_reducible refine And.intro ?_ ?_)) <;> first | exact trivial | assumption | (simp; done) | (simp only [List.length_map] at *; omega) | omega | (simp [D.cells, D.ok, D.one, D.pt, D.pt1]; done) | exact r8_sz))) | (with_reducible intro x hx) | omega) <;> (try simp only [Nat.reduceBEq, reduceIte, Nat.reduceEqDiff, Nat.reduceAdd, Nat.reduceSub, reduceCtorEq, okD, unD, loadD, splice, D.cells, D.ok, D.one, D.pt1, D.pt0, D.norm1, view, view2, view1, view0, mapO, pull, pull2, pull1, pull0, pullσ, pullOb, Go.Vi.freeze, capt, reachL, reachO, isin, merge, mset, renOb, fr, D.ren, D.renL, ofRes, fw]))
theorem putAsk5_p : PureD Try.prog 7 [.agg a5.cells] (.tup [.list none false (r8 [2, 5, 7]), .bool true]) := by
 refine pureV Try.func7 low7 (by simp [c7]) ?_
 simp only [c7]
 have h1 := newWriter_p
 have h2 := cA2_w [] false 42 a5.cells 0 a5 rfl rfl rfl rfl (by simp [fA2, a5, Fit]) (by rw [eA25]; simp)
 have hx : xA2 a5 = false := rfl
 rw [hx, eA25] at h2
 simp only [List.nil_append, Bool.false_or, List.length_nil] at h2
 have h3 := written_p 65536 [2, 5, 7] false (by simp) (by omega) true (by simp)
 have h4 := getAsk5_p
 have h5 := recAs_p a5 a5 (by simp [As.fits, a5, Se.fits, Ev.fits, Qu.fits, Ru.fits]) (by simp [As.fits, a5, Se.fits, Ev.fits, Qu.fits, Ru.fits])
 simp only [reduceIte, decide_true] at h3 h5
 generalize ([2, 5, 7] : List UInt8) = b at h2 h3 h4 ⊢
 generalize a5 = v at h2 h4 h5 ⊢
 unfold As.cells at h2 h4 h5 ⊢
 clear hx
 repeat' ((first | apply Run_seq | apply Run_skip | apply Run_ret | apply Run_nil | apply Run_condK | apply Run_ops mixed | with_reducible refine PostV_open ?_ | with_reducible refine ro_callA (f := .c (.fn 17 [])) ?_ | with_reducible refine ro_callA' (f := .c (.fn 17 [])) ?_ | with_reducible refine ro_callA (f := .c (.fn 18 [])) ?_ | with_reducible refine ro_callA' (f := .c (.fn 18 [])) ?_ | with_reducible refine ro_callA (f := .c (.fn 19 [])) ?_ | with_reducible refine ro_callA' (f := .c (.fn 19 [])) ?_ | with_reducible refine ro_callV ?_ | with_reducible refine CallE_use (h1) (by simp) ?_ | with_reducible refine CallE_use (h2) (by simp) ?_ | with_reducible refine CallE_use (h3) (by simp) ?_ | refine CallV_pure (h4) ?_ ?_ | refine CallV_pure (h5) ?_ ?_ | ((first | refine GuardK_split ?_ ?_ | refine CondK_split ?_ ?_) <;> intro hc <;> (try simp only [hc]) <;> try simp at hc) | (with_reducible refine And.intro ?_ ?_; (focus ((repeat' (with_reducible refine And.intro ?_ ?_)) <;> first | exact trivial | assumption | (simp; done) | (simp only [List.length_map] at *; omega) | omega | (simp [D.cells, D.ok, D.one, D.pt, D.pt1]; done) | exact r8_sz))) | (with_reducible intro x hx) | omega) <;> (try simp only [Wr, Nat.reduceBEq, argEnv, reduceIte, Nat.reduceEqDiff, Nat.reduceAdd, Nat.reduceSub, Nat.reduceLT, Nat.reduceLeDiff, reduceCtorEq, okD, aggD, unD, pickD, extD, loadD, fillD, splice, D.cells, D.ok, D.one, D.pt, D.pt1, D.pt0, D.norm1, cond_false, ne_eq, view, view2, view1, view0, mapO, D.sc, D.sc1, D.sc2, pull, pull2, pull1, pull0, pullσ, pullOb, Go.Vi.freeze, capt, reachL, reachO, isin, merge, mset, renOb, fr, D.ren, D.renL, ofRes, fw]))
end Go.Proofs.Ytgefljdclekadaa

namespace Go.Proofs.Ytgefljdclekadaa
open Go Go.Vi



theorem fixed_p : PureD Try.prog 6 [] (.bool true) := by
 refine pureV Try.func6 low6 (by simp [c6]) ?_
 simp only [c6]
 have h := putAsk5_p
 simp only [As.cells, a5, row1, row2, row3, List.map_nil] at h
 have hs : (bs [2, 5, 7] == bs [UInt8.ofNat 2, UInt8.ofNat 5, UInt8.ofNat 7]) = true := by rfl
 repeat' ((first | apply Run_seq | apply Run_ret | apply Run_nil | apply Run_ops mixed | with_reducible refine PostV_open ?_ | with_reducible refine ro_callV ?_ | refine CallV_pure (h) ?_ ?_ | (refine GuardK_split ?_ ?_ <;> intro hc <;> (try simp only [hc]) <;> try simp at hc) | (with_reducible refine And.intro ?_ ?_; (focus ((repeat' (with_reducible refine And.intro ?_ ?_)) <;> first | exact trivial | assumption | (simp; done) | (simp only [List.length_map] at *; omega) | omega | (simp [D.cells, D.ok, D.one, D.pt, D.pt1]; done) | exact r8_sz))) | (with_reducible intro x hx) | omega) <;> (try simp only [bytes_r8, bs_mk, hs, Nat.reduceBEq, argEnv, reduceIte, Nat.reduceAdd, Nat.reduceLeDiff, binD, binStr, aggD, pickD, strD, extD, fillD, splice, D.cells, D.ok, D.one, D.pt, D.pt1, D.pt0, D.norm1, cond_true, view, view2, view1, view0, mapO, D.sc, D.sc1, D.sc2, ofRes, fw]))
end Go.Proofs.Ytgefljdclekadaa
