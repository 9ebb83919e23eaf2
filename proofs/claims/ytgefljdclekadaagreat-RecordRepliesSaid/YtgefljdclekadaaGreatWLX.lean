import Derived.Test.YtgefljdclekadaaGreatWLR
import Derived.Test.YtgefljdclekadaaGreatVi25
import Derived.Test.YtgefljdclekadaaGreatWMI
set_option linter.unusedVariables false
set_option linter.unusedSimpArgs false
set_option linter.unnecessarySimpa false
namespace Go.Proofs.YtgefljdclekadaaGreat
open Go Go.Vi



set_option maxHeartbeats 8000000 in
set_option maxRecDepth 8000 in
/-- RecordReplies answers true. -/
theorem recordReplies_p (r : Re) (hr : r.fits) (fr : r.great = false → fRe r) :
  PureD Tryz.prog 3 [.agg r.cells] (.bool true) := by
 refine pureV Tryz.func3 low3 (by simp [c3]) ?_
 have g1 := greatRe_p r
 have f := fixed_p
 simp only [c3]
 cases ga : r.great
 ·rw [ga] at g1
  have f1 := fr ga
  have l1 := lenRe f1 ga
  have p1 := putReply_p r f1 hr (by omega)
  have p2 := refReply_p r hr f1 (by omega)
  unfold putAnsR at p1
  cases ka : putOkR r
  ·rw [ka] at p1 p2
   simp only [Bool.false_eq_true, reduceIte] at p1 p2
   have hs : (bs [] == bs []) = true := by rfl
   have hb : bytesOf [] = some [] := rfl
   simp only [Re.cells] at g1 p1 p2 ⊢
   repeat' ((first | apply Run_seq | apply Run_skip | apply Run_ret | apply Run_nil | apply Run_condK | apply Run_ops mixed | (with_reducible first | refine PostV_open ?_ | refine ro_callV ?_) | refine CallV_pure (g1) ?_ ?_ | refine CallV_pure (f) ?_ ?_ | refine CallV_pure (p1) ?_ ?_ | refine CallV_pure (p2) ?_ ?_ | ((first | refine GuardK_split ?_ ?_ | refine CondK_split ?_ ?_) <;> intro hc <;> (try simp only [hc]) <;> try simp at hc) | (with_reducible refine ⟨?_, ?_⟩; (focus ((repeat' with_reducible refine ⟨?_, ?_⟩) <;> first | exact trivial | assumption | (simp; done) | (simp only [List.length_map] at *; omega) | omega | (simp [fs]; done) | exact r8_sz))) | (with_reducible intro x hx) | omega) <;> (try simp only [bs_mk, hs, hb, Nat.reduceBEq, reduceIte, Nat.reduceAdd, reduceCtorEq, cond_true, cond_false, ne_eq, beq_self_eq_true, fw, fd]))
  ·rw [ka] at p1 p2
   simp only [reduceIte] at p1 p2
   have wa : wOkR r = true := by unfold putOkR at ka; simp only [Bool.and_eq_true] at ka; exact ka.1
   have na : nRe r = r := by unfold putOkR at ka; simp only [Bool.and_eq_true, decide_eq_true_eq] at ka; exact ka.2
   have q1 := getReply_p (eRe r) (by omega)
   rw [getAnsR_put f1 wa, na] at q1
   have s1 := refRe_p r r hr hr
   simp only [decide_true] at s1
   have hs : (bs (eRe r) == bs (eRe r)) = true := by rw [bs_beq]; simp
   generalize eRe r = b at p1 p2 q1 hs
   simp only [Re.cells] at g1 p1 p2 q1 s1 ⊢
   repeat' ((first | apply Run_seq | apply Run_skip | apply Run_ret | apply Run_nil | apply Run_condK | apply Run_ops mixed | (with_reducible first | refine PostV_open ?_ | refine ro_callV ?_) | refine CallV_pure (g1) ?_ ?_ | refine CallV_pure (f) ?_ ?_ | refine CallV_pure (p1) ?_ ?_ | refine CallV_pure (p2) ?_ ?_ | refine CallV_pure (q1) ?_ ?_ | refine CallV_pure (s1) ?_ ?_ | ((first | refine GuardK_split ?_ ?_ | refine CondK_split ?_ ?_) <;> intro hc <;> (try simp only [hc]) <;> try simp at hc) | (with_reducible refine ⟨?_, ?_⟩; (focus ((repeat' with_reducible refine ⟨?_, ?_⟩) <;> first | exact trivial | assumption | (simp; done) | (simp only [List.length_map] at *; omega) | omega | (simp [fs]; done) | exact r8_sz))) | (with_reducible intro x hx) | omega) <;> (try simp only [bytes_r8, bs_mk, hs, Nat.reduceBEq, reduceIte, Nat.reduceAdd, reduceCtorEq, cond_true, cond_false, ne_eq, beq_self_eq_true, fw, fd]))
 ·rw [ga] at g1
  simp only [Re.cells] at g1 ⊢
  repeat' ((first | apply Run_seq | apply Run_skip | apply Run_ret | apply Run_nil | apply Run_condK | apply Run_ops mixed | (with_reducible first | refine PostV_open ?_ | refine ro_callV ?_) | refine CallV_pure (g1) ?_ ?_ | refine CallV_pure (f) ?_ ?_ | ((first | refine GuardK_split ?_ ?_ | refine CondK_split ?_ ?_) <;> intro hc <;> (try simp only [hc]) <;> try simp at hc) | (with_reducible refine ⟨?_, ?_⟩; (focus ((repeat' with_reducible refine ⟨?_, ?_⟩) <;> first | exact trivial | assumption | (simp; done) | (simp only [List.length_map] at *; omega) | omega | (simp [fs]; done) | exact r8_sz))) | (with_reducible intro x hx) | omega) <;> (try simp only [Nat.reduceBEq, reduceIte, Nat.reduceAdd, reduceCtorEq, ne_eq, fw, fd]))
end Go.Proofs.YtgefljdclekadaaGreat
