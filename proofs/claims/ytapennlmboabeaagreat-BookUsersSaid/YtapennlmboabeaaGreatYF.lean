import Derived.Test.YtapennlmboabeaaGreatYB
import Derived.Test.YtapennlmboabeaaGreatVi33
set_option linter.unusedVariables false
set_option linter.unusedSimpArgs false
set_option linter.unnecessarySimpa false
namespace Go.Proofs.YtapennlmboabeaaGreat
open Go Go.Vi
theorem exYGP : type_of% (an @row1_len (an @row2_len (an @row3_len (an @rowsE_len (an @rowsU_len (an @rowsP_len @rowsD_len)))))) := (an @row1_len (an @row2_len (an @row3_len (an @rowsE_len (an @rowsU_len (an @rowsP_len @rowsD_len))))))
theorem zone0_p : PureD Tryz.prog 35 [.agg [.int .i64 0, L []]] (.bool true) := by
 have w : PureD Tryz.prog 66 [.int .i64 0] (.bool false) := by
  refine pureV Tryz.func66 low66 (by simp [c66]) ?_
  simp only [c66]
  exact wk1 [] [] exYGP
 refine pureV Tryz.func35 low35 (by simp [c35]) ?_
 simp only [c35]
 refine wk [] [] exYGP ?_
 refine Run_loop (ι := Unit) (fun _ => ([(16, .int .i64 0), (17, .int .i64 0)], [])) (fun _ => 0) ⟨⟩ ?_ ?_
 ·exact gcw [] exYGP
 rintro ⟨⟩ hk
 dsimp only
 exact wk0 [] [] exYGP
theorem idx0_p : PureD Tryz.prog 111 [L [], .fn 68 []] (.int .i64 (-1)) := by
 refine pureV Tryz.func111 low111 (by simp [c111]) ?_
 simp only [c111]
 refine wk [] [] exYGP ?_
 refine Run_loop (ι := Unit) (fun _ => ([(7, .int .i64 0), (8, .int .i64 0)], [])) (fun _ => 0) ⟨⟩ ?_ ?_
 ·exact gcw [] exYGP
 rintro ⟨⟩ hk
 dsimp only
 exact wk0 [] [] exYGP
theorem con0_p : PureD Tryz.prog 67 [L [], .fn 68 []] (.bool false) := by
 refine pureV Tryz.func67 low67 (by simp [c67]) ?_
 simp only [c67]
 have uc1 := @idx0_p
 exact wk1 [] [] exYGP
theorem hours0_p : PureD Tryz.prog 36 [.agg [L [], L []]] (.bool true) := by
 refine pureV Tryz.func36 low36 (by simp [c36]) ?_
 simp only [c36]
 refine wk [] [] exYGP ?_
 refine Run_loop (ι := Unit) (fun _ => ([(1, .ptr 0 0 0 1), (17, .int .i64 0), (18, .int .i64 0)], [⟨true, false, true, false, 2, [[L [], L []]], some 0⟩])) (fun _ => 0) ⟨⟩ ?_ ?_
 ·exact gcw [0] exYGP
 rintro ⟨⟩ hk
 dsimp only
 have uc1 := @con0_p
 exact wk0 [] [] exYGP
theorem settings0_p : PureD Tryz.prog 12 [.agg [.int .i64 0, L [], L [], L [], .int .i64 0, .int .i64 0]] (.bool true) := by
 refine pureV Tryz.func12 low12 (by simp [c12]) ?_
 simp only [c12]
 have uc1 := @zone0_p
 have uc2 := @hours0_p
 exact wk1 [] [] exYGP
theorem put0_p (t : Int) : PureD Tryz.prog 9 [St t [] [] [], .int .u32 5, .agg [.int .i64 0, L [], L [], L [], .int .i64 0, .int .i64 0]] (.tup [St t [⟨5, ⟨0, [], [], [], 0, 0⟩, 1, []⟩] [] [], .int .u64 1, .int .i64 0]) := by
 refine pureV Tryz.func9 low9 (by simp [c9]) ?_
 have pl := placeU_p t [] [] [] 5 (by simp) (by simp)
 have wi := with_0 t ⟨5, ⟨0, [], [], [], 0, 0⟩, 1, []⟩ [] []
 simp only [c9, St, rowsU, rowsP, rowsD, List.map_nil, List.map_cons, Us.row, row1, row2, row3, rowsE, show lowB Us.id [] 5 = 0 from rfl, show isAtB Us.id [] 0 5 = false from rfl] at pl wi ⊢
 have uc1 := @settings0_p
 exact wk1 [] [] exYGP
theorem fixed_p : PureD Tryz.prog 7 [] (.bool true) := by
 refine pureV Tryz.func7 low7 (by simp [c7]) ?_
 have p0 := put0_p 0
 simp only [c7, St, rowsU, rowsP, rowsD, List.map_nil, List.map_cons, Us.row, row1, row2, row3, rowsE] at p0 ⊢
 exact wk1 [] [] exYGP
theorem great17_p (t : Int) (us : List Us) (ps : List Po) (ds : List Dn) (hf : fits us ps ds) : PureD Tryz.prog 5 [St t us ps ds] (.bool (greatSt us ps ds || !risU us)) := by
 refine pureV Tryz.func5 low5 (by simp [c5]) ?_
 have h1 := greatSt_p t us ps ds hf
 have h2 := rises17_p t us ps ds hf.1 hf.2.2.2
 simp only [c5, St] at h1 h2 ⊢
 by_cases hg : greatSt us ps ds = true
 ·rw [hg] at h1 ⊢
  exact wk0 [] [] exYGP
 have hg' : greatSt us ps ds = false := by simpa using hg
 rw [hg'] at h1 ⊢
 exact wk0 [] [] exYGP
end Go.Proofs.YtapennlmboabeaaGreat
