import Derived.Test.YtapennlmboabeaaGreatYB
import Derived.Test.YtapennlmboabeaaGreatVi33
set_option linter.unusedVariables false
set_option linter.unusedSimpArgs false
set_option linter.unnecessarySimpa false
namespace Go.Proofs.YtapennlmboabeaaGreat
open Go Go.Vi
theorem jE : type_of% (an @ab (an @ac (an @ae (an @ah (an @aj (an @ak @ai)))))) := (an @ab (an @ac (an @ae (an @ah (an @aj (an @ak @ai))))))
theorem Aw : aA Tryz.prog 35 [.agg [.int .i64 0, L []]] (.bool true) := by
 have w : aA Tryz.prog 66 [.int .i64 0] (.bool false) := by
  refine bl Tryz.func66 low66 (by simp [c66]) ?_
  simp only [c66]
  exact lC [] [] jE
 refine bl Tryz.func35 low35 (by simp [c35]) ?_
 simp only [c35]
 refine wk [] [] jE ?_
 refine av (ι := Unit) (fun _ => ([(16, .int .i64 0), (17, .int .i64 0)], [])) (fun _ => 0) ⟨⟩ ?_ ?_
 ·exact fx [] jE
 rintro ⟨⟩ hk
 dsimp only
 exact dz [] [] jE
theorem Cv : aA Tryz.prog 111 [L [], .fn 68 []] (.int .i64 (-1)) := by
 refine bl Tryz.func111 low111 (by simp [c111]) ?_
 simp only [c111]
 refine wk [] [] jE ?_
 refine av (ι := Unit) (fun _ => ([(7, .int .i64 0), (8, .int .i64 0)], [])) (fun _ => 0) ⟨⟩ ?_ ?_
 ·exact fx [] jE
 rintro ⟨⟩ hk
 dsimp only
 exact dz [] [] jE
theorem By : aA Tryz.prog 67 [L [], .fn 68 []] (.bool false) := by
 refine bl Tryz.func67 low67 (by simp [c67]) ?_
 simp only [c67]
 have uc1 := @Cv
 exact lC [] [] jE
theorem xl : aA Tryz.prog 36 [.agg [L [], L []]] (.bool true) := by
 refine bl Tryz.func36 low36 (by simp [c36]) ?_
 simp only [c36]
 refine wk [] [] jE ?_
 refine av (ι := Unit) (fun _ => ([(1, .ptr 0 0 0 1), (17, .int .i64 0), (18, .int .i64 0)], [⟨true, false, true, false, 2, [[L [], L []]], some 0⟩])) (fun _ => 0) ⟨⟩ ?_ ?_
 ·exact fx [0] jE
 rintro ⟨⟩ hk
 dsimp only
 have uc1 := @By
 exact dz [] [] jE
theorem sV : aA Tryz.prog 12 [.agg [.int .i64 0, L [], L [], L [], .int .i64 0, .int .i64 0]] (.bool true) := by
 refine bl Tryz.func12 low12 (by simp [c12]) ?_
 simp only [c12]
 have uc1 := @Aw
 have uc2 := @xl
 exact lC [] [] jE
theorem CI (t : Int) : aA Tryz.prog 9 [St t [] [] [], .int .u32 5, .agg [.int .i64 0, L [], L [], L [], .int .i64 0, .int .i64 0]] (.tup [St t [⟨5, ⟨0, [], [], [], 0, 0⟩, 1, []⟩] [] [], .int .u64 1, .int .i64 0]) := by
 refine bl Tryz.func9 low9 (by simp [c9]) ?_
 have pl := jd t [] [] [] 5 (by simp) (by simp)
 have wi := CU t ⟨5, ⟨0, [], [], [], 0, 0⟩, 1, []⟩ [] []
 simp only [c9, St, dA, fF, hH, List.map_nil, List.map_cons, Us.row, ar, bz, ed, bA, show fQ Us.id [] 5 = 0 from rfl, show fD Us.id [] 0 5 = false from rfl] at pl wi ⊢
 have uc1 := @sV
 exact lC [] [] jE
theorem yZ : aA Tryz.prog 7 [] (.bool true) := by
 refine bl Tryz.func7 low7 (by simp [c7]) ?_
 have p0 := CI 0
 simp only [c7, St, dA, fF, hH, List.map_nil, List.map_cons, Us.row, ar, bz, ed, bA] at p0 ⊢
 exact lC [] [] jE
theorem vC (t : Int) (us : List Us) (ps : List Po) (ds : List Dn) (hf : fits us ps ds) : aA Tryz.prog 5 [St t us ps ds] (.bool (hJ us ps ds || !mq us)) := by
 refine bl Tryz.func5 low5 (by simp [c5]) ?_
 have h1 := vG t us ps ds hf
 have h2 := vS t us ps ds hf.1 hf.2.2.2
 simp only [c5, St] at h1 h2 ⊢
 by_cases hg : hJ us ps ds = true
 ·rw [hg] at h1 ⊢
  exact dz [] [] jE
 have hg' : hJ us ps ds = false := by simpa using hg
 rw [hg'] at h1 ⊢
 exact dz [] [] jE
end Go.Proofs.YtapennlmboabeaaGreat
