import Derived.Test.YtgefljdclekadaaGreatWMB
import Derived.Test.YtgefljdclekadaaGreatVi25
import Derived.Test.YtgefljdclekadaaGreatWMG
import Derived.Test.YtgefljdclekadaaGreatWMC
set_option linter.unusedVariables false
set_option linter.unusedSimpArgs false
set_option linter.unnecessarySimpa false
namespace Go.Proofs.YtgefljdclekadaaGreat
open Go Go.Vi


theorem eqInt_p (a b : List Int) (ha : a.length ≤ 140737488351232) (hb : b.length ≤ 140737488351232) : PureD Tryz.prog 88 [L (row1 .i64 a), L (row1 .i64 b)] (.bool (decide (a = b))) := by
 refine pureV Tryz.func88 low88 (by simp [c88]) ?_
 simp only [c88]
 by_cases hl : ¬ a.length = b.length
 ·have c1 := lenB hl
  rw [eq_len hl]
  repeat' ((first | apply Run_seq | apply Run_skip | apply Run_block | apply Run_blk | refine Run_exit rfl ?_ | apply Run_ret | apply Run_nil | apply Run_condK | apply Run_ops mixed | apply Run_opsX mixed | with_reducible refine PostV_open ?_ | simp (disch := omega) only [w64, wu64, wu32, wu16, wu8, Int.tdiv_eq_ediv_of_nonneg, Int.tmod_eq_emod_of_nonneg] | (refine CondK_split ?_ ?_ <;> intro hc <;> (try simp only [hc]) <;> try simp at hc) | (with_reducible refine ⟨?_, ?_⟩; (focus ((repeat' with_reducible refine ⟨?_, ?_⟩) <;> first | exact trivial | assumption | (simp; done) | (simp only [List.length_map] at *; omega) | omega | (simp [fs]; done)))) | (with_reducible intro x hx) | omega) <;> (try simp only [row1_len, Nat.reduceBEq, reduceIte, fw, fd]))
 have hl : a.length = b.length := by omega
 have c1 : ((a.length : Int) == (b.length : Int)) = true := by simp [hl]
 repeat' ((first | apply Run_seq | apply Run_skip | apply Run_block | apply Run_blk | refine Run_exit rfl ?_ | apply Run_ret | apply Run_nil | apply Run_condK | apply Run_ops mixed | apply Run_opsX mixed | with_reducible refine PostV_open ?_ | simp (disch := omega) only [w64, wu64, wu32, wu16, wu8, Int.tdiv_eq_ediv_of_nonneg, Int.tmod_eq_emod_of_nonneg] | (refine CondK_split ?_ ?_ <;> intro hc <;> (try simp only [hc]) <;> try simp at hc) | (with_reducible refine ⟨?_, ?_⟩; (focus ((repeat' with_reducible refine ⟨?_, ?_⟩) <;> first | exact trivial | assumption | (simp; done) | (simp only [List.length_map] at *; omega) | omega | (simp [fs]; done)))) | (with_reducible intro x hx) | omega) <;> (try simp only [row1_len, Nat.reduceBEq, reduceIte, fw, fd]))
 refine Run_loop (ι := {i : Nat // i ≤ a.length ∧ a.take i = b.take i}) (fun i => ([(0, L (row1 .i64 a)), (1, L (row1 .i64 b)), (12, .int .i64 a.length), (13, .int .i64 i.1)], [])) (fun i => a.length - i.1) ⟨0, by simp⟩ ?_ ?_
 ·refine Ent_gc [] (by rfl) (by simp) (by simp [keptW]) (by simp [fg])
 rintro ⟨i, hi, ht⟩ hk
 dsimp only at hk ⊢
 by_cases hlt : i < a.length
 ·have c2 : ((i : Int) < (a.length : Int)) = True := by simp; omega
  obtain ⟨x, hx⟩ : ∃ x, a[i]? = some x := ⟨_, List.getElem?_eq_getElem hlt⟩
  obtain ⟨y, hy⟩ : ∃ y, b[i]? = some y := ⟨_, List.getElem?_eq_getElem (by omega)⟩
  have rx := row1_get (k := .i64) hx
  have ry := row1_get (k := .i64) hy
  by_cases hxy : x = y
  ·have c3 : (x == y) = true := by simpa using hxy
   repeat' ((first | apply Run_seq | apply Run_skip | apply Run_block | apply Run_blk | refine Run_exit rfl ?_ | apply Run_ret | apply Run_nil | apply Run_condK | apply Run_ops mixed | apply Run_opsX mixed | with_reducible refine PostV_open ?_ | simp (disch := omega) only [w64] | (refine CondK_split ?_ ?_ <;> intro hc <;> (try simp only [hc]) <;> try simp at hc) | (with_reducible refine ⟨?_, ?_⟩; (focus ((repeat' with_reducible refine ⟨?_, ?_⟩) <;> first | exact trivial | assumption | (simp; done) | (simp only [List.length_map] at *; omega) | omega | (simp [fs]; done)))) | (with_reducible intro x hx) | omega) <;> (try simp only [row1_len, c2, rx, ry, Nat.reduceBEq, reduceIte, fw, fd]))
   refine hk ⟨i + 1, by omega, eq_step ht hx hy hxy⟩ _ _ (by dsimp only; omega) ?_
   dsimp only
   refine Ent_gc [] (by rfl) (by simp) (by simp [keptW]) (by simp [fg])
  ·have c3 : (x == y) = false := by simpa using hxy
   rw [eq_no hx hy hxy]
   repeat' ((first | apply Run_seq | apply Run_skip | apply Run_block | apply Run_blk | refine Run_exit rfl ?_ | apply Run_ret | apply Run_nil | apply Run_condK | apply Run_ops mixed | apply Run_opsX mixed | with_reducible refine PostV_open ?_ | simp (disch := omega) only [w64] | (refine CondK_split ?_ ?_ <;> intro hc <;> (try simp only [hc]) <;> try simp at hc) | (with_reducible refine ⟨?_, ?_⟩; (focus ((repeat' with_reducible refine ⟨?_, ?_⟩) <;> first | exact trivial | assumption | (simp; done) | (simp only [List.length_map] at *; omega) | omega | (simp [fs]; done)))) | (with_reducible intro x hx) | omega) <;> (try simp only [row1_len, c2, rx, ry, Nat.reduceBEq, reduceIte, fw, fd]))
 ·have c2 : ((i : Int) < (a.length : Int)) = False := by simp; omega
  rw [eq_end ht hlt hl]
  repeat' ((first | apply Run_seq | apply Run_skip | apply Run_block | apply Run_blk | refine Run_exit rfl ?_ | apply Run_ret | apply Run_nil | apply Run_condK | apply Run_ops mixed | apply Run_opsX mixed | with_reducible refine PostV_open ?_ | simp (disch := omega) only [w64, wu64, wu32, wu16, wu8, Int.tdiv_eq_ediv_of_nonneg, Int.tmod_eq_emod_of_nonneg] | (refine CondK_split ?_ ?_ <;> intro hc <;> (try simp only [hc]) <;> try simp at hc) | (with_reducible refine ⟨?_, ?_⟩; (focus ((repeat' with_reducible refine ⟨?_, ?_⟩) <;> first | exact trivial | assumption | (simp; done) | (simp only [List.length_map] at *; omega) | omega | (simp [fs]; done)))) | (with_reducible intro x hx) | omega) <;> (try simp only [c2, Nat.reduceBEq, reduceIte, fw, fd]))
theorem eqI64_p (a b : List Int) (ha : a.length ≤ 140737488351232) (hb : b.length ≤ 140737488351232) : PureD Tryz.prog 84 [L (row1 .i64 a), L (row1 .i64 b)] (.bool (decide (a = b))) := by
 refine pureV Tryz.func84 low84 (by simp [c84]) ?_
 simp only [c84]
 by_cases hl : ¬ a.length = b.length
 ·have c1 := lenB hl
  rw [eq_len hl]
  repeat' ((first | apply Run_seq | apply Run_skip | apply Run_block | apply Run_blk | refine Run_exit rfl ?_ | apply Run_ret | apply Run_nil | apply Run_condK | apply Run_ops mixed | apply Run_opsX mixed | with_reducible refine PostV_open ?_ | simp (disch := omega) only [w64, wu64, wu32, wu16, wu8, Int.tdiv_eq_ediv_of_nonneg, Int.tmod_eq_emod_of_nonneg] | (refine CondK_split ?_ ?_ <;> intro hc <;> (try simp only [hc]) <;> try simp at hc) | (with_reducible refine ⟨?_, ?_⟩; (focus ((repeat' with_reducible refine ⟨?_, ?_⟩) <;> first | exact trivial | assumption | (simp; done) | (simp only [List.length_map] at *; omega) | omega | (simp [fs]; done)))) | (with_reducible intro x hx) | omega) <;> (try simp only [row1_len, Nat.reduceBEq, reduceIte, fw, fd]))
 have hl : a.length = b.length := by omega
 have c1 : ((a.length : Int) == (b.length : Int)) = true := by simp [hl]
 repeat' ((first | apply Run_seq | apply Run_skip | apply Run_block | apply Run_blk | refine Run_exit rfl ?_ | apply Run_ret | apply Run_nil | apply Run_condK | apply Run_ops mixed | apply Run_opsX mixed | with_reducible refine PostV_open ?_ | simp (disch := omega) only [w64, wu64, wu32, wu16, wu8, Int.tdiv_eq_ediv_of_nonneg, Int.tmod_eq_emod_of_nonneg] | (refine CondK_split ?_ ?_ <;> intro hc <;> (try simp only [hc]) <;> try simp at hc) | (with_reducible refine ⟨?_, ?_⟩; (focus ((repeat' with_reducible refine ⟨?_, ?_⟩) <;> first | exact trivial | assumption | (simp; done) | (simp only [List.length_map] at *; omega) | omega | (simp [fs]; done)))) | (with_reducible intro x hx) | omega) <;> (try simp only [row1_len, Nat.reduceBEq, reduceIte, fw, fd]))
 refine Run_loop (ι := {i : Nat // i ≤ a.length ∧ a.take i = b.take i}) (fun i => ([(0, L (row1 .i64 a)), (1, L (row1 .i64 b)), (12, .int .i64 a.length), (13, .int .i64 i.1)], [])) (fun i => a.length - i.1) ⟨0, by simp⟩ ?_ ?_
 ·refine Ent_gc [] (by rfl) (by simp) (by simp [keptW]) (by simp [fg])
 rintro ⟨i, hi, ht⟩ hk
 dsimp only at hk ⊢
 by_cases hlt : i < a.length
 ·have c2 : ((i : Int) < (a.length : Int)) = True := by simp; omega
  obtain ⟨x, hx⟩ : ∃ x, a[i]? = some x := ⟨_, List.getElem?_eq_getElem hlt⟩
  obtain ⟨y, hy⟩ : ∃ y, b[i]? = some y := ⟨_, List.getElem?_eq_getElem (by omega)⟩
  have rx := row1_get (k := .i64) hx
  have ry := row1_get (k := .i64) hy
  by_cases hxy : x = y
  ·have c3 : (x == y) = true := by simpa using hxy
   repeat' ((first | apply Run_seq | apply Run_skip | apply Run_block | apply Run_blk | refine Run_exit rfl ?_ | apply Run_ret | apply Run_nil | apply Run_condK | apply Run_ops mixed | apply Run_opsX mixed | with_reducible refine PostV_open ?_ | simp (disch := omega) only [w64] | (refine CondK_split ?_ ?_ <;> intro hc <;> (try simp only [hc]) <;> try simp at hc) | (with_reducible refine ⟨?_, ?_⟩; (focus ((repeat' with_reducible refine ⟨?_, ?_⟩) <;> first | exact trivial | assumption | (simp; done) | (simp only [List.length_map] at *; omega) | omega | (simp [fs]; done)))) | (with_reducible intro x hx) | omega) <;> (try simp only [row1_len, c2, rx, ry, Nat.reduceBEq, reduceIte, fw, fd]))
   refine hk ⟨i + 1, by omega, eq_step ht hx hy hxy⟩ _ _ (by dsimp only; omega) ?_
   dsimp only
   refine Ent_gc [] (by rfl) (by simp) (by simp [keptW]) (by simp [fg])
  ·have c3 : (x == y) = false := by simpa using hxy
   rw [eq_no hx hy hxy]
   repeat' ((first | apply Run_seq | apply Run_skip | apply Run_block | apply Run_blk | refine Run_exit rfl ?_ | apply Run_ret | apply Run_nil | apply Run_condK | apply Run_ops mixed | apply Run_opsX mixed | with_reducible refine PostV_open ?_ | simp (disch := omega) only [w64] | (refine CondK_split ?_ ?_ <;> intro hc <;> (try simp only [hc]) <;> try simp at hc) | (with_reducible refine ⟨?_, ?_⟩; (focus ((repeat' with_reducible refine ⟨?_, ?_⟩) <;> first | exact trivial | assumption | (simp; done) | (simp only [List.length_map] at *; omega) | omega | (simp [fs]; done)))) | (with_reducible intro x hx) | omega) <;> (try simp only [row1_len, c2, rx, ry, Nat.reduceBEq, reduceIte, fw, fd]))
 ·have c2 : ((i : Int) < (a.length : Int)) = False := by simp; omega
  rw [eq_end ht hlt hl]
  repeat' ((first | apply Run_seq | apply Run_skip | apply Run_block | apply Run_blk | refine Run_exit rfl ?_ | apply Run_ret | apply Run_nil | apply Run_condK | apply Run_ops mixed | apply Run_opsX mixed | with_reducible refine PostV_open ?_ | simp (disch := omega) only [w64, wu64, wu32, wu16, wu8, Int.tdiv_eq_ediv_of_nonneg, Int.tmod_eq_emod_of_nonneg] | (refine CondK_split ?_ ?_ <;> intro hc <;> (try simp only [hc]) <;> try simp at hc) | (with_reducible refine ⟨?_, ?_⟩; (focus ((repeat' with_reducible refine ⟨?_, ?_⟩) <;> first | exact trivial | assumption | (simp; done) | (simp only [List.length_map] at *; omega) | omega | (simp [fs]; done)))) | (with_reducible intro x hx) | omega) <;> (try simp only [c2, Nat.reduceBEq, reduceIte, fw, fd]))
theorem eqU32_p (a b : List Int) (ha : a.length ≤ 140737488351232) (hb : b.length ≤ 140737488351232) : PureD Tryz.prog 113 [L (row1 .u32 a), L (row1 .u32 b)] (.bool (decide (a = b))) := by
 refine pureV Tryz.func113 low113 (by simp [c113]) ?_
 simp only [c113]
 by_cases hl : ¬ a.length = b.length
 ·have c1 := lenB hl
  rw [eq_len hl]
  repeat' ((first | apply Run_seq | apply Run_skip | apply Run_block | apply Run_blk | refine Run_exit rfl ?_ | apply Run_ret | apply Run_nil | apply Run_condK | apply Run_ops mixed | apply Run_opsX mixed | with_reducible refine PostV_open ?_ | simp (disch := omega) only [w64, wu64, wu32, wu16, wu8, Int.tdiv_eq_ediv_of_nonneg, Int.tmod_eq_emod_of_nonneg] | (refine CondK_split ?_ ?_ <;> intro hc <;> (try simp only [hc]) <;> try simp at hc) | (with_reducible refine ⟨?_, ?_⟩; (focus ((repeat' with_reducible refine ⟨?_, ?_⟩) <;> first | exact trivial | assumption | (simp; done) | (simp only [List.length_map] at *; omega) | omega | (simp [fs]; done)))) | (with_reducible intro x hx) | omega) <;> (try simp only [row1_len, Nat.reduceBEq, reduceIte, fw, fd]))
 have hl : a.length = b.length := by omega
 have c1 : ((a.length : Int) == (b.length : Int)) = true := by simp [hl]
 repeat' ((first | apply Run_seq | apply Run_skip | apply Run_block | apply Run_blk | refine Run_exit rfl ?_ | apply Run_ret | apply Run_nil | apply Run_condK | apply Run_ops mixed | apply Run_opsX mixed | with_reducible refine PostV_open ?_ | simp (disch := omega) only [w64, wu64, wu32, wu16, wu8, Int.tdiv_eq_ediv_of_nonneg, Int.tmod_eq_emod_of_nonneg] | (refine CondK_split ?_ ?_ <;> intro hc <;> (try simp only [hc]) <;> try simp at hc) | (with_reducible refine ⟨?_, ?_⟩; (focus ((repeat' with_reducible refine ⟨?_, ?_⟩) <;> first | exact trivial | assumption | (simp; done) | (simp only [List.length_map] at *; omega) | omega | (simp [fs]; done)))) | (with_reducible intro x hx) | omega) <;> (try simp only [row1_len, Nat.reduceBEq, reduceIte, fw, fd]))
 refine Run_loop (ι := {i : Nat // i ≤ a.length ∧ a.take i = b.take i}) (fun i => ([(0, L (row1 .u32 a)), (1, L (row1 .u32 b)), (12, .int .i64 a.length), (13, .int .i64 i.1)], [])) (fun i => a.length - i.1) ⟨0, by simp⟩ ?_ ?_
 ·refine Ent_gc [] (by rfl) (by simp) (by simp [keptW]) (by simp [fg])
 rintro ⟨i, hi, ht⟩ hk
 dsimp only at hk ⊢
 by_cases hlt : i < a.length
 ·have c2 : ((i : Int) < (a.length : Int)) = True := by simp; omega
  obtain ⟨x, hx⟩ : ∃ x, a[i]? = some x := ⟨_, List.getElem?_eq_getElem hlt⟩
  obtain ⟨y, hy⟩ : ∃ y, b[i]? = some y := ⟨_, List.getElem?_eq_getElem (by omega)⟩
  have rx := row1_get (k := .u32) hx
  have ry := row1_get (k := .u32) hy
  by_cases hxy : x = y
  ·have c3 : (x == y) = true := by simpa using hxy
   repeat' ((first | apply Run_seq | apply Run_skip | apply Run_block | apply Run_blk | refine Run_exit rfl ?_ | apply Run_ret | apply Run_nil | apply Run_condK | apply Run_ops mixed | apply Run_opsX mixed | with_reducible refine PostV_open ?_ | simp (disch := omega) only [w64] | (refine CondK_split ?_ ?_ <;> intro hc <;> (try simp only [hc]) <;> try simp at hc) | (with_reducible refine ⟨?_, ?_⟩; (focus ((repeat' with_reducible refine ⟨?_, ?_⟩) <;> first | exact trivial | assumption | (simp; done) | (simp only [List.length_map] at *; omega) | omega | (simp [fs]; done)))) | (with_reducible intro x hx) | omega) <;> (try simp only [row1_len, c2, rx, ry, Nat.reduceBEq, reduceIte, fw, fd]))
   refine hk ⟨i + 1, by omega, eq_step ht hx hy hxy⟩ _ _ (by dsimp only; omega) ?_
   dsimp only
   refine Ent_gc [] (by rfl) (by simp) (by simp [keptW]) (by simp [fg])
  ·have c3 : (x == y) = false := by simpa using hxy
   rw [eq_no hx hy hxy]
   repeat' ((first | apply Run_seq | apply Run_skip | apply Run_block | apply Run_blk | refine Run_exit rfl ?_ | apply Run_ret | apply Run_nil | apply Run_condK | apply Run_ops mixed | apply Run_opsX mixed | with_reducible refine PostV_open ?_ | simp (disch := omega) only [w64] | (refine CondK_split ?_ ?_ <;> intro hc <;> (try simp only [hc]) <;> try simp at hc) | (with_reducible refine ⟨?_, ?_⟩; (focus ((repeat' with_reducible refine ⟨?_, ?_⟩) <;> first | exact trivial | assumption | (simp; done) | (simp only [List.length_map] at *; omega) | omega | (simp [fs]; done)))) | (with_reducible intro x hx) | omega) <;> (try simp only [row1_len, c2, rx, ry, Nat.reduceBEq, reduceIte, fw, fd]))
 ·have c2 : ((i : Int) < (a.length : Int)) = False := by simp; omega
  rw [eq_end ht hlt hl]
  repeat' ((first | apply Run_seq | apply Run_skip | apply Run_block | apply Run_blk | refine Run_exit rfl ?_ | apply Run_ret | apply Run_nil | apply Run_condK | apply Run_ops mixed | apply Run_opsX mixed | with_reducible refine PostV_open ?_ | simp (disch := omega) only [w64, wu64, wu32, wu16, wu8, Int.tdiv_eq_ediv_of_nonneg, Int.tmod_eq_emod_of_nonneg] | (refine CondK_split ?_ ?_ <;> intro hc <;> (try simp only [hc]) <;> try simp at hc) | (with_reducible refine ⟨?_, ?_⟩; (focus ((repeat' with_reducible refine ⟨?_, ?_⟩) <;> first | exact trivial | assumption | (simp; done) | (simp only [List.length_map] at *; omega) | omega | (simp [fs]; done)))) | (with_reducible intro x hx) | omega) <;> (try simp only [c2, Nat.reduceBEq, reduceIte, fw, fd]))
theorem eqDay_p (a b : List (Int × Int)) (ha : a.length ≤ 140737488351232) (hb : b.length ≤ 140737488351232) : PureD Tryz.prog 116 [L (row2 .i64 .i64 a), L (row2 .i64 .i64 b)] (.bool (decide (a = b))) := by
 refine pureV Tryz.func116 low116 (by simp [c116]) ?_
 simp only [c116]
 by_cases hl : ¬ a.length = b.length
 ·have c1 := lenB hl
  rw [eq_len hl]
  repeat' ((first | apply Run_seq | apply Run_skip | apply Run_block | apply Run_blk | refine Run_exit rfl ?_ | apply Run_ret | apply Run_nil | apply Run_condK | apply Run_ops mixed | apply Run_opsX mixed | with_reducible refine PostV_open ?_ | simp (disch := omega) only [w64, wu64, wu32, wu16, wu8, Int.tdiv_eq_ediv_of_nonneg, Int.tmod_eq_emod_of_nonneg] | (refine CondK_split ?_ ?_ <;> intro hc <;> (try simp only [hc]) <;> try simp at hc) | (with_reducible refine ⟨?_, ?_⟩; (focus ((repeat' with_reducible refine ⟨?_, ?_⟩) <;> first | exact trivial | assumption | (simp; done) | (simp only [List.length_map] at *; omega) | omega | (simp [fs]; done)))) | (with_reducible intro x hx) | omega) <;> (try simp only [row2_len, Nat.reduceBEq, reduceIte, fw, fd]))
 have hl : a.length = b.length := by omega
 have c1 : ((a.length : Int) == (b.length : Int)) = true := by simp [hl]
 repeat' ((first | apply Run_seq | apply Run_skip | apply Run_block | apply Run_blk | refine Run_exit rfl ?_ | apply Run_ret | apply Run_nil | apply Run_condK | apply Run_ops mixed | apply Run_opsX mixed | with_reducible refine PostV_open ?_ | simp (disch := omega) only [w64, wu64, wu32, wu16, wu8, Int.tdiv_eq_ediv_of_nonneg, Int.tmod_eq_emod_of_nonneg] | (refine CondK_split ?_ ?_ <;> intro hc <;> (try simp only [hc]) <;> try simp at hc) | (with_reducible refine ⟨?_, ?_⟩; (focus ((repeat' with_reducible refine ⟨?_, ?_⟩) <;> first | exact trivial | assumption | (simp; done) | (simp only [List.length_map] at *; omega) | omega | (simp [fs]; done)))) | (with_reducible intro x hx) | omega) <;> (try simp only [row2_len, Nat.reduceBEq, reduceIte, fw, fd]))
 refine Run_loop (ι := {i : Nat // i ≤ a.length ∧ a.take i = b.take i}) (fun i => ([(0, L (row2 .i64 .i64 a)), (1, L (row2 .i64 .i64 b)), (12, .int .i64 a.length), (13, .int .i64 i.1)], [])) (fun i => a.length - i.1) ⟨0, by simp⟩ ?_ ?_
 ·refine Ent_gc [] (by rfl) (by simp) (by simp [keptW]) (by simp [fg])
 rintro ⟨i, hi, ht⟩ hk
 dsimp only at hk ⊢
 by_cases hlt : i < a.length
 ·have c2 : ((i : Int) < (a.length : Int)) = True := by simp; omega
  obtain ⟨x, hx⟩ : ∃ x, a[i]? = some x := ⟨_, List.getElem?_eq_getElem hlt⟩
  obtain ⟨y, hy⟩ : ∃ y, b[i]? = some y := ⟨_, List.getElem?_eq_getElem (by omega)⟩
  have rx := row2_get (k := .i64) (m := .i64) hx
  have ry := row2_get (k := .i64) (m := .i64) hy
  by_cases hxy : x = y
  ·have c3 : ((x.1 == y.1) && (x.2 == y.2)) = true := by rw [b2]; simpa using hxy
   repeat' ((first | apply Run_seq | apply Run_skip | apply Run_block | apply Run_blk | refine Run_exit rfl ?_ | apply Run_ret | apply Run_nil | apply Run_condK | apply Run_ops mixed | apply Run_opsX mixed | with_reducible refine PostV_open ?_ | simp (disch := omega) only [w64] | (refine CondK_split ?_ ?_ <;> intro hc <;> (try simp only [hc]) <;> try simp at hc) | (with_reducible refine ⟨?_, ?_⟩; (focus ((repeat' with_reducible refine ⟨?_, ?_⟩) <;> first | exact trivial | assumption | (simp; done) | (simp only [List.length_map] at *; omega) | omega | (simp [fs]; done)))) | (with_reducible intro x hx) | omega) <;> (try simp only [row2_len, c2, c3, rx, ry, Nat.reduceBEq, reduceIte, Nat.reduceAdd, cond_true, fw, fd]))
   refine hk ⟨i + 1, by omega, eq_step ht hx hy hxy⟩ _ _ (by dsimp only; omega) ?_
   dsimp only
   refine Ent_gc [] (by rfl) (by simp) (by simp [keptW]) (by simp [fg])
  ·have c3 : ((x.1 == y.1) && (x.2 == y.2)) = false := by rw [b2]; simpa using hxy
   rw [eq_no hx hy hxy]
   repeat' ((first | apply Run_seq | apply Run_skip | apply Run_block | apply Run_blk | refine Run_exit rfl ?_ | apply Run_ret | apply Run_nil | apply Run_condK | apply Run_ops mixed | apply Run_opsX mixed | with_reducible refine PostV_open ?_ | simp (disch := omega) only [w64, wu64, wu32, wu16, wu8, Int.tdiv_eq_ediv_of_nonneg, Int.tmod_eq_emod_of_nonneg] | (refine CondK_split ?_ ?_ <;> intro hc <;> (try simp only [hc]) <;> try simp at hc) | (with_reducible refine ⟨?_, ?_⟩; (focus ((repeat' with_reducible refine ⟨?_, ?_⟩) <;> first | exact trivial | assumption | (simp; done) | (simp only [List.length_map] at *; omega) | omega | (simp [fs]; done)))) | (with_reducible intro x hx) | omega) <;> (try simp only [row2_len, c2, c3, rx, ry, Nat.reduceBEq, reduceIte, Nat.reduceAdd, cond_true, fw, fd]))
 ·have c2 : ((i : Int) < (a.length : Int)) = False := by simp; omega
  rw [eq_end ht hlt hl]
  repeat' ((first | apply Run_seq | apply Run_skip | apply Run_block | apply Run_blk | refine Run_exit rfl ?_ | apply Run_ret | apply Run_nil | apply Run_condK | apply Run_ops mixed | apply Run_opsX mixed | with_reducible refine PostV_open ?_ | simp (disch := omega) only [w64, wu64, wu32, wu16, wu8, Int.tdiv_eq_ediv_of_nonneg, Int.tmod_eq_emod_of_nonneg] | (refine CondK_split ?_ ?_ <;> intro hc <;> (try simp only [hc]) <;> try simp at hc) | (with_reducible refine ⟨?_, ?_⟩; (focus ((repeat' with_reducible refine ⟨?_, ?_⟩) <;> first | exact trivial | assumption | (simp; done) | (simp only [List.length_map] at *; omega) | omega | (simp [fs]; done)))) | (with_reducible intro x hx) | omega) <;> (try simp only [c2, Nat.reduceBEq, reduceIte, fw, fd]))
theorem eqTurn_p (a b : List (Int × Int)) (ha : a.length ≤ 140737488351232) (hb : b.length ≤ 140737488351232) : PureD Tryz.prog 86 [L (row2 .i64 .i64 a), L (row2 .i64 .i64 b)] (.bool (decide (a = b))) := by
 refine pureV Tryz.func86 low86 (by simp [c86]) ?_
 simp only [c86]
 by_cases hl : ¬ a.length = b.length
 ·have c1 := lenB hl
  rw [eq_len hl]
  repeat' ((first | apply Run_seq | apply Run_skip | apply Run_block | apply Run_blk | refine Run_exit rfl ?_ | apply Run_ret | apply Run_nil | apply Run_condK | apply Run_ops mixed | apply Run_opsX mixed | with_reducible refine PostV_open ?_ | simp (disch := omega) only [w64, wu64, wu32, wu16, wu8, Int.tdiv_eq_ediv_of_nonneg, Int.tmod_eq_emod_of_nonneg] | (refine CondK_split ?_ ?_ <;> intro hc <;> (try simp only [hc]) <;> try simp at hc) | (with_reducible refine ⟨?_, ?_⟩; (focus ((repeat' with_reducible refine ⟨?_, ?_⟩) <;> first | exact trivial | assumption | (simp; done) | (simp only [List.length_map] at *; omega) | omega | (simp [fs]; done)))) | (with_reducible intro x hx) | omega) <;> (try simp only [row2_len, Nat.reduceBEq, reduceIte, fw, fd]))
 have hl : a.length = b.length := by omega
 have c1 : ((a.length : Int) == (b.length : Int)) = true := by simp [hl]
 repeat' ((first | apply Run_seq | apply Run_skip | apply Run_block | apply Run_blk | refine Run_exit rfl ?_ | apply Run_ret | apply Run_nil | apply Run_condK | apply Run_ops mixed | apply Run_opsX mixed | with_reducible refine PostV_open ?_ | simp (disch := omega) only [w64, wu64, wu32, wu16, wu8, Int.tdiv_eq_ediv_of_nonneg, Int.tmod_eq_emod_of_nonneg] | (refine CondK_split ?_ ?_ <;> intro hc <;> (try simp only [hc]) <;> try simp at hc) | (with_reducible refine ⟨?_, ?_⟩; (focus ((repeat' with_reducible refine ⟨?_, ?_⟩) <;> first | exact trivial | assumption | (simp; done) | (simp only [List.length_map] at *; omega) | omega | (simp [fs]; done)))) | (with_reducible intro x hx) | omega) <;> (try simp only [row2_len, Nat.reduceBEq, reduceIte, fw, fd]))
 refine Run_loop (ι := {i : Nat // i ≤ a.length ∧ a.take i = b.take i}) (fun i => ([(0, L (row2 .i64 .i64 a)), (1, L (row2 .i64 .i64 b)), (12, .int .i64 a.length), (13, .int .i64 i.1)], [])) (fun i => a.length - i.1) ⟨0, by simp⟩ ?_ ?_
 ·refine Ent_gc [] (by rfl) (by simp) (by simp [keptW]) (by simp [fg])
 rintro ⟨i, hi, ht⟩ hk
 dsimp only at hk ⊢
 by_cases hlt : i < a.length
 ·have c2 : ((i : Int) < (a.length : Int)) = True := by simp; omega
  obtain ⟨x, hx⟩ : ∃ x, a[i]? = some x := ⟨_, List.getElem?_eq_getElem hlt⟩
  obtain ⟨y, hy⟩ : ∃ y, b[i]? = some y := ⟨_, List.getElem?_eq_getElem (by omega)⟩
  have rx := row2_get (k := .i64) (m := .i64) hx
  have ry := row2_get (k := .i64) (m := .i64) hy
  by_cases hxy : x = y
  ·have c3 : ((x.1 == y.1) && (x.2 == y.2)) = true := by rw [b2]; simpa using hxy
   repeat' ((first | apply Run_seq | apply Run_skip | apply Run_block | apply Run_blk | refine Run_exit rfl ?_ | apply Run_ret | apply Run_nil | apply Run_condK | apply Run_ops mixed | apply Run_opsX mixed | with_reducible refine PostV_open ?_ | simp (disch := omega) only [w64] | (refine CondK_split ?_ ?_ <;> intro hc <;> (try simp only [hc]) <;> try simp at hc) | (with_reducible refine ⟨?_, ?_⟩; (focus ((repeat' with_reducible refine ⟨?_, ?_⟩) <;> first | exact trivial | assumption | (simp; done) | (simp only [List.length_map] at *; omega) | omega | (simp [fs]; done)))) | (with_reducible intro x hx) | omega) <;> (try simp only [row2_len, c2, c3, rx, ry, Nat.reduceBEq, reduceIte, Nat.reduceAdd, cond_true, fw, fd]))
   refine hk ⟨i + 1, by omega, eq_step ht hx hy hxy⟩ _ _ (by dsimp only; omega) ?_
   dsimp only
   refine Ent_gc [] (by rfl) (by simp) (by simp [keptW]) (by simp [fg])
  ·have c3 : ((x.1 == y.1) && (x.2 == y.2)) = false := by rw [b2]; simpa using hxy
   rw [eq_no hx hy hxy]
   repeat' ((first | apply Run_seq | apply Run_skip | apply Run_block | apply Run_blk | refine Run_exit rfl ?_ | apply Run_ret | apply Run_nil | apply Run_condK | apply Run_ops mixed | apply Run_opsX mixed | with_reducible refine PostV_open ?_ | simp (disch := omega) only [w64, wu64, wu32, wu16, wu8, Int.tdiv_eq_ediv_of_nonneg, Int.tmod_eq_emod_of_nonneg] | (refine CondK_split ?_ ?_ <;> intro hc <;> (try simp only [hc]) <;> try simp at hc) | (with_reducible refine ⟨?_, ?_⟩; (focus ((repeat' with_reducible refine ⟨?_, ?_⟩) <;> first | exact trivial | assumption | (simp; done) | (simp only [List.length_map] at *; omega) | omega | (simp [fs]; done)))) | (with_reducible intro x hx) | omega) <;> (try simp only [row2_len, c2, c3, rx, ry, Nat.reduceBEq, reduceIte, Nat.reduceAdd, cond_true, fw, fd]))
 ·have c2 : ((i : Int) < (a.length : Int)) = False := by simp; omega
  rw [eq_end ht hlt hl]
  repeat' ((first | apply Run_seq | apply Run_skip | apply Run_block | apply Run_blk | refine Run_exit rfl ?_ | apply Run_ret | apply Run_nil | apply Run_condK | apply Run_ops mixed | apply Run_opsX mixed | with_reducible refine PostV_open ?_ | simp (disch := omega) only [w64, wu64, wu32, wu16, wu8, Int.tdiv_eq_ediv_of_nonneg, Int.tmod_eq_emod_of_nonneg] | (refine CondK_split ?_ ?_ <;> intro hc <;> (try simp only [hc]) <;> try simp at hc) | (with_reducible refine ⟨?_, ?_⟩; (focus ((repeat' with_reducible refine ⟨?_, ?_⟩) <;> first | exact trivial | assumption | (simp; done) | (simp only [List.length_map] at *; omega) | omega | (simp [fs]; done)))) | (with_reducible intro x hx) | omega) <;> (try simp only [c2, Nat.reduceBEq, reduceIte, fw, fd]))
theorem eqWant_p (a b : List (Int × Int)) (ha : a.length ≤ 140737488351232) (hb : b.length ≤ 140737488351232) : PureD Tryz.prog 114 [L (row2 .u32 .i64 a), L (row2 .u32 .i64 b)] (.bool (decide (a = b))) := by
 refine pureV Tryz.func114 low114 (by simp [c114]) ?_
 simp only [c114]
 by_cases hl : ¬ a.length = b.length
 ·have c1 := lenB hl
  rw [eq_len hl]
  repeat' ((first | apply Run_seq | apply Run_skip | apply Run_block | apply Run_blk | refine Run_exit rfl ?_ | apply Run_ret | apply Run_nil | apply Run_condK | apply Run_ops mixed | apply Run_opsX mixed | with_reducible refine PostV_open ?_ | simp (disch := omega) only [w64, wu64, wu32, wu16, wu8, Int.tdiv_eq_ediv_of_nonneg, Int.tmod_eq_emod_of_nonneg] | (refine CondK_split ?_ ?_ <;> intro hc <;> (try simp only [hc]) <;> try simp at hc) | (with_reducible refine ⟨?_, ?_⟩; (focus ((repeat' with_reducible refine ⟨?_, ?_⟩) <;> first | exact trivial | assumption | (simp; done) | (simp only [List.length_map] at *; omega) | omega | (simp [fs]; done)))) | (with_reducible intro x hx) | omega) <;> (try simp only [row2_len, Nat.reduceBEq, reduceIte, fw, fd]))
 have hl : a.length = b.length := by omega
 have c1 : ((a.length : Int) == (b.length : Int)) = true := by simp [hl]
 repeat' ((first | apply Run_seq | apply Run_skip | apply Run_block | apply Run_blk | refine Run_exit rfl ?_ | apply Run_ret | apply Run_nil | apply Run_condK | apply Run_ops mixed | apply Run_opsX mixed | with_reducible refine PostV_open ?_ | simp (disch := omega) only [w64, wu64, wu32, wu16, wu8, Int.tdiv_eq_ediv_of_nonneg, Int.tmod_eq_emod_of_nonneg] | (refine CondK_split ?_ ?_ <;> intro hc <;> (try simp only [hc]) <;> try simp at hc) | (with_reducible refine ⟨?_, ?_⟩; (focus ((repeat' with_reducible refine ⟨?_, ?_⟩) <;> first | exact trivial | assumption | (simp; done) | (simp only [List.length_map] at *; omega) | omega | (simp [fs]; done)))) | (with_reducible intro x hx) | omega) <;> (try simp only [row2_len, Nat.reduceBEq, reduceIte, fw, fd]))
 refine Run_loop (ι := {i : Nat // i ≤ a.length ∧ a.take i = b.take i}) (fun i => ([(0, L (row2 .u32 .i64 a)), (1, L (row2 .u32 .i64 b)), (12, .int .i64 a.length), (13, .int .i64 i.1)], [])) (fun i => a.length - i.1) ⟨0, by simp⟩ ?_ ?_
 ·refine Ent_gc [] (by rfl) (by simp) (by simp [keptW]) (by simp [fg])
 rintro ⟨i, hi, ht⟩ hk
 dsimp only at hk ⊢
 by_cases hlt : i < a.length
 ·have c2 : ((i : Int) < (a.length : Int)) = True := by simp; omega
  obtain ⟨x, hx⟩ : ∃ x, a[i]? = some x := ⟨_, List.getElem?_eq_getElem hlt⟩
  obtain ⟨y, hy⟩ : ∃ y, b[i]? = some y := ⟨_, List.getElem?_eq_getElem (by omega)⟩
  have rx := row2_get (k := .u32) (m := .i64) hx
  have ry := row2_get (k := .u32) (m := .i64) hy
  by_cases hxy : x = y
  ·have c3 : ((x.1 == y.1) && (x.2 == y.2)) = true := by rw [b2]; simpa using hxy
   repeat' ((first | apply Run_seq | apply Run_skip | apply Run_block | apply Run_blk | refine Run_exit rfl ?_ | apply Run_ret | apply Run_nil | apply Run_condK | apply Run_ops mixed | apply Run_opsX mixed | with_reducible refine PostV_open ?_ | simp (disch := omega) only [w64] | (refine CondK_split ?_ ?_ <;> intro hc <;> (try simp only [hc]) <;> try simp at hc) | (with_reducible refine ⟨?_, ?_⟩; (focus ((repeat' with_reducible refine ⟨?_, ?_⟩) <;> first | exact trivial | assumption | (simp; done) | (simp only [List.length_map] at *; omega) | omega | (simp [fs]; done)))) | (with_reducible intro x hx) | omega) <;> (try simp only [row2_len, c2, c3, rx, ry, Nat.reduceBEq, reduceIte, Nat.reduceAdd, cond_true, fw, fd]))
   refine hk ⟨i + 1, by omega, eq_step ht hx hy hxy⟩ _ _ (by dsimp only; omega) ?_
   dsimp only
   refine Ent_gc [] (by rfl) (by simp) (by simp [keptW]) (by simp [fg])
  ·have c3 : ((x.1 == y.1) && (x.2 == y.2)) = false := by rw [b2]; simpa using hxy
   rw [eq_no hx hy hxy]
   repeat' ((first | apply Run_seq | apply Run_skip | apply Run_block | apply Run_blk | refine Run_exit rfl ?_ | apply Run_ret | apply Run_nil | apply Run_condK | apply Run_ops mixed | apply Run_opsX mixed | with_reducible refine PostV_open ?_ | simp (disch := omega) only [w64, wu64, wu32, wu16, wu8, Int.tdiv_eq_ediv_of_nonneg, Int.tmod_eq_emod_of_nonneg] | (refine CondK_split ?_ ?_ <;> intro hc <;> (try simp only [hc]) <;> try simp at hc) | (with_reducible refine ⟨?_, ?_⟩; (focus ((repeat' with_reducible refine ⟨?_, ?_⟩) <;> first | exact trivial | assumption | (simp; done) | (simp only [List.length_map] at *; omega) | omega | (simp [fs]; done)))) | (with_reducible intro x hx) | omega) <;> (try simp only [row2_len, c2, c3, rx, ry, Nat.reduceBEq, reduceIte, Nat.reduceAdd, cond_true, fw, fd]))
 ·have c2 : ((i : Int) < (a.length : Int)) = False := by simp; omega
  rw [eq_end ht hlt hl]
  repeat' ((first | apply Run_seq | apply Run_skip | apply Run_block | apply Run_blk | refine Run_exit rfl ?_ | apply Run_ret | apply Run_nil | apply Run_condK | apply Run_ops mixed | apply Run_opsX mixed | with_reducible refine PostV_open ?_ | simp (disch := omega) only [w64, wu64, wu32, wu16, wu8, Int.tdiv_eq_ediv_of_nonneg, Int.tmod_eq_emod_of_nonneg] | (refine CondK_split ?_ ?_ <;> intro hc <;> (try simp only [hc]) <;> try simp at hc) | (with_reducible refine ⟨?_, ?_⟩; (focus ((repeat' with_reducible refine ⟨?_, ?_⟩) <;> first | exact trivial | assumption | (simp; done) | (simp only [List.length_map] at *; omega) | omega | (simp [fs]; done)))) | (with_reducible intro x hx) | omega) <;> (try simp only [c2, Nat.reduceBEq, reduceIte, fw, fd]))
theorem eqPair_p (a b : List (Int × Int)) (ha : a.length ≤ 140737488351232) (hb : b.length ≤ 140737488351232) : PureD Tryz.prog 115 [L (row2 .u32 .u32 a), L (row2 .u32 .u32 b)] (.bool (decide (a = b))) := by
 refine pureV Tryz.func115 low115 (by simp [c115]) ?_
 simp only [c115]
 by_cases hl : ¬ a.length = b.length
 ·have c1 := lenB hl
  rw [eq_len hl]
  repeat' ((first | apply Run_seq | apply Run_skip | apply Run_block | apply Run_blk | refine Run_exit rfl ?_ | apply Run_ret | apply Run_nil | apply Run_condK | apply Run_ops mixed | apply Run_opsX mixed | with_reducible refine PostV_open ?_ | simp (disch := omega) only [w64, wu64, wu32, wu16, wu8, Int.tdiv_eq_ediv_of_nonneg, Int.tmod_eq_emod_of_nonneg] | (refine CondK_split ?_ ?_ <;> intro hc <;> (try simp only [hc]) <;> try simp at hc) | (with_reducible refine ⟨?_, ?_⟩; (focus ((repeat' with_reducible refine ⟨?_, ?_⟩) <;> first | exact trivial | assumption | (simp; done) | (simp only [List.length_map] at *; omega) | omega | (simp [fs]; done)))) | (with_reducible intro x hx) | omega) <;> (try simp only [row2_len, Nat.reduceBEq, reduceIte, fw, fd]))
 have hl : a.length = b.length := by omega
 have c1 : ((a.length : Int) == (b.length : Int)) = true := by simp [hl]
 repeat' ((first | apply Run_seq | apply Run_skip | apply Run_block | apply Run_blk | refine Run_exit rfl ?_ | apply Run_ret | apply Run_nil | apply Run_condK | apply Run_ops mixed | apply Run_opsX mixed | with_reducible refine PostV_open ?_ | simp (disch := omega) only [w64, wu64, wu32, wu16, wu8, Int.tdiv_eq_ediv_of_nonneg, Int.tmod_eq_emod_of_nonneg] | (refine CondK_split ?_ ?_ <;> intro hc <;> (try simp only [hc]) <;> try simp at hc) | (with_reducible refine ⟨?_, ?_⟩; (focus ((repeat' with_reducible refine ⟨?_, ?_⟩) <;> first | exact trivial | assumption | (simp; done) | (simp only [List.length_map] at *; omega) | omega | (simp [fs]; done)))) | (with_reducible intro x hx) | omega) <;> (try simp only [row2_len, Nat.reduceBEq, reduceIte, fw, fd]))
 refine Run_loop (ι := {i : Nat // i ≤ a.length ∧ a.take i = b.take i}) (fun i => ([(0, L (row2 .u32 .u32 a)), (1, L (row2 .u32 .u32 b)), (12, .int .i64 a.length), (13, .int .i64 i.1)], [])) (fun i => a.length - i.1) ⟨0, by simp⟩ ?_ ?_
 ·refine Ent_gc [] (by rfl) (by simp) (by simp [keptW]) (by simp [fg])
 rintro ⟨i, hi, ht⟩ hk
 dsimp only at hk ⊢
 by_cases hlt : i < a.length
 ·have c2 : ((i : Int) < (a.length : Int)) = True := by simp; omega
  obtain ⟨x, hx⟩ : ∃ x, a[i]? = some x := ⟨_, List.getElem?_eq_getElem hlt⟩
  obtain ⟨y, hy⟩ : ∃ y, b[i]? = some y := ⟨_, List.getElem?_eq_getElem (by omega)⟩
  have rx := row2_get (k := .u32) (m := .u32) hx
  have ry := row2_get (k := .u32) (m := .u32) hy
  by_cases hxy : x = y
  ·have c3 : ((x.1 == y.1) && (x.2 == y.2)) = true := by rw [b2]; simpa using hxy
   repeat' ((first | apply Run_seq | apply Run_skip | apply Run_block | apply Run_blk | refine Run_exit rfl ?_ | apply Run_ret | apply Run_nil | apply Run_condK | apply Run_ops mixed | apply Run_opsX mixed | with_reducible refine PostV_open ?_ | simp (disch := omega) only [w64] | (refine CondK_split ?_ ?_ <;> intro hc <;> (try simp only [hc]) <;> try simp at hc) | (with_reducible refine ⟨?_, ?_⟩; (focus ((repeat' with_reducible refine ⟨?_, ?_⟩) <;> first | exact trivial | assumption | (simp; done) | (simp only [List.length_map] at *; omega) | omega | (simp [fs]; done)))) | (with_reducible intro x hx) | omega) <;> (try simp only [row2_len, c2, c3, rx, ry, Nat.reduceBEq, reduceIte, Nat.reduceAdd, cond_true, fw, fd]))
   refine hk ⟨i + 1, by omega, eq_step ht hx hy hxy⟩ _ _ (by dsimp only; omega) ?_
   dsimp only
   refine Ent_gc [] (by rfl) (by simp) (by simp [keptW]) (by simp [fg])
  ·have c3 : ((x.1 == y.1) && (x.2 == y.2)) = false := by rw [b2]; simpa using hxy
   rw [eq_no hx hy hxy]
   repeat' ((first | apply Run_seq | apply Run_skip | apply Run_block | apply Run_blk | refine Run_exit rfl ?_ | apply Run_ret | apply Run_nil | apply Run_condK | apply Run_ops mixed | apply Run_opsX mixed | with_reducible refine PostV_open ?_ | simp (disch := omega) only [w64, wu64, wu32, wu16, wu8, Int.tdiv_eq_ediv_of_nonneg, Int.tmod_eq_emod_of_nonneg] | (refine CondK_split ?_ ?_ <;> intro hc <;> (try simp only [hc]) <;> try simp at hc) | (with_reducible refine ⟨?_, ?_⟩; (focus ((repeat' with_reducible refine ⟨?_, ?_⟩) <;> first | exact trivial | assumption | (simp; done) | (simp only [List.length_map] at *; omega) | omega | (simp [fs]; done)))) | (with_reducible intro x hx) | omega) <;> (try simp only [row2_len, c2, c3, rx, ry, Nat.reduceBEq, reduceIte, Nat.reduceAdd, cond_true, fw, fd]))
 ·have c2 : ((i : Int) < (a.length : Int)) = False := by simp; omega
  rw [eq_end ht hlt hl]
  repeat' ((first | apply Run_seq | apply Run_skip | apply Run_block | apply Run_blk | refine Run_exit rfl ?_ | apply Run_ret | apply Run_nil | apply Run_condK | apply Run_ops mixed | apply Run_opsX mixed | with_reducible refine PostV_open ?_ | simp (disch := omega) only [w64, wu64, wu32, wu16, wu8, Int.tdiv_eq_ediv_of_nonneg, Int.tmod_eq_emod_of_nonneg] | (refine CondK_split ?_ ?_ <;> intro hc <;> (try simp only [hc]) <;> try simp at hc) | (with_reducible refine ⟨?_, ?_⟩; (focus ((repeat' with_reducible refine ⟨?_, ?_⟩) <;> first | exact trivial | assumption | (simp; done) | (simp only [List.length_map] at *; omega) | omega | (simp [fs]; done)))) | (with_reducible intro x hx) | omega) <;> (try simp only [c2, Nat.reduceBEq, reduceIte, fw, fd]))
theorem eqVote_p (a b : List (Int × Int)) (ha : a.length ≤ 140737488351232) (hb : b.length ≤ 140737488351232) : PureD Tryz.prog 85 [L (row2 .u32 .i64 a), L (row2 .u32 .i64 b)] (.bool (decide (a = b))) := by
 refine pureV Tryz.func85 low85 (by simp [c85]) ?_
 simp only [c85]
 by_cases hl : ¬ a.length = b.length
 ·have c1 := lenB hl
  rw [eq_len hl]
  repeat' ((first | apply Run_seq | apply Run_skip | apply Run_block | apply Run_blk | refine Run_exit rfl ?_ | apply Run_ret | apply Run_nil | apply Run_condK | apply Run_ops mixed | apply Run_opsX mixed | with_reducible refine PostV_open ?_ | simp (disch := omega) only [w64, wu64, wu32, wu16, wu8, Int.tdiv_eq_ediv_of_nonneg, Int.tmod_eq_emod_of_nonneg] | (refine CondK_split ?_ ?_ <;> intro hc <;> (try simp only [hc]) <;> try simp at hc) | (with_reducible refine ⟨?_, ?_⟩; (focus ((repeat' with_reducible refine ⟨?_, ?_⟩) <;> first | exact trivial | assumption | (simp; done) | (simp only [List.length_map] at *; omega) | omega | (simp [fs]; done)))) | (with_reducible intro x hx) | omega) <;> (try simp only [row2_len, Nat.reduceBEq, reduceIte, fw, fd]))
 have hl : a.length = b.length := by omega
 have c1 : ((a.length : Int) == (b.length : Int)) = true := by simp [hl]
 repeat' ((first | apply Run_seq | apply Run_skip | apply Run_block | apply Run_blk | refine Run_exit rfl ?_ | apply Run_ret | apply Run_nil | apply Run_condK | apply Run_ops mixed | apply Run_opsX mixed | with_reducible refine PostV_open ?_ | simp (disch := omega) only [w64, wu64, wu32, wu16, wu8, Int.tdiv_eq_ediv_of_nonneg, Int.tmod_eq_emod_of_nonneg] | (refine CondK_split ?_ ?_ <;> intro hc <;> (try simp only [hc]) <;> try simp at hc) | (with_reducible refine ⟨?_, ?_⟩; (focus ((repeat' with_reducible refine ⟨?_, ?_⟩) <;> first | exact trivial | assumption | (simp; done) | (simp only [List.length_map] at *; omega) | omega | (simp [fs]; done)))) | (with_reducible intro x hx) | omega) <;> (try simp only [row2_len, Nat.reduceBEq, reduceIte, fw, fd]))
 refine Run_loop (ι := {i : Nat // i ≤ a.length ∧ a.take i = b.take i}) (fun i => ([(0, L (row2 .u32 .i64 a)), (1, L (row2 .u32 .i64 b)), (12, .int .i64 a.length), (13, .int .i64 i.1)], [])) (fun i => a.length - i.1) ⟨0, by simp⟩ ?_ ?_
 ·refine Ent_gc [] (by rfl) (by simp) (by simp [keptW]) (by simp [fg])
 rintro ⟨i, hi, ht⟩ hk
 dsimp only at hk ⊢
 by_cases hlt : i < a.length
 ·have c2 : ((i : Int) < (a.length : Int)) = True := by simp; omega
  obtain ⟨x, hx⟩ : ∃ x, a[i]? = some x := ⟨_, List.getElem?_eq_getElem hlt⟩
  obtain ⟨y, hy⟩ : ∃ y, b[i]? = some y := ⟨_, List.getElem?_eq_getElem (by omega)⟩
  have rx := row2_get (k := .u32) (m := .i64) hx
  have ry := row2_get (k := .u32) (m := .i64) hy
  by_cases hxy : x = y
  ·have c3 : ((x.1 == y.1) && (x.2 == y.2)) = true := by rw [b2]; simpa using hxy
   repeat' ((first | apply Run_seq | apply Run_skip | apply Run_block | apply Run_blk | refine Run_exit rfl ?_ | apply Run_ret | apply Run_nil | apply Run_condK | apply Run_ops mixed | apply Run_opsX mixed | with_reducible refine PostV_open ?_ | simp (disch := omega) only [w64] | (refine CondK_split ?_ ?_ <;> intro hc <;> (try simp only [hc]) <;> try simp at hc) | (with_reducible refine ⟨?_, ?_⟩; (focus ((repeat' with_reducible refine ⟨?_, ?_⟩) <;> first | exact trivial | assumption | (simp; done) | (simp only [List.length_map] at *; omega) | omega | (simp [fs]; done)))) | (with_reducible intro x hx) | omega) <;> (try simp only [row2_len, c2, c3, rx, ry, Nat.reduceBEq, reduceIte, Nat.reduceAdd, cond_true, fw, fd]))
   refine hk ⟨i + 1, by omega, eq_step ht hx hy hxy⟩ _ _ (by dsimp only; omega) ?_
   dsimp only
   refine Ent_gc [] (by rfl) (by simp) (by simp [keptW]) (by simp [fg])
  ·have c3 : ((x.1 == y.1) && (x.2 == y.2)) = false := by rw [b2]; simpa using hxy
   rw [eq_no hx hy hxy]
   repeat' ((first | apply Run_seq | apply Run_skip | apply Run_block | apply Run_blk | refine Run_exit rfl ?_ | apply Run_ret | apply Run_nil | apply Run_condK | apply Run_ops mixed | apply Run_opsX mixed | with_reducible refine PostV_open ?_ | simp (disch := omega) only [w64, wu64, wu32, wu16, wu8, Int.tdiv_eq_ediv_of_nonneg, Int.tmod_eq_emod_of_nonneg] | (refine CondK_split ?_ ?_ <;> intro hc <;> (try simp only [hc]) <;> try simp at hc) | (with_reducible refine ⟨?_, ?_⟩; (focus ((repeat' with_reducible refine ⟨?_, ?_⟩) <;> first | exact trivial | assumption | (simp; done) | (simp only [List.length_map] at *; omega) | omega | (simp [fs]; done)))) | (with_reducible intro x hx) | omega) <;> (try simp only [row2_len, c2, c3, rx, ry, Nat.reduceBEq, reduceIte, Nat.reduceAdd, cond_true, fw, fd]))
 ·have c2 : ((i : Int) < (a.length : Int)) = False := by simp; omega
  rw [eq_end ht hlt hl]
  repeat' ((first | apply Run_seq | apply Run_skip | apply Run_block | apply Run_blk | refine Run_exit rfl ?_ | apply Run_ret | apply Run_nil | apply Run_condK | apply Run_ops mixed | apply Run_opsX mixed | with_reducible refine PostV_open ?_ | simp (disch := omega) only [w64, wu64, wu32, wu16, wu8, Int.tdiv_eq_ediv_of_nonneg, Int.tmod_eq_emod_of_nonneg] | (refine CondK_split ?_ ?_ <;> intro hc <;> (try simp only [hc]) <;> try simp at hc) | (with_reducible refine ⟨?_, ?_⟩; (focus ((repeat' with_reducible refine ⟨?_, ?_⟩) <;> first | exact trivial | assumption | (simp; done) | (simp only [List.length_map] at *; omega) | omega | (simp [fs]; done)))) | (with_reducible intro x hx) | omega) <;> (try simp only [c2, Nat.reduceBEq, reduceIte, fw, fd]))
theorem eqShift_p (a b : List (Int × Int × Int)) (ha : a.length ≤ 140737488351232) (hb : b.length ≤ 140737488351232) : PureD Tryz.prog 87 [L (row3 a), L (row3 b)] (.bool (decide (a = b))) := by
 refine pureV Tryz.func87 low87 (by simp [c87]) ?_
 simp only [c87]
 by_cases hl : ¬ a.length = b.length
 ·have c1 := lenB hl
  rw [eq_len hl]
  repeat' ((first | apply Run_seq | apply Run_skip | apply Run_block | apply Run_blk | refine Run_exit rfl ?_ | apply Run_ret | apply Run_nil | apply Run_condK | apply Run_ops mixed | apply Run_opsX mixed | with_reducible refine PostV_open ?_ | simp (disch := omega) only [w64, wu64, wu32, wu16, wu8, Int.tdiv_eq_ediv_of_nonneg, Int.tmod_eq_emod_of_nonneg] | (refine CondK_split ?_ ?_ <;> intro hc <;> (try simp only [hc]) <;> try simp at hc) | (with_reducible refine ⟨?_, ?_⟩; (focus ((repeat' with_reducible refine ⟨?_, ?_⟩) <;> first | exact trivial | assumption | (simp; done) | (simp only [List.length_map] at *; omega) | omega | (simp [fs]; done)))) | (with_reducible intro x hx) | omega) <;> (try simp only [row3_len, Nat.reduceBEq, reduceIte, fw, fd]))
 have hl : a.length = b.length := by omega
 have c1 : ((a.length : Int) == (b.length : Int)) = true := by simp [hl]
 repeat' ((first | apply Run_seq | apply Run_skip | apply Run_block | apply Run_blk | refine Run_exit rfl ?_ | apply Run_ret | apply Run_nil | apply Run_condK | apply Run_ops mixed | apply Run_opsX mixed | with_reducible refine PostV_open ?_ | simp (disch := omega) only [w64, wu64, wu32, wu16, wu8, Int.tdiv_eq_ediv_of_nonneg, Int.tmod_eq_emod_of_nonneg] | (refine CondK_split ?_ ?_ <;> intro hc <;> (try simp only [hc]) <;> try simp at hc) | (with_reducible refine ⟨?_, ?_⟩; (focus ((repeat' with_reducible refine ⟨?_, ?_⟩) <;> first | exact trivial | assumption | (simp; done) | (simp only [List.length_map] at *; omega) | omega | (simp [fs]; done)))) | (with_reducible intro x hx) | omega) <;> (try simp only [row3_len, Nat.reduceBEq, reduceIte, fw, fd]))
 refine Run_loop (ι := {i : Nat // i ≤ a.length ∧ a.take i = b.take i}) (fun i => ([(0, L (row3 a)), (1, L (row3 b)), (12, .int .i64 a.length), (13, .int .i64 i.1)], [])) (fun i => a.length - i.1) ⟨0, by simp⟩ ?_ ?_
 ·refine Ent_gc [] (by rfl) (by simp) (by simp [keptW]) (by simp [fg])
 rintro ⟨i, hi, ht⟩ hk
 dsimp only at hk ⊢
 by_cases hlt : i < a.length
 ·have c2 : ((i : Int) < (a.length : Int)) = True := by simp; omega
  obtain ⟨x, hx⟩ : ∃ x, a[i]? = some x := ⟨_, List.getElem?_eq_getElem hlt⟩
  obtain ⟨y, hy⟩ : ∃ y, b[i]? = some y := ⟨_, List.getElem?_eq_getElem (by omega)⟩
  have rx := row3_get hx
  have ry := row3_get hy
  by_cases hxy : x = y
  ·have c3 : ((x.1 == y.1) && ((x.2.1 == y.2.1) && (x.2.2 == y.2.2))) = true := by rw [b3]; simpa using hxy
   repeat' ((first | apply Run_seq | apply Run_skip | apply Run_block | apply Run_blk | refine Run_exit rfl ?_ | apply Run_ret | apply Run_nil | apply Run_condK | apply Run_ops mixed | apply Run_opsX mixed | with_reducible refine PostV_open ?_ | simp (disch := omega) only [w64] | (refine CondK_split ?_ ?_ <;> intro hc <;> (try simp only [hc]) <;> try simp at hc) | (with_reducible refine ⟨?_, ?_⟩; (focus ((repeat' with_reducible refine ⟨?_, ?_⟩) <;> first | exact trivial | assumption | (simp; done) | (simp only [List.length_map] at *; omega) | omega | (simp [fs]; done)))) | (with_reducible intro x hx) | omega) <;> (try simp only [row3_len, c2, c3, rx, ry, Nat.reduceBEq, reduceIte, Nat.reduceAdd, cond_true, fw, fd]))
   refine hk ⟨i + 1, by omega, eq_step ht hx hy hxy⟩ _ _ (by dsimp only; omega) ?_
   dsimp only
   refine Ent_gc [] (by rfl) (by simp) (by simp [keptW]) (by simp [fg])
  ·have c3 : ((x.1 == y.1) && ((x.2.1 == y.2.1) && (x.2.2 == y.2.2))) = false := by rw [b3]; simpa using hxy
   rw [eq_no hx hy hxy]
   repeat' ((first | apply Run_seq | apply Run_skip | apply Run_block | apply Run_blk | refine Run_exit rfl ?_ | apply Run_ret | apply Run_nil | apply Run_condK | apply Run_ops mixed | apply Run_opsX mixed | with_reducible refine PostV_open ?_ | simp (disch := omega) only [w64, wu64, wu32, wu16, wu8, Int.tdiv_eq_ediv_of_nonneg, Int.tmod_eq_emod_of_nonneg] | (refine CondK_split ?_ ?_ <;> intro hc <;> (try simp only [hc]) <;> try simp at hc) | (with_reducible refine ⟨?_, ?_⟩; (focus ((repeat' with_reducible refine ⟨?_, ?_⟩) <;> first | exact trivial | assumption | (simp; done) | (simp only [List.length_map] at *; omega) | omega | (simp [fs]; done)))) | (with_reducible intro x hx) | omega) <;> (try simp only [row3_len, c2, c3, rx, ry, Nat.reduceBEq, reduceIte, Nat.reduceAdd, cond_true, fw, fd]))
 ·have c2 : ((i : Int) < (a.length : Int)) = False := by simp; omega
  rw [eq_end ht hlt hl]
  repeat' ((first | apply Run_seq | apply Run_skip | apply Run_block | apply Run_blk | refine Run_exit rfl ?_ | apply Run_ret | apply Run_nil | apply Run_condK | apply Run_ops mixed | apply Run_opsX mixed | with_reducible refine PostV_open ?_ | simp (disch := omega) only [w64, wu64, wu32, wu16, wu8, Int.tdiv_eq_ediv_of_nonneg, Int.tmod_eq_emod_of_nonneg] | (refine CondK_split ?_ ?_ <;> intro hc <;> (try simp only [hc]) <;> try simp at hc) | (with_reducible refine ⟨?_, ?_⟩; (focus ((repeat' with_reducible refine ⟨?_, ?_⟩) <;> first | exact trivial | assumption | (simp; done) | (simp only [List.length_map] at *; omega) | omega | (simp [fs]; done)))) | (with_reducible intro x hx) | omega) <;> (try simp only [c2, Nat.reduceBEq, reduceIte, fw, fd]))
theorem eqChange_p (a b : List (Int × Int × Int)) (ha : a.length ≤ 140737488351232) (hb : b.length ≤ 140737488351232) : PureD Tryz.prog 90 [L (row3 a), L (row3 b)] (.bool (decide (a = b))) := by
 refine pureV Tryz.func90 low90 (by simp [c90]) ?_
 simp only [c90]
 by_cases hl : ¬ a.length = b.length
 ·have c1 := lenB hl
  rw [eq_len hl]
  repeat' ((first | apply Run_seq | apply Run_skip | apply Run_block | apply Run_blk | refine Run_exit rfl ?_ | apply Run_ret | apply Run_nil | apply Run_condK | apply Run_ops mixed | apply Run_opsX mixed | with_reducible refine PostV_open ?_ | simp (disch := omega) only [w64, wu64, wu32, wu16, wu8, Int.tdiv_eq_ediv_of_nonneg, Int.tmod_eq_emod_of_nonneg] | (refine CondK_split ?_ ?_ <;> intro hc <;> (try simp only [hc]) <;> try simp at hc) | (with_reducible refine ⟨?_, ?_⟩; (focus ((repeat' with_reducible refine ⟨?_, ?_⟩) <;> first | exact trivial | assumption | (simp; done) | (simp only [List.length_map] at *; omega) | omega | (simp [fs]; done)))) | (with_reducible intro x hx) | omega) <;> (try simp only [row3_len, Nat.reduceBEq, reduceIte, fw, fd]))
 have hl : a.length = b.length := by omega
 have c1 : ((a.length : Int) == (b.length : Int)) = true := by simp [hl]
 repeat' ((first | apply Run_seq | apply Run_skip | apply Run_block | apply Run_blk | refine Run_exit rfl ?_ | apply Run_ret | apply Run_nil | apply Run_condK | apply Run_ops mixed | apply Run_opsX mixed | with_reducible refine PostV_open ?_ | simp (disch := omega) only [w64, wu64, wu32, wu16, wu8, Int.tdiv_eq_ediv_of_nonneg, Int.tmod_eq_emod_of_nonneg] | (refine CondK_split ?_ ?_ <;> intro hc <;> (try simp only [hc]) <;> try simp at hc) | (with_reducible refine ⟨?_, ?_⟩; (focus ((repeat' with_reducible refine ⟨?_, ?_⟩) <;> first | exact trivial | assumption | (simp; done) | (simp only [List.length_map] at *; omega) | omega | (simp [fs]; done)))) | (with_reducible intro x hx) | omega) <;> (try simp only [row3_len, Nat.reduceBEq, reduceIte, fw, fd]))
 refine Run_loop (ι := {i : Nat // i ≤ a.length ∧ a.take i = b.take i}) (fun i => ([(0, L (row3 a)), (1, L (row3 b)), (12, .int .i64 a.length), (13, .int .i64 i.1)], [])) (fun i => a.length - i.1) ⟨0, by simp⟩ ?_ ?_
 ·refine Ent_gc [] (by rfl) (by simp) (by simp [keptW]) (by simp [fg])
 rintro ⟨i, hi, ht⟩ hk
 dsimp only at hk ⊢
 by_cases hlt : i < a.length
 ·have c2 : ((i : Int) < (a.length : Int)) = True := by simp; omega
  obtain ⟨x, hx⟩ : ∃ x, a[i]? = some x := ⟨_, List.getElem?_eq_getElem hlt⟩
  obtain ⟨y, hy⟩ : ∃ y, b[i]? = some y := ⟨_, List.getElem?_eq_getElem (by omega)⟩
  have rx := row3_get hx
  have ry := row3_get hy
  by_cases hxy : x = y
  ·have c3 : ((x.1 == y.1) && ((x.2.1 == y.2.1) && (x.2.2 == y.2.2))) = true := by rw [b3]; simpa using hxy
   repeat' ((first | apply Run_seq | apply Run_skip | apply Run_block | apply Run_blk | refine Run_exit rfl ?_ | apply Run_ret | apply Run_nil | apply Run_condK | apply Run_ops mixed | apply Run_opsX mixed | with_reducible refine PostV_open ?_ | simp (disch := omega) only [w64] | (refine CondK_split ?_ ?_ <;> intro hc <;> (try simp only [hc]) <;> try simp at hc) | (with_reducible refine ⟨?_, ?_⟩; (focus ((repeat' with_reducible refine ⟨?_, ?_⟩) <;> first | exact trivial | assumption | (simp; done) | (simp only [List.length_map] at *; omega) | omega | (simp [fs]; done)))) | (with_reducible intro x hx) | omega) <;> (try simp only [row3_len, c2, c3, rx, ry, Nat.reduceBEq, reduceIte, Nat.reduceAdd, cond_true, fw, fd]))
   refine hk ⟨i + 1, by omega, eq_step ht hx hy hxy⟩ _ _ (by dsimp only; omega) ?_
   dsimp only
   refine Ent_gc [] (by rfl) (by simp) (by simp [keptW]) (by simp [fg])
  ·have c3 : ((x.1 == y.1) && ((x.2.1 == y.2.1) && (x.2.2 == y.2.2))) = false := by rw [b3]; simpa using hxy
   rw [eq_no hx hy hxy]
   repeat' ((first | apply Run_seq | apply Run_skip | apply Run_block | apply Run_blk | refine Run_exit rfl ?_ | apply Run_ret | apply Run_nil | apply Run_condK | apply Run_ops mixed | apply Run_opsX mixed | with_reducible refine PostV_open ?_ | simp (disch := omega) only [w64, wu64, wu32, wu16, wu8, Int.tdiv_eq_ediv_of_nonneg, Int.tmod_eq_emod_of_nonneg] | (refine CondK_split ?_ ?_ <;> intro hc <;> (try simp only [hc]) <;> try simp at hc) | (with_reducible refine ⟨?_, ?_⟩; (focus ((repeat' with_reducible refine ⟨?_, ?_⟩) <;> first | exact trivial | assumption | (simp; done) | (simp only [List.length_map] at *; omega) | omega | (simp [fs]; done)))) | (with_reducible intro x hx) | omega) <;> (try simp only [row3_len, c2, c3, rx, ry, Nat.reduceBEq, reduceIte, Nat.reduceAdd, cond_true, fw, fd]))
 ·have c2 : ((i : Int) < (a.length : Int)) = False := by simp; omega
  rw [eq_end ht hlt hl]
  repeat' ((first | apply Run_seq | apply Run_skip | apply Run_block | apply Run_blk | refine Run_exit rfl ?_ | apply Run_ret | apply Run_nil | apply Run_condK | apply Run_ops mixed | apply Run_opsX mixed | with_reducible refine PostV_open ?_ | simp (disch := omega) only [w64, wu64, wu32, wu16, wu8, Int.tdiv_eq_ediv_of_nonneg, Int.tmod_eq_emod_of_nonneg] | (refine CondK_split ?_ ?_ <;> intro hc <;> (try simp only [hc]) <;> try simp at hc) | (with_reducible refine ⟨?_, ?_⟩; (focus ((repeat' with_reducible refine ⟨?_, ?_⟩) <;> first | exact trivial | assumption | (simp; done) | (simp only [List.length_map] at *; omega) | omega | (simp [fs]; done)))) | (with_reducible intro x hx) | omega) <;> (try simp only [c2, Nat.reduceBEq, reduceIte, fw, fd]))
theorem eqSlot_p (a b : List (Int × Int × Int)) (ha : a.length ≤ 140737488351232) (hb : b.length ≤ 140737488351232) : PureD Tryz.prog 62 [L (row3 a), L (row3 b)] (.bool (decide (a = b))) := by
 refine pureV Tryz.func62 low62 (by simp [c62]) ?_
 simp only [c62]
 by_cases hl : ¬ a.length = b.length
 ·have c1 := lenB hl
  rw [eq_len hl]
  repeat' ((first | apply Run_seq | apply Run_skip | apply Run_block | apply Run_blk | refine Run_exit rfl ?_ | apply Run_ret | apply Run_nil | apply Run_condK | apply Run_ops mixed | apply Run_opsX mixed | with_reducible refine PostV_open ?_ | simp (disch := omega) only [w64, wu64, wu32, wu16, wu8, Int.tdiv_eq_ediv_of_nonneg, Int.tmod_eq_emod_of_nonneg] | (refine CondK_split ?_ ?_ <;> intro hc <;> (try simp only [hc]) <;> try simp at hc) | (with_reducible refine ⟨?_, ?_⟩; (focus ((repeat' with_reducible refine ⟨?_, ?_⟩) <;> first | exact trivial | assumption | (simp; done) | (simp only [List.length_map] at *; omega) | omega | (simp [fs]; done)))) | (with_reducible intro x hx) | omega) <;> (try simp only [row3_len, Nat.reduceBEq, reduceIte, fw, fd]))
 have hl : a.length = b.length := by omega
 have c1 : ((a.length : Int) == (b.length : Int)) = true := by simp [hl]
 repeat' ((first | apply Run_seq | apply Run_skip | apply Run_block | apply Run_blk | refine Run_exit rfl ?_ | apply Run_ret | apply Run_nil | apply Run_condK | apply Run_ops mixed | apply Run_opsX mixed | with_reducible refine PostV_open ?_ | simp (disch := omega) only [w64, wu64, wu32, wu16, wu8, Int.tdiv_eq_ediv_of_nonneg, Int.tmod_eq_emod_of_nonneg] | (refine CondK_split ?_ ?_ <;> intro hc <;> (try simp only [hc]) <;> try simp at hc) | (with_reducible refine ⟨?_, ?_⟩; (focus ((repeat' with_reducible refine ⟨?_, ?_⟩) <;> first | exact trivial | assumption | (simp; done) | (simp only [List.length_map] at *; omega) | omega | (simp [fs]; done)))) | (with_reducible intro x hx) | omega) <;> (try simp only [row3_len, Nat.reduceBEq, reduceIte, fw, fd]))
 refine Run_loop (ι := {i : Nat // i ≤ a.length ∧ a.take i = b.take i}) (fun i => ([(0, L (row3 a)), (1, L (row3 b)), (12, .int .i64 a.length), (13, .int .i64 i.1)], [])) (fun i => a.length - i.1) ⟨0, by simp⟩ ?_ ?_
 ·refine Ent_gc [] (by rfl) (by simp) (by simp [keptW]) (by simp [fg])
 rintro ⟨i, hi, ht⟩ hk
 dsimp only at hk ⊢
 by_cases hlt : i < a.length
 ·have c2 : ((i : Int) < (a.length : Int)) = True := by simp; omega
  obtain ⟨x, hx⟩ : ∃ x, a[i]? = some x := ⟨_, List.getElem?_eq_getElem hlt⟩
  obtain ⟨y, hy⟩ : ∃ y, b[i]? = some y := ⟨_, List.getElem?_eq_getElem (by omega)⟩
  have rx := row3_get hx
  have ry := row3_get hy
  by_cases hxy : x = y
  ·have c3 : ((x.1 == y.1) && ((x.2.1 == y.2.1) && (x.2.2 == y.2.2))) = true := by rw [b3]; simpa using hxy
   repeat' ((first | apply Run_seq | apply Run_skip | apply Run_block | apply Run_blk | refine Run_exit rfl ?_ | apply Run_ret | apply Run_nil | apply Run_condK | apply Run_ops mixed | apply Run_opsX mixed | with_reducible refine PostV_open ?_ | simp (disch := omega) only [w64] | (refine CondK_split ?_ ?_ <;> intro hc <;> (try simp only [hc]) <;> try simp at hc) | (with_reducible refine ⟨?_, ?_⟩; (focus ((repeat' with_reducible refine ⟨?_, ?_⟩) <;> first | exact trivial | assumption | (simp; done) | (simp only [List.length_map] at *; omega) | omega | (simp [fs]; done)))) | (with_reducible intro x hx) | omega) <;> (try simp only [row3_len, c2, c3, rx, ry, Nat.reduceBEq, reduceIte, Nat.reduceAdd, cond_true, fw, fd]))
   refine hk ⟨i + 1, by omega, eq_step ht hx hy hxy⟩ _ _ (by dsimp only; omega) ?_
   dsimp only
   refine Ent_gc [] (by rfl) (by simp) (by simp [keptW]) (by simp [fg])
  ·have c3 : ((x.1 == y.1) && ((x.2.1 == y.2.1) && (x.2.2 == y.2.2))) = false := by rw [b3]; simpa using hxy
   rw [eq_no hx hy hxy]
   repeat' ((first | apply Run_seq | apply Run_skip | apply Run_block | apply Run_blk | refine Run_exit rfl ?_ | apply Run_ret | apply Run_nil | apply Run_condK | apply Run_ops mixed | apply Run_opsX mixed | with_reducible refine PostV_open ?_ | simp (disch := omega) only [w64, wu64, wu32, wu16, wu8, Int.tdiv_eq_ediv_of_nonneg, Int.tmod_eq_emod_of_nonneg] | (refine CondK_split ?_ ?_ <;> intro hc <;> (try simp only [hc]) <;> try simp at hc) | (with_reducible refine ⟨?_, ?_⟩; (focus ((repeat' with_reducible refine ⟨?_, ?_⟩) <;> first | exact trivial | assumption | (simp; done) | (simp only [List.length_map] at *; omega) | omega | (simp [fs]; done)))) | (with_reducible intro x hx) | omega) <;> (try simp only [row3_len, c2, c3, rx, ry, Nat.reduceBEq, reduceIte, Nat.reduceAdd, cond_true, fw, fd]))
 ·have c2 : ((i : Int) < (a.length : Int)) = False := by simp; omega
  rw [eq_end ht hlt hl]
  repeat' ((first | apply Run_seq | apply Run_skip | apply Run_block | apply Run_blk | refine Run_exit rfl ?_ | apply Run_ret | apply Run_nil | apply Run_condK | apply Run_ops mixed | apply Run_opsX mixed | with_reducible refine PostV_open ?_ | simp (disch := omega) only [w64, wu64, wu32, wu16, wu8, Int.tdiv_eq_ediv_of_nonneg, Int.tmod_eq_emod_of_nonneg] | (refine CondK_split ?_ ?_ <;> intro hc <;> (try simp only [hc]) <;> try simp at hc) | (with_reducible refine ⟨?_, ?_⟩; (focus ((repeat' with_reducible refine ⟨?_, ?_⟩) <;> first | exact trivial | assumption | (simp; done) | (simp only [List.length_map] at *; omega) | omega | (simp [fs]; done)))) | (with_reducible intro x hx) | omega) <;> (try simp only [c2, Nat.reduceBEq, reduceIte, fw, fd]))
theorem ruleSame_p (a b : Ru) (ha : a.fits) (hb : b.fits) : PureD Tryz.prog 89 [.agg a.cells, .agg b.cells] (.bool (decide (a = b))) := by
 obtain ⟨f1, f2, f3, f4⟩ := ha
 obtain ⟨g1, g2, g3, g4⟩ := hb
 refine pureV Tryz.func89 low89 (by simp [c89]) ?_
 have h4 := eqInt_p a.bm b.bm f1 g1
 have h5 := eqInt_p a.bmd b.bmd f2 g2
 have h6 := eqDay_p a.bd b.bd f3 g3
 have h7 := eqInt_p a.bsp b.bsp f4 g4
 obtain ⟨a0, a1, a2, a3, a4, a5, a6, a7, a8⟩ := a
 obtain ⟨b0, b1, b2, b3, b4, b5, b6, b7, b8⟩ := b
 dsimp only at h4 h5 h6 h7
 have e : decide (Ru.mk a0 a1 a2 a3 a4 a5 a6 a7 a8 = Ru.mk b0 b1 b2 b3 b4 b5 b6 b7 b8) = ((a0 == b0) && ((a1 == b1) && ((a2 == b2) && ((a3 == b3) && ((a8 == b8) && (decide (a4 = b4) && (decide (a5 = b5) && (decide (a6 = b6) && decide (a7 = b7))))))))) := by
  rw [Bool.eq_iff_iff]
  simp only [Bool.and_eq_true, beq_iff_eq, decide_eq_true_eq, Ru.mk.injEq]
  exact ⟨fun ⟨p0, p1, p2, p3, p4, p5, p6, p7, p8⟩ => ⟨p0, p1, p2, p3, p8, p4, p5, p6, p7⟩, fun ⟨p0, p1, p2, p3, p8, p4, p5, p6, p7⟩ => ⟨p0, p1, p2, p3, p4, p5, p6, p7, p8⟩⟩
 rw [e]
 clear e
 generalize decide (a4 = b4) = x4 at h4 ⊢
 generalize decide (a5 = b5) = x5 at h5 ⊢
 generalize decide (a6 = b6) = x6 at h6 ⊢
 generalize decide (a7 = b7) = x7 at h7 ⊢
 simp only [c89, Ru.cells]
 repeat' ((first | apply Run_seq | apply Run_ret | apply Run_nil | apply Run_ops mixed | (with_reducible first | refine PostV_open ?_ | refine ro_callV ?_) | refine CallV_pure (h4) ?_ ?_ | refine CallV_pure (h5) ?_ ?_ | refine CallV_pure (h6) ?_ ?_ | refine CallV_pure (h7) ?_ ?_ | (refine GuardK_split ?_ ?_ <;> intro hc <;> (try simp only [hc]) <;> try simp at hc) | (with_reducible refine ⟨?_, ?_⟩; (focus ((repeat' with_reducible refine ⟨?_, ?_⟩) <;> first | exact trivial | assumption | (simp; done) | (simp only [List.length_map] at *; omega) | omega | (simp [fs]; done)))) | (with_reducible intro x hx) | omega) <;> (try simp only [Nat.reduceBEq, reduceIte, Nat.reduceAdd, reduceCtorEq, cond_true, cond_false, ne_eq, fw, fd]))
 all_goals (rw [Bool.eq_iff_iff]; simp [*]; try (exact fun h1 h2 => absurd h2 (hc h1)))
theorem recSe_p (a b : Se) (ha : a.fits) (hb : b.fits) : PureD Tryz.prog 43 [.agg a.cells, .agg b.cells] (.bool (decide (a = b))) := by
 obtain ⟨f1, f2, f3⟩ := ha
 obtain ⟨g1, g2, g3⟩ := hb
 refine pureV Tryz.func43 low43 (by simp [c43]) ?_
 have h1 := eqTurn_p a.turns b.turns f1 g1
 have h2 := eqShift_p a.shifts b.shifts f2 g2
 have h3 := eqInt_p a.off b.off f3 g3
 obtain ⟨a0, a1, a2, a3, a4, a5⟩ := a
 obtain ⟨b0, b1, b2, b3, b4, b5⟩ := b
 dsimp only at h1 h2 h3
 have e : decide (Se.mk a0 a1 a2 a3 a4 a5 = Se.mk b0 b1 b2 b3 b4 b5) = ((a0 == b0) && (decide (a1 = b1) && (decide (a2 = b2) && (decide (a3 = b3) && ((a4 == b4) && (a5 == b5)))))) := by
  rw [Bool.eq_iff_iff]
  simp only [Bool.and_eq_true, beq_iff_eq, decide_eq_true_eq, Se.mk.injEq]
 rw [e]
 clear e
 generalize decide (a1 = b1) = x1 at h1 ⊢
 generalize decide (a2 = b2) = x2 at h2 ⊢
 generalize decide (a3 = b3) = x3 at h3 ⊢
 simp only [c43, Se.cells]
 repeat' ((first | apply Run_seq | apply Run_ret | apply Run_nil | apply Run_ops mixed | (with_reducible first | refine PostV_open ?_ | refine ro_callV ?_) | refine CallV_pure (h1) ?_ ?_ | refine CallV_pure (h2) ?_ ?_ | refine CallV_pure (h3) ?_ ?_ | (refine GuardK_split ?_ ?_ <;> intro hc <;> (try simp only [hc]) <;> try simp at hc) | (with_reducible refine ⟨?_, ?_⟩; (focus ((repeat' with_reducible refine ⟨?_, ?_⟩) <;> first | exact trivial | assumption | (simp; done) | (simp only [List.length_map] at *; omega) | omega | (simp [fs]; done)))) | (with_reducible intro x hx) | omega) <;> (try simp only [Nat.reduceBEq, reduceIte, Nat.reduceAdd, reduceCtorEq, cond_true, cond_false, ne_eq, fw, fd]))
 all_goals (rw [Bool.eq_iff_iff]; simp [*]; try (exact fun h1 h2 => absurd h2 (hc h1)))
theorem recEv_p (a b : Ev) (ha : a.fits) (hb : b.fits) : PureD Tryz.prog 46 [.agg a.cells, .agg b.cells] (.bool (decide (a = b))) := by
 obtain ⟨f1, f2, f3, f4⟩ := ha
 obtain ⟨g1, g2, g3, g4⟩ := hb
 refine pureV Tryz.func46 low46 (by simp [c46]) ?_
 have h4 := ruleSame_p a.rule b.rule f1 g1
 have h5 := eqI64_p a.ex b.ex f2 g2
 have h6 := eqI64_p a.plus b.plus f3 g3
 have h7 := eqChange_p a.ch b.ch f4 g4
 obtain ⟨a0, a1, a2, a3, a4, a5, a6, a7⟩ := a
 obtain ⟨b0, b1, b2, b3, b4, b5, b6, b7⟩ := b
 dsimp only at h4 h5 h6 h7
 have e : decide (Ev.mk a0 a1 a2 a3 a4 a5 a6 a7 = Ev.mk b0 b1 b2 b3 b4 b5 b6 b7) = ((a0 == b0) && ((a1 == b1) && ((a3 == b3) && ((a2 == b2) && (decide (a4 = b4) && (decide (a5 = b5) && (decide (a6 = b6) && decide (a7 = b7)))))))) := by
  rw [Bool.eq_iff_iff]
  simp only [Bool.and_eq_true, beq_iff_eq, decide_eq_true_eq, Ev.mk.injEq]
  exact ⟨fun ⟨p0, p1, p2, p3, p4, p5, p6, p7⟩ => ⟨p0, p1, p3, p2, p4, p5, p6, p7⟩, fun ⟨p0, p1, p3, p2, p4, p5, p6, p7⟩ => ⟨p0, p1, p2, p3, p4, p5, p6, p7⟩⟩
 rw [e]
 clear e
 generalize decide (a4 = b4) = x4 at h4 ⊢
 generalize decide (a5 = b5) = x5 at h5 ⊢
 generalize decide (a6 = b6) = x6 at h6 ⊢
 generalize decide (a7 = b7) = x7 at h7 ⊢
 simp only [c46, Ev.cells]
 simp only [Ru.cells] at h4
 repeat' ((first | apply Run_seq | apply Run_ret | apply Run_nil | apply Run_ops mixed | (with_reducible first | refine PostV_open ?_ | refine ro_callV ?_) | refine CallV_pure (h4) ?_ ?_ | refine CallV_pure (h5) ?_ ?_ | refine CallV_pure (h6) ?_ ?_ | refine CallV_pure (h7) ?_ ?_ | (refine GuardK_split ?_ ?_ <;> intro hc <;> (try simp only [hc]) <;> try simp at hc) | (with_reducible refine ⟨?_, ?_⟩; (focus ((repeat' with_reducible refine ⟨?_, ?_⟩) <;> first | exact trivial | assumption | (simp; done) | (simp only [List.length_map] at *; omega) | omega | (simp [fs]; done)))) | (with_reducible intro x hx) | omega) <;> (try simp only [Nat.reduceBEq, reduceIte, Nat.reduceAdd, Nat.reduceLeDiff, reduceCtorEq, cond_true, cond_false, ne_eq, fw, fd]))
 all_goals (rw [Bool.eq_iff_iff]; simp [*]; try (exact fun h1 h2 => absurd h2 (hc h1)))
theorem recQu_p (a b : Qu) (ha : a.fits) (hb : b.fits) : PureD Tryz.prog 83 [.agg a.cells, .agg b.cells] (.bool (decide (a = b))) := by
 obtain ⟨f1, f2, f3, f4⟩ := ha
 obtain ⟨g1, g2, g3, g4⟩ := hb
 refine pureV Tryz.func83 low83 (by simp [c83]) ?_
 have h4 := eqU32_p a.must b.must f1 g1
 have h5 := eqWant_p a.may b.may f2 g2
 have h7 := eqPair_p a.apart b.apart f3 g3
 have h8 := eqShift_p a.prefer b.prefer f4 g4
 obtain ⟨a0, a1, a2, a3, a4, a5, a6, a7, a8⟩ := a
 obtain ⟨b0, b1, b2, b3, b4, b5, b6, b7, b8⟩ := b
 dsimp only at h4 h5 h7 h8
 have e : decide (Qu.mk a0 a1 a2 a3 a4 a5 a6 a7 a8 = Qu.mk b0 b1 b2 b3 b4 b5 b6 b7 b8) = ((a0 == b0) && ((a1 == b1) && ((a2 == b2) && ((a3 == b3) && (decide (a4 = b4) && (decide (a5 = b5) && ((a6 == b6) && (decide (a7 = b7) && decide (a8 = b8))))))))) := by
  rw [Bool.eq_iff_iff]
  simp only [Bool.and_eq_true, beq_iff_eq, decide_eq_true_eq, Qu.mk.injEq]
 rw [e]
 clear e
 generalize decide (a4 = b4) = x4 at h4 ⊢
 generalize decide (a5 = b5) = x5 at h5 ⊢
 generalize decide (a7 = b7) = x7 at h7 ⊢
 generalize decide (a8 = b8) = x8 at h8 ⊢
 simp only [c83, Qu.cells]
 repeat' ((first | apply Run_seq | apply Run_ret | apply Run_nil | apply Run_ops mixed | (with_reducible first | refine PostV_open ?_ | refine ro_callV ?_) | refine CallV_pure (h4) ?_ ?_ | refine CallV_pure (h5) ?_ ?_ | refine CallV_pure (h7) ?_ ?_ | refine CallV_pure (h8) ?_ ?_ | (refine GuardK_split ?_ ?_ <;> intro hc <;> (try simp only [hc]) <;> try simp at hc) | (with_reducible refine ⟨?_, ?_⟩; (focus ((repeat' with_reducible refine ⟨?_, ?_⟩) <;> first | exact trivial | assumption | (simp; done) | (simp only [List.length_map] at *; omega) | omega | (simp [fs]; done)))) | (with_reducible intro x hx) | omega) <;> (try simp only [Nat.reduceBEq, reduceIte, Nat.reduceAdd, Nat.reduceLeDiff, reduceCtorEq, cond_true, cond_false, ne_eq, fw, fd]))
 all_goals (rw [Bool.eq_iff_iff]; simp [*]; try (exact fun h1 h2 => absurd h2 (hc h1)))
theorem recPo_p (a b : Po) (ha : a.fits) (hb : b.fits) : PureD Tryz.prog 40 [.agg a.row, .agg b.row] (.bool (decide (a = b))) := by
 obtain ⟨f1, f2, f3⟩ := ha
 obtain ⟨g1, g2, g3⟩ := hb
 refine pureV Tryz.func40 low40 (by simp [c40]) ?_
 have h2 := recQu_p a.qu b.qu f1 g1
 have h3 := eqI64_p a.slots b.slots f2 g2
 have h4 := eqVote_p a.votes b.votes f3 g3
 obtain ⟨a0, a1, a2, a3, a4, a5, a6, a7⟩ := a
 obtain ⟨b0, b1, b2, b3, b4, b5, b6, b7⟩ := b
 dsimp only at h2 h3 h4
 have e : decide (Po.mk a0 a1 a2 a3 a4 a5 a6 a7 = Po.mk b0 b1 b2 b3 b4 b5 b6 b7) = ((a0 == b0) && ((a1 == b1) && (decide (a2 = b2) && (decide (a3 = b3) && (decide (a4 = b4) && ((a5 == b5) && ((a6 == b6) && (a7 == b7)))))))) := by
  rw [Bool.eq_iff_iff]
  simp only [Bool.and_eq_true, beq_iff_eq, decide_eq_true_eq, Po.mk.injEq]
 rw [e]
 clear e
 generalize decide (a2 = b2) = x2 at h2 ⊢
 generalize decide (a3 = b3) = x3 at h3 ⊢
 generalize decide (a4 = b4) = x4 at h4 ⊢
 simp only [c40, Po.row]
 simp only [Qu.cells] at h2
 repeat' ((first | apply Run_seq | apply Run_ret | apply Run_nil | apply Run_ops mixed | (with_reducible first | refine PostV_open ?_ | refine ro_callV ?_) | refine CallV_pure (h2) ?_ ?_ | refine CallV_pure (h3) ?_ ?_ | refine CallV_pure (h4) ?_ ?_ | (refine GuardK_split ?_ ?_ <;> intro hc <;> (try simp only [hc]) <;> try simp at hc) | (with_reducible refine ⟨?_, ?_⟩; (focus ((repeat' with_reducible refine ⟨?_, ?_⟩) <;> first | exact trivial | assumption | (simp; done) | (simp only [List.length_map] at *; omega) | omega | (simp [fs]; done)))) | (with_reducible intro x hx) | omega) <;> (try simp only [Nat.reduceBEq, reduceIte, Nat.reduceAdd, Nat.reduceLeDiff, reduceCtorEq, cond_true, cond_false, ne_eq, fw, fd]))
 all_goals (rw [Bool.eq_iff_iff]; simp [*]; try (exact fun h1 h2 => absurd h2 (hc h1)))
end Go.Proofs.YtgefljdclekadaaGreat

namespace Go.Proofs.YtgefljdclekadaaGreat
open Go Go.Vi


deriving instance DecidableEq for As
theorem str_self (s : ByteArray) : (s == s) = true := by rw [str_beq]; simp
structure Re where
 err : Int
 ver : Int
 slots : List (Int × Int × Int)
 cursor : ByteArray
 po : Po
 deriving DecidableEq
def Re.cells (r : Re) : List D := [.int .i64 r.err, .int .u64 r.ver, L (row3 r.slots), .str r.cursor, .int .u32 r.po.id, .int .u32 r.po.owner, .int .i64 r.po.qu.a, .int .i64 r.po.qu.b, .int .i64 r.po.qu.long, .int .i64 r.po.qu.grid, L (row1 .u32 r.po.qu.must), L (row2 .u32 .i64 r.po.qu.may), .int .i64 r.po.qu.seats, L (row2 .u32 .u32 r.po.qu.apart), L (row3 r.po.qu.prefer), L (row1 .i64 r.po.slots), L (row2 .u32 .i64 r.po.votes), .int .i64 r.po.til, .int .i64 r.po.state, .int .i64 r.po.winner]
def As.fits (a : As) : Prop := a.se.fits ∧ a.ev.fits ∧ a.qu.fits
def Re.fits (a : Re) : Prop := a.slots.length ≤ 140737488351232 ∧ a.po.fits
def As.great (a : As) : Bool := a.se.great || a.ev.great || a.qu.great || decide (200 < a.cursor.size)
def Re.great (a : Re) : Bool := decide (150 < a.slots.length) || decide (200 < a.cursor.size) || a.po.great
theorem greatRe_p (a : Re) : PureD Tryz.prog 5 [.agg a.cells] (.bool a.great) := by
 refine pureV Tryz.func5 low5 (by simp [c5]) ?_
 simp only [c5, Re.cells]
 have h1 := greatPo_p a.po
 simp only [Po.row] at h1
 repeat' ((first | apply Run_seq | apply Run_ret | apply Run_nil | apply Run_ops mixed | (with_reducible first | refine PostV_open ?_ | refine ro_callV ?_) | refine CallV_pure (h1) ?_ ?_ | (refine GuardK_split ?_ ?_ <;> intro hc <;> (try simp only [hc]) <;> try simp at hc) | (with_reducible refine ⟨?_, ?_⟩; (focus ((repeat' with_reducible refine ⟨?_, ?_⟩) <;> first | exact trivial | assumption | (simp; done) | (simp only [List.length_map] at *; omega) | omega | (simp [fs]; done)))) | (with_reducible intro x hx) | omega) <;> (try simp only [row3_len, Nat.reduceBEq, reduceIte, Nat.reduceAdd, reduceCtorEq, cond_true, cond_false, ne_eq, fw, fd]))
 all_goals (unfold Re.great; rw [Bool.eq_iff_iff]; simp [*]; try omega)
set_option maxHeartbeats 2000000 in
theorem recAs_p (a b : As) (ha : a.fits) (hb : b.fits) : PureD Tryz.prog 51 [.agg a.cells, .agg b.cells] (.bool (decide (a = b))) := by
 obtain ⟨f1, f2, f3⟩ := ha
 obtain ⟨g1, g2, g3⟩ := hb
 refine pureV Tryz.func51 low51 (by simp [c51]) ?_
 have h5 := recSe_p a.se b.se f1 g1
 have h6 := recEv_p a.ev b.ev f2 g2
 have h7 := recQu_p a.qu b.qu f3 g3
 obtain ⟨a0, a1, a2, a3, a4, a5, a6, a7, a8, a9, a10, a11, a12, a13⟩ := a
 obtain ⟨b0, b1, b2, b3, b4, b5, b6, b7, b8, b9, b10, b11, b12, b13⟩ := b
 dsimp only at h5 h6 h7
 have e : decide (As.mk a0 a1 a2 a3 a4 a5 a6 a7 a8 a9 a10 a11 a12 a13 = As.mk b0 b1 b2 b3 b4 b5 b6 b7 b8 b9 b10 b11 b12 b13) = ((a0 == b0) && ((a1 == b1) && ((a2 == b2) && ((a3 == b3) && ((a4 == b4) && (decide (a5 = b5) && (decide (a6 = b6) && (decide (a7 = b7) && ((a8 == b8) && ((a9 == b9) && ((a10 == b10) && ((a11 == b11) && ((a12 == b12) && (a13 == b13)))))))))))))) := by
  rw [Bool.eq_iff_iff]
  simp only [Bool.and_eq_true, str_beq, beq_iff_eq, decide_eq_true_eq, As.mk.injEq]
 rw [e]
 clear e
 generalize decide (a5 = b5) = x5 at h5 ⊢
 generalize decide (a6 = b6) = x6 at h6 ⊢
 generalize decide (a7 = b7) = x7 at h7 ⊢
 simp only [c51, As.cells]
 simp only [Se.cells, Ev.cells, Qu.cells] at h5 h6 h7
 repeat' ((first | apply Run_seq | apply Run_ret | apply Run_nil | apply Run_ops mixed | (with_reducible first | refine PostV_open ?_ | refine ro_callV ?_) | refine CallV_pure (h5) ?_ ?_ | refine CallV_pure (h6) ?_ ?_ | refine CallV_pure (h7) ?_ ?_ | (refine GuardK_split ?_ ?_ <;> intro hc <;> (try simp only [hc]) <;> try simp at hc) | (with_reducible refine ⟨?_, ?_⟩; (focus ((repeat' with_reducible refine ⟨?_, ?_⟩) <;> first | exact trivial | assumption | (simp; done) | (simp only [List.length_map] at *; omega) | omega | (simp [fs]; done)))) | (with_reducible intro x hx) | omega) <;> (try simp only [Nat.reduceBEq, reduceIte, Nat.reduceAdd, Nat.reduceLeDiff, reduceCtorEq, cond_true, cond_false, ne_eq, fw, fd]))
 all_goals (rw [Bool.eq_iff_iff]; simp [*, str_beq]; try (exact fun h1 h2 => absurd h2 (hc h1)))
theorem recRe_p (a b : Re) (ha : a.fits) (hb : b.fits) : PureD Tryz.prog 22 [.agg a.cells, .agg b.cells] (.bool (decide (a = b))) := by
 obtain ⟨f1, f2⟩ := ha
 obtain ⟨g1, g2⟩ := hb
 refine pureV Tryz.func22 low22 (by simp [c22]) ?_
 have h2 := eqSlot_p a.slots b.slots f1 g1
 have h4 := recPo_p a.po b.po f2 g2
 obtain ⟨a0, a1, a2, a3, a4⟩ := a
 obtain ⟨b0, b1, b2, b3, b4⟩ := b
 dsimp only at h2 h4
 have e : decide (Re.mk a0 a1 a2 a3 a4 = Re.mk b0 b1 b2 b3 b4) = ((a0 == b0) && ((a1 == b1) && (decide (a2 = b2) && ((a3 == b3) && decide (a4 = b4))))) := by
  rw [Bool.eq_iff_iff]
  simp only [Bool.and_eq_true, str_beq, beq_iff_eq, decide_eq_true_eq, Re.mk.injEq]
 rw [e]
 clear e
 generalize decide (a2 = b2) = x2 at h2 ⊢
 generalize decide (a4 = b4) = x4 at h4 ⊢
 simp only [c22, Re.cells]
 simp only [Po.row] at h4
 repeat' ((first | apply Run_seq | apply Run_ret | apply Run_nil | apply Run_ops mixed | (with_reducible first | refine PostV_open ?_ | refine ro_callV ?_) | refine CallV_pure (h2) ?_ ?_ | refine CallV_pure (h4) ?_ ?_ | (refine GuardK_split ?_ ?_ <;> intro hc <;> (try simp only [hc]) <;> try simp at hc) | (with_reducible refine ⟨?_, ?_⟩; (focus ((repeat' with_reducible refine ⟨?_, ?_⟩) <;> first | exact trivial | assumption | (simp; done) | (simp only [List.length_map] at *; omega) | omega | (simp [fs]; done)))) | (with_reducible intro x hx) | omega) <;> (try simp only [Nat.reduceBEq, reduceIte, Nat.reduceAdd, reduceCtorEq, cond_true, cond_false, ne_eq, fw, fd]))
 all_goals (rw [Bool.eq_iff_iff]; simp [*, str_beq]; try (exact fun h1 h2 => absurd h2 (hc h1)))
theorem Re.eq_iff {a b : Re} : a = b ↔ (a.err = b.err ∧ a.ver = b.ver ∧ a.slots = b.slots ∧ a.cursor = b.cursor ∧ a.po = b.po) := by
 cases a; cases b; simp only [Re.mk.injEq]
set_option maxHeartbeats 4000000 in
theorem refRe_p (a b : Re) (fa : a.fits) (fb : b.fits) : PureD Tryz.prog 10 [.agg a.cells, .agg b.cells] (.bool (decide (a = b))) := by
 refine pureV Tryz.func10 low10 (by simp [c10]) ?_
 simp only [c10, Re.cells]
 obtain ⟨a1, a2⟩ := fa
 obtain ⟨b1, b2'⟩ := fb
 by_cases h : ¬ (b.err = a.err ∧ b.ver = a.ver ∧ b.cursor = a.cursor ∧ a.slots.length = b.slots.length)
 ·have e : decide (a = b) = false := by
   simp only [decide_eq_false_iff_not]
   rintro rfl
   exact h ⟨rfl, rfl, rfl, rfl⟩
  rw [e]
  repeat' ((first | apply Run_seq | apply Run_skip | apply Run_block | apply Run_blk | refine Run_exit rfl ?_ | apply Run_ret | apply Run_nil | apply Run_condK | apply Run_ops mixed | apply Run_opsX mixed | (with_reducible first | refine PostV_open ?_ | refine ro_callV ?_) | simp (disch := omega) only [w64, wu64, wu32, wu16, wu8, Int.tdiv_eq_ediv_of_nonneg, Int.tmod_eq_emod_of_nonneg] | ((first | refine GuardK_split ?_ ?_ | refine CondK_split ?_ ?_) <;> intro hc <;> (try simp only [hc]) <;> try simp at hc) | (with_reducible refine ⟨?_, ?_⟩; (focus ((repeat' with_reducible refine ⟨?_, ?_⟩) <;> first | exact trivial | assumption | (simp; done) | (simp only [List.length_map] at *; omega) | omega | (simp [fs]; done)))) | (with_reducible intro x hx) | omega) <;> (try simp only [row3_len, Nat.reduceBEq, reduceIte, Nat.reduceAdd, reduceCtorEq, cond_true, cond_false, ne_eq, fw, fd]))
  all_goals (first | (exfalso; simp_all [str_beq]; done) | (exfalso; apply h; simp_all [str_beq]; done) | (exfalso; rename_i x1 x2 x3; rw [str_beq, decide_eq_true_eq] at x3; exact h ⟨x1.symm, x2.symm, x3.symm, by omega⟩))
 obtain ⟨e0, e1, e2, hl0⟩ : (b.err = a.err ∧ b.ver = a.ver ∧ b.cursor = a.cursor ∧ a.slots.length = b.slots.length) := by simpa using h
 have cl0 : ((a.slots.length : Int) == (b.slots.length : Int)) = true := by simp [hl0]
 repeat' ((first | apply Run_seq | apply Run_skip | apply Run_block | apply Run_blk | refine Run_exit rfl ?_ | apply Run_ret | apply Run_nil | apply Run_condK | apply Run_ops mixed | apply Run_opsX mixed | (with_reducible first | refine PostV_open ?_ | refine ro_callV ?_) | simp (disch := omega) only [w64, wu64, wu32, wu16, wu8, Int.tdiv_eq_ediv_of_nonneg, Int.tmod_eq_emod_of_nonneg] | ((first | refine GuardK_split ?_ ?_ | refine CondK_split ?_ ?_) <;> intro hc <;> (try simp only [hc]) <;> try simp at hc) | (with_reducible refine ⟨?_, ?_⟩; (focus ((repeat' with_reducible refine ⟨?_, ?_⟩) <;> first | exact trivial | assumption | (simp; done) | (simp only [List.length_map] at *; omega) | omega | (simp [fs]; done)))) | (with_reducible intro x hx) | omega) <;> (try simp only [row3_len, str_self, e0, e1, e2, Nat.reduceBEq, reduceIte, Nat.reduceAdd, reduceCtorEq, cond_false, ne_eq, fw, fd]))
 refine Run_loop (ι := {i : Nat // i ≤ a.slots.length ∧ a.slots.take i = b.slots.take i}) (fun i => ([(2, .ptr 0 0 0 1), (3, .ptr 1 0 0 1), (36, .int .i64 a.slots.length), (37, .int .i64 i.1)], [⟨true, false, true, false, 20, [a.cells], some 0⟩, ⟨true, false, true, false, 20, [b.cells], some 0⟩])) (fun i => a.slots.length - i.1) ⟨0, by simp⟩ ?_ ?_
 ·simp only [Re.cells, e0, e1, e2]
  refine Ent_gc [0, 1] (by rfl) (by simp) (by simp [fg]) (by simp [fg])
 rintro ⟨i, hi, ht⟩ hk
 dsimp only at hk ⊢
 by_cases hlt : i < a.slots.length
 ·have c2 : ((i : Int) < (a.slots.length : Int)) = True := by simp; omega
  obtain ⟨x, hx⟩ : ∃ x, a.slots[i]? = some x := ⟨_, List.getElem?_eq_getElem hlt⟩
  obtain ⟨y, hy⟩ : ∃ y, b.slots[i]? = some y := ⟨_, List.getElem?_eq_getElem (by omega)⟩
  have rx := row3_get hx
  have ry := row3_get hy
  have q2 := b3 (x := x) (y := y)
  by_cases hxy : x = y
  ·have c3 : decide (x = y) = true := by simpa using hxy
   repeat' ((first | apply Run_seq | apply Run_skip | apply Run_block | apply Run_blk | refine Run_exit rfl ?_ | apply Run_ret | apply Run_nil | apply Run_condK | apply Run_ops mixed | apply Run_opsX mixed | (with_reducible first | refine PostV_open ?_ | refine ro_callV ?_) | simp (disch := omega) only [w64] | ((first | refine GuardK_split ?_ ?_ | refine CondK_split ?_ ?_) <;> intro hc <;> (try simp only [hc]) <;> try simp at hc) | (with_reducible refine ⟨?_, ?_⟩; (focus ((repeat' with_reducible refine ⟨?_, ?_⟩) <;> first | exact trivial | assumption | (simp; done) | (simp only [List.length_map] at *; omega) | omega | (simp [fs]; done)))) | (with_reducible intro x hx) | omega) <;> (try simp only [row3_len, c2, q2, c3, rx, ry, Re.cells, Nat.reduceBEq, reduceIte, Nat.reduceAdd, cond_true, fw, fd]))
   refine hk ⟨i + 1, by omega, eq_step ht hx hy hxy⟩ _ _ (by dsimp only; omega) ?_
   dsimp only [Re.cells]
   refine Ent_gc [0, 1] (by rfl) (by simp) (by simp [fg]) (by simp [fg])
  ·have c3 : decide (x = y) = false := by simpa using hxy
   have e : decide (a = b) = false := by
    have := eq_no hx hy hxy
    simp only [decide_eq_false_iff_not] at this ⊢
    exact fun h => this (by rw [h])
   rw [e]
   repeat' ((first | apply Run_seq | apply Run_skip | apply Run_block | apply Run_blk | refine Run_exit rfl ?_ | apply Run_ret | apply Run_nil | apply Run_condK | apply Run_ops mixed | apply Run_opsX mixed | (with_reducible first | refine PostV_open ?_ | refine ro_callV ?_) | simp (disch := omega) only [w64, wu64, wu32, wu16, wu8, Int.tdiv_eq_ediv_of_nonneg, Int.tmod_eq_emod_of_nonneg] | ((first | refine GuardK_split ?_ ?_ | refine CondK_split ?_ ?_) <;> intro hc <;> (try simp only [hc]) <;> try simp at hc) | (with_reducible refine ⟨?_, ?_⟩; (focus ((repeat' with_reducible refine ⟨?_, ?_⟩) <;> first | exact trivial | assumption | (simp; done) | (simp only [List.length_map] at *; omega) | omega | (simp [fs]; done)))) | (with_reducible intro x hx) | omega) <;> (try simp only [row3_len, c2, q2, c3, rx, ry, Re.cells, Nat.reduceBEq, reduceIte, Nat.reduceAdd, cond_true, fw, fd]))
 ·have c2 : ((i : Int) < (a.slots.length : Int)) = False := by simp; omega
  have q_slots : a.slots = b.slots := by simpa using eq_end ht hlt hl0
  clear hk ht hlt hi
  have e6 : decide (a = b) = decide (a.po = b.po) := by
   rw [Bool.eq_iff_iff]; simp [Re.eq_iff, e0, e1, e2, q_slots]
  rw [e6]
  have w_po := samePo_p a.po b.po a2 b2'
  simp only [Po.row] at w_po
  repeat' ((first | apply Run_seq | apply Run_skip | apply Run_block | apply Run_blk | refine Run_exit rfl ?_ | apply Run_ret | apply Run_nil | apply Run_condK | apply Run_ops mixed | apply Run_opsX mixed | (with_reducible first | refine PostV_open ?_ | refine ro_callV ?_) | refine CallV_pure (w_po) ?_ ?_ | simp (disch := omega) only [w64, wu64, wu32, wu16, wu8, Int.tdiv_eq_ediv_of_nonneg, Int.tmod_eq_emod_of_nonneg] | ((first | refine GuardK_split ?_ ?_ | refine CondK_split ?_ ?_) <;> intro hc <;> (try simp only [hc]) <;> try simp at hc) | (with_reducible refine ⟨?_, ?_⟩; (focus ((repeat' with_reducible refine ⟨?_, ?_⟩) <;> first | exact trivial | assumption | (simp; done) | (simp only [List.length_map] at *; omega) | omega | (simp [fs]; done)))) | (with_reducible intro x hx) | omega) <;> (try simp only [c2, Re.cells, Nat.reduceBEq, reduceIte, Nat.reduceAdd, fw, fd]))
end Go.Proofs.YtgefljdclekadaaGreat
