import Derived.Test.YtgefljdclekadaaGreatWR3
import Derived.Test.YtgefljdclekadaaGreatVi25
set_option linter.unusedVariables false
set_option linter.unusedSimpArgs false
set_option linter.unnecessarySimpa false
namespace Go.Proofs.YtgefljdclekadaaGreat
open Go Go.Vi

/-- What is left of the bytes; whether the reader, or the coder, is bad. -/
structure Rs where
 l : List UInt8
 rb : Bool
 cb : Bool
def rqN (m : Nat) (s : Rs) : Nat × Rs := ((rdN m s.l s.rb).1, ⟨(rdN m s.l s.rb).2.1, (rdN m s.l s.rb).2.2, s.cb⟩)
def rqM (s : Rs) : Int × Rs := (unzz (rdN 18446744073709551615 s.l s.rb).1, ⟨(rdN 18446744073709551615 s.l s.rb).2.1, (rdN 18446744073709551615 s.l s.rb).2.2, s.cb⟩)
def rqF (s : Rs) : Bool × Rs := (decide ((rdN 1 s.l s.rb).1 = 1), ⟨(rdN 1 s.l s.rb).2.1, (rdN 1 s.l s.rb).2.2, s.cb⟩)
def rqT (m : Nat) (s : Rs) : ByteArray × Rs := ((rdT m s.l s.rb).1, ⟨(rdT m s.l s.rb).2.1, (rdT m s.l s.rb).2.2, s.cb⟩)
theorem rqN_le (m : Nat) (hm : m < 18446744073709551616) (s : Rs) : (rqN m s).2.l.length ≤ s.l.length ∧ (rqN m s).1 ≤ m := by
 have := rdN_lt m s.l s.rb hm
 exact ⟨this.2, this.1⟩
theorem rqM_le (s : Rs) : (rqM s).2.l.length ≤ s.l.length := (rdN_lt 18446744073709551615 s.l s.rb (by omega)).2
theorem rqF_le (s : Rs) : (rqF s).2.l.length ≤ s.l.length := (rdN_lt 1 s.l s.rb (by omega)).2
theorem rqT_le (m : Nat) (hm : m < 18446744073709551616) (s : Rs) : (rqT m s).2.l.length ≤ s.l.length := by
 have h := (rdN_lt m s.l s.rb hm).2
 unfold rqT rdT
 dsimp only
 split
 ·exact h
 ·simp only [List.length_drop]; omega




def rowGo {α : Type} (re : Rs → α × Rs) : Nat → Rs → List α → List α × Rs
 | 0, s, a => (a, s)
 | k + 1, s, a => if (re s).2.rb = true ∨ (re s).2.cb = true then (a, (re s).2) else rowGo re k (re s).2 (a ++ [(re s).1])
def rRow {α : Type} (re : Rs → α × Rs) (most : Nat) (s : Rs) : List α × Rs := rowGo re (rqN most s).1 (rqN most s).2 []
def rSh (s : Rs) : (Int × Int × Int) × Rs := ((((rqN 127 s).1 : Int), ((rqN 1440 (rqN 127 s).2).1 : Int), ((rqN 1440 (rqN 1440 (rqN 127 s).2).2).1 : Int)), (rqN 1440 (rqN 1440 (rqN 127 s).2).2).2)
theorem rSh_le (s : Rs) : (rSh s).2.l.length ≤ s.l.length := Nat.le_trans (Nat.le_trans ((rqN_le _ (by omega) _).1) ((rqN_le _ (by omega) _).1)) ((rqN_le _ (by omega) _).1)
theorem elSh_r (s : Rs) (hl : s.l.length ≤ 1099511627776) :
  CallG Tryz.prog 140 [.ptr 0 0 0 1, .ptr 1 0 0 1] [Va 3 [.int .i64 0, .int .i64 0, .int .i64 0], Bx 2, Cr 3 s.cb, Rd s.l s.rb] (.tup [])
   [Va 3 (cSh (rSh s).1), Bx 2, Cr 3 (rSh s).2.cb, Rd (rSh s).2.l (rSh s).2.rb] := by
 refine callG Tryz.func140 low140 (by simp [c140]) ?_
 simp only [c140]
 unfold rSh
 have g1 := (rqN_le 127 (by omega) s).1
 have h1 : CallG Tryz.prog 57 [.ptr 0 0 0 1, .ptr 2 0 0 1, .int .u64 127] [Cr 1 s.cb, Rd s.l s.rb, Va 3 [.int .i64 0, .int .i64 0, .int .i64 0]] (.tup []) [Cr 1 (rqN 127 s).2.cb, Rd (rqN 127 s).2.l (rqN 127 s).2.rb, Va 3 [.int .i64 (rqN 127 s).1, .int .i64 0, .int .i64 0]] := numI_r s.l s.rb s.cb 3 [.int .i64 0, .int .i64 0, .int .i64 0] 0 127 rfl (by omega) (by omega) (by omega)
 generalize rqN 127 s = q1 at h1 g1 ⊢
 obtain ⟨v1, s1⟩ := q1
 dsimp only at h1 g1 ⊢
 have g2 := (rqN_le 1440 (by omega) s1).1
 have h2 : CallG Tryz.prog 57 [.ptr 0 0 0 1, .ptr 2 0 1 1, .int .u64 1440] [Cr 1 s1.cb, Rd s1.l s1.rb, Va 3 [.int .i64 v1, .int .i64 0, .int .i64 0]] (.tup []) [Cr 1 (rqN 1440 s1).2.cb, Rd (rqN 1440 s1).2.l (rqN 1440 s1).2.rb, Va 3 [.int .i64 v1, .int .i64 (rqN 1440 s1).1, .int .i64 0]] := numI_r s1.l s1.rb s1.cb 3 [.int .i64 v1, .int .i64 0, .int .i64 0] 1 1440 rfl (by omega) (by omega) (by omega)
 generalize rqN 1440 s1 = q2 at h2 g2 ⊢
 obtain ⟨v2, s2⟩ := q2
 dsimp only at h2 g2 ⊢
 have g3 := (rqN_le 1440 (by omega) s2).1
 have h3 : CallG Tryz.prog 57 [.ptr 0 0 0 1, .ptr 2 0 2 1, .int .u64 1440] [Cr 1 s2.cb, Rd s2.l s2.rb, Va 3 [.int .i64 v1, .int .i64 v2, .int .i64 0]] (.tup []) [Cr 1 (rqN 1440 s2).2.cb, Rd (rqN 1440 s2).2.l (rqN 1440 s2).2.rb, Va 3 [.int .i64 v1, .int .i64 v2, .int .i64 (rqN 1440 s2).1]] := numI_r s2.l s2.rb s2.cb 3 [.int .i64 v1, .int .i64 v2, .int .i64 0] 2 1440 rfl (by omega) (by omega) (by omega)
 generalize rqN 1440 s2 = q3 at h3 g3 ⊢
 obtain ⟨v3, s3⟩ := q3
 dsimp only at h3 g3 ⊢
 have hc : cSh ((v1 : Int), (v2 : Int), (v3 : Int)) = [.int .i64 v1, .int .i64 v2, .int .i64 v3] := rfl
 rw [hc]
 repeat' ((first | apply Run_seq | apply Run_ret | apply Run_nil | apply Run_opsX mixed | (with_reducible first | refine PostG_open ?_ | refine ro_callA (f := .c (.fn 57 [])) ?_ | refine ro_callVX ?_ | refine CallE_use (h1) (by simp) ?_ | refine CallE_use (h2) (by simp) ?_ | refine CallE_use (h3) (by simp) ?_) | (with_reducible refine ⟨?_, ?_⟩; (focus ((repeat' with_reducible refine ⟨?_, ?_⟩) <;> first | exact trivial | assumption | (simp; done) | (simp only [List.length_map] at *; omega) | omega | (simp [fs]; done) | exact r8_sz))) | (with_reducible intro x hx) | omega) <;> (try simp only [Nat.reduceBEq, reduceIte, Nat.reduceEqDiff, Nat.reduceAdd, Nat.reduceSub, Nat.reduceLT, reduceCtorEq, fw, fd]))
 refine GcTo_own [0, 1, 2, 3] (by rfl) (by simp) (by simp [fg])
set_option maxHeartbeats 4000000 in
theorem rowSh_r (s : Rs) (sz : Nat) (R : List D) (j most : Nat) (hR : R[j]? = some (.list (some true) true [])) (hz : R.length = sz) (hm : most < 1000000) (hl : s.l.length ≤ 1099511627776) :
  CallG Tryz.prog 139 [.ptr 0 0 0 1, .ptr 2 0 j 1, .int .i64 most, .fn 140 [.ptr 3 0 0 1]] [Cr 1 s.cb, Rd s.l s.rb, Va sz R, Bx 0] (.tup [])
   [Cr 1 (rRow rSh most s).2.cb, Rd (rRow rSh most s).2.l (rRow rSh most s).2.rb, Va sz (R.set j (L (row3 (rRow rSh most s).1))), Bx 0] := by
 refine callG Tryz.func139 low139 (by simp [c139]) ?_
 simp only [c139]
 have hn : CallG Tryz.prog 53 [.ptr 0 0 0 1, .ptr 2 0 0 1, .int .u64 most] [Cr 1 s.cb, Rd s.l s.rb, Va 1 [.int .u64 0]] (.tup []) [Cr 1 (rqN most s).2.cb, Rd (rqN most s).2.l (rqN most s).2.rb, Va 1 [.int .u64 (rqN most s).1]] := numQ_r s.l s.rb s.cb 1 [.int .u64 0] 0 most rfl (by omega) (by omega) hl
 obtain ⟨X, hX⟩ : ∃ X, rRow rSh most s = X := ⟨_, rfl⟩
 rw [hX]
 unfold rRow at hX
 obtain ⟨g1, g2⟩ := rqN_le most (by omega) s
 generalize rqN most s = q at hn hX g1 g2
 obtain ⟨n, s0⟩ := q
 dsimp only at hn hX g1 g2
 have hj : j < R.length := (List.getElem?_eq_some_iff.1 hR).1
 have z0 : (((0 : Nat) : Int)) = 0 := rfl
 refine Run_pure 2 rfl rfl fun hpt => ?_
 have hpt : ∀ x ∈ R, x.pt1 = true := fun x hx => hpt R (by simp) x hx
 have own1 : ∀ d : D, (R.set j d)[j]? = some d := fun d => by rw [List.getElem?_set_self hj]
 have own2 : ∀ d e : D, (R.set j d).take j ++ [e] ++ (R.set j d).drop (j + 1) = R.set j e := fun d e => by
  rw [spl1 (by rw [List.length_set]; exact hj), List.set_set]
 have pl5 : ∀ (σ : List Ob) (k n : Nat), mapO (pull1 true [0, 1, 2, 3, 5] σ) (R.set j (.own 5 0 k n 3 none)) = some (R.set j (.own 4 0 k n 3 none)) := fun σ k n => pull_own hpt rfl
 have pl4 : ∀ (σ : List Ob) (k n : Nat), mapO (pull1 true [0, 1, 2, 3, 4] σ) (R.set j (.own 4 0 k n 3 none)) = some (R.set j (.own 4 0 k n 3 none)) := fun σ k n => pull_own hpt rfl
 have plL : ∀ (σ : List Ob) (rows : List (List D)), mapO (pull1 true [0, 1, 2, 3] σ) (R.set j (.list none false rows)) = some (R.set j (.list none false rows)) := fun σ rows => pull_pt hpt rfl
 have allL : ∀ rows : List (List D), (R.set j (.list none false rows)).all D.pt1 = true := fun rows => all_set hpt rfl
 have hz' : (j + 1 ≤ sz) = True := eq_true (by omega)
 repeat' ((first | apply Run_seq | apply Run_skip | apply Run_block | apply Run_blk | refine Run_exit rfl ?_ | apply Run_ret | apply Run_nil | apply Run_condK | apply Run_ops mixed | apply Run_opsX mixed | (with_reducible first | refine PostG_open ?_ | refine ro_callA' (f := .c (.fn 53 [])) ?_ | refine ro_callV ?_ | refine CallE_use (hn) (by simp) ?_) | simp (disch := omega) only [wu64] | ((first | refine GuardK_split ?_ ?_ | refine CondK_split ?_ ?_) <;> intro hc <;> (try simp only [hc]) <;> try simp at hc) | (with_reducible refine ⟨?_, ?_⟩; (focus ((repeat' with_reducible refine ⟨?_, ?_⟩) <;> first | exact trivial | assumption | (simp; done) | (simp only [List.length_map] at *; omega) | omega | (simp [fs]; done) | exact r8_sz))) | (with_reducible intro x hx) | omega) <;> (try simp only [hR, z0, Nat.reduceBEq, reduceIte, Nat.reduceEqDiff, Nat.reduceAdd, Nat.reduceSub, Nat.reduceLT, reduceCtorEq, cond_false, ne_eq, fw, fd]))
 refine Run_ent (Ent_accC (l := 2) (j := 0) (i := j) (b := true) 3 true (by decide) rfl rfl rfl rfl hR) ?_
 refine Run_loop (ι := {p : Nat × Rs × List (Int × Int × Int) // rowGo rSh p.1 p.2.1 p.2.2 = X ∧ p.2.2.length + p.1 = n ∧ p.2.1.l.length ≤ s0.l.length}) (fun p => ([(0, .ptr 0 0 0 1), (1, .ptr 2 0 j 1), (3, .fn 140 [.ptr 3 0 0 1]), (42, .int .u64 n), (43, .int .u64 p.1.2.2.length)],
  [Cr 1 p.1.2.1.cb, Rd p.1.2.1.l p.1.2.1.rb, ⟨true, false, false, false, sz, [R.set j (.own 4 0 p.1.2.2.length p.1.2.2.length 3 none)], some 0⟩, Bx 0, acc true 3 true (row3 p.1.2.2)])) (fun p => p.1.1) ⟨(n, s0, []), hX, by simp, Nat.le_refl _⟩ ?_ ?_
 ·simp only [List.length_nil, show row3 [] = [] from rfl]
  refine Ent_gc [0, 1, 2, 3, 5] (by rfl) (by simp) (by simp [pl5, fg]) (by simp [fg])
  skip
 rintro ⟨⟨k, s1, xs⟩, hk1, hk2, hk3⟩ hk
 dsimp only at hk1 hk2 hk3 hk ⊢
 -- a row that is done is told by its rows
 have fin : ∀ (env : Env) (ys : List (Int × Int × Int)) (s2 : Rs) (ex : List Ob), Ent [Cr 1 s.cb, Rd s.l s.rb, Va sz R, Bx 0] env (Cr 1 s2.cb :: Rd s2.l s2.rb :: ⟨true, false, false, false, sz, [R.set j (.own 4 0 ys.length ys.length 3 none)], some 0⟩ :: Bx 0 :: acc true 3 true (row3 ys) :: ex) env
   (Cr 1 s2.cb :: Rd s2.l s2.rb :: ⟨true, false, false, false, sz, [R.set j (L (row3 ys))], some 0⟩ :: Bx 0 :: { acc true 3 true (row3 ys) with fz := true } :: ex) := fun env ys s2 ex => by
  refine Ent.trans (Ent_freeze 4) ?_
  have := Ent_cellF (base := [Cr 1 s.cb, Rd s.l s.rb, Va sz R, Bx 0]) (env := env) (σ := Cr 1 s2.cb :: Rd s2.l s2.rb :: ⟨true, false, false, false, sz, [R.set j (.own 4 0 ys.length ys.length 3 none)], some 0⟩ :: Bx 0 :: { acc true 3 true (row3 ys) with fz := true } :: ex) (l := 2) (j := 0) (i := j) (m := 4) (rows := row3 ys) rfl rfl rfl rfl (own1 _) rfl rfl (by
   rw [viewS_own']
   show viewO (some _) _ _ _ = _
   rw [viewO_some]
   simp [acc_rows, acc_pure, row3_len, winD_all])
  simp only [List.set_cons_zero, List.set_cons_succ, List.set_set] at this
  exact this
 by_cases hlt : 0 < k
 ·obtain ⟨k, rfl⟩ : ∃ k', k = k' + 1 := ⟨k - 1, by omega⟩
  have c1 : (((xs.length : Nat) : Int) < ((n : Nat) : Int)) = True := by simp; omega
  have he := elSh_r s1 (by omega)
  have hle := rSh_le s1
  unfold rowGo at hk1
  generalize rSh s1 = q at he hk1 hle
  obtain ⟨v, s2⟩ := q
  dsimp only at he hk1 hle
  have hcell : cSh v = [.int .i64 v.1, .int .i64 v.2.1, .int .i64 v.2.2] := rfl
  rw [hcell] at he
  by_cases hb : s2.rb = true ∨ s2.cb = true
  ·rw [if_pos hb] at hk1
   rw [← hk1]
   obtain ⟨l2, rb2, cb2⟩ := s2
   dsimp only at he hb ⊢
   cases rb2
   ·obtain rfl : cb2 = true := by simpa using hb
    repeat' ((first | apply Run_seq | apply Run_skip | apply Run_block | apply Run_blk | refine Run_exit rfl ?_ | apply Run_nil | apply Run_condK | apply Run_ops mixed | apply Run_opsX mixed | (with_reducible first | refine PostG_open ?_ | refine ro_callA' (f := .t 45) ?_ | refine ro_callV ?_ | refine CallE_use (he) (by simp) ?_) | refine CallV_pure (bad_p _ _) ?_ ?_ | simp (disch := omega) only [w64, wu64, wu32, wu16, wu8, Int.tdiv_eq_ediv_of_nonneg, Int.tmod_eq_emod_of_nonneg] | ((first | refine GuardK_split ?_ ?_ | refine CondK_split ?_ ?_) <;> intro hc <;> (try simp only [hc]) <;> try simp at hc) | (with_reducible refine ⟨?_, ?_⟩; (focus ((repeat' with_reducible refine ⟨?_, ?_⟩) <;> first | exact trivial | assumption | (simp; done) | (simp only [List.length_map] at *; omega) | omega | (simp [fs]; done) | exact r8_sz))) | (with_reducible intro x hx) | omega) <;> (try simp only [c1, Nat.reduceBEq, reduceIte, Nat.reduceEqDiff, Nat.reduceAdd, Nat.reduceSub, Nat.reduceLT, reduceCtorEq, cond_false, ne_eq, fw, fd]))
    refine Run_ent (fin _ xs ⟨l2, false, true⟩ [Va 3 [.int .i64 v.1, .int .i64 v.2.1, .int .i64 v.2.2]]) ?_
    repeat' ((first | apply Run_seq | apply Run_skip | apply Run_block | apply Run_blk | refine Run_exit rfl ?_ | apply Run_ret | apply Run_nil | apply Run_condK | apply Run_ops mixed | apply Run_opsX mixed | (with_reducible first | refine PostG_open ?_ | refine ro_callV ?_) | simp (disch := omega) only [w64, wu64, wu32, wu16, wu8, Int.tdiv_eq_ediv_of_nonneg, Int.tmod_eq_emod_of_nonneg] | ((first | refine GuardK_split ?_ ?_ | refine CondK_split ?_ ?_) <;> intro hc <;> (try simp only [hc]) <;> try simp at hc) | (with_reducible refine ⟨?_, ?_⟩; (focus ((repeat' with_reducible refine ⟨?_, ?_⟩) <;> first | exact trivial | assumption | (simp; done) | (simp only [List.length_map] at *; omega) | omega | (simp [fs]; done) | exact r8_sz))) | (with_reducible intro x hx) | omega) <;> (try simp only [ofRes, fw]))
    refine GcTo_own [0, 1, 2, 3] (by rfl) (by simp) (by simp [plL, allL, fg])
   ·repeat' ((first | apply Run_seq | apply Run_skip | apply Run_block | apply Run_blk | refine Run_exit rfl ?_ | apply Run_nil | apply Run_condK | apply Run_ops mixed | apply Run_opsX mixed | (with_reducible first | refine PostG_open ?_ | refine ro_callA' (f := .t 45) ?_ | refine ro_callV ?_ | refine CallE_use (he) (by simp) ?_) | refine CallV_pure (bad_p _ _) ?_ ?_ | simp (disch := omega) only [w64, wu64, wu32, wu16, wu8, Int.tdiv_eq_ediv_of_nonneg, Int.tmod_eq_emod_of_nonneg] | ((first | refine GuardK_split ?_ ?_ | refine CondK_split ?_ ?_) <;> intro hc <;> (try simp only [hc]) <;> try simp at hc) | (with_reducible refine ⟨?_, ?_⟩; (focus ((repeat' with_reducible refine ⟨?_, ?_⟩) <;> first | exact trivial | assumption | (simp; done) | (simp only [List.length_map] at *; omega) | omega | (simp [fs]; done) | exact r8_sz))) | (with_reducible intro x hx) | omega) <;> (try simp only [c1, Nat.reduceBEq, reduceIte, Nat.reduceEqDiff, Nat.reduceAdd, Nat.reduceSub, Nat.reduceLT, reduceCtorEq, cond_true, ne_eq, fw, fd]))
    refine Run_ent (fin _ xs ⟨l2, true, cb2⟩ [Va 3 [.int .i64 v.1, .int .i64 v.2.1, .int .i64 v.2.2]]) ?_
    repeat' ((first | apply Run_seq | apply Run_skip | apply Run_block | apply Run_blk | refine Run_exit rfl ?_ | apply Run_ret | apply Run_nil | apply Run_condK | apply Run_ops mixed | apply Run_opsX mixed | (with_reducible first | refine PostG_open ?_ | refine ro_callV ?_) | simp (disch := omega) only [w64, wu64, wu32, wu16, wu8, Int.tdiv_eq_ediv_of_nonneg, Int.tmod_eq_emod_of_nonneg] | ((first | refine GuardK_split ?_ ?_ | refine CondK_split ?_ ?_) <;> intro hc <;> (try simp only [hc]) <;> try simp at hc) | (with_reducible refine ⟨?_, ?_⟩; (focus ((repeat' with_reducible refine ⟨?_, ?_⟩) <;> first | exact trivial | assumption | (simp; done) | (simp only [List.length_map] at *; omega) | omega | (simp [fs]; done) | exact r8_sz))) | (with_reducible intro x hx) | omega) <;> (try simp only [ofRes, fw]))
    refine GcTo_own [0, 1, 2, 3] (by rfl) (by simp) (by simp [plL, allL, fg])
  ·rw [if_neg hb] at hk1
   obtain ⟨l2, rb2, cb2⟩ := s2
   dsimp only at he hb hle hk1 ⊢
   obtain ⟨rfl, rfl⟩ : rb2 = false ∧ cb2 = false := by simpa using hb
   have hu : row3 xs ++ [[.int .i64 v.1, .int .i64 v.2.1, .int .i64 v.2.2]] = row3 (xs ++ [v]) := by simp [row3]
   repeat' ((first | apply Run_seq | apply Run_skip | apply Run_block | apply Run_blk | refine Run_exit rfl ?_ | apply Run_ret | apply Run_nil | apply Run_condK | apply Run_ops mixed | apply Run_opsX mixed | (with_reducible first | refine PostG_open ?_ | refine ro_callA' (f := .t 45) ?_ | refine ro_callV ?_ | refine CallE_use (he) (by simp) ?_) | refine CallV_pure (bad_p _ _) ?_ ?_ | simp (disch := omega) only [wu64] | ((first | refine GuardK_split ?_ ?_ | refine CondK_split ?_ ?_) <;> intro hc <;> (try simp only [hc]) <;> try simp at hc) | (with_reducible refine ⟨?_, ?_⟩; (focus ((repeat' with_reducible refine ⟨?_, ?_⟩) <;> first | exact trivial | assumption | (simp; done) | omega | (simp [fs]; done) | exact r8_sz))) | (with_reducible intro x hx) | omega) <;> (try simp only [row3_len, c1, own1, own2, hz', hu, Nat.reduceBEq, reduceIte, Nat.reduceEqDiff, Nat.reduceAdd, Nat.reduceSub, Nat.reduceLT, Nat.reduceLeDiff, reduceCtorEq, cond_false, ne_eq, fw, fd]))
   refine hk ⟨(k, ⟨l2, false, false⟩, xs ++ [v]), hk1, by rw [List.length_append, List.length_cons, List.length_nil]; omega, by dsimp only; omega⟩ _ _ (by dsimp only; omega) ?_
   dsimp only
   simp only [List.length_append, List.length_cons, List.length_nil]
   refine Ent_gc [0, 1, 2, 3, 4] (by rfl) (by simp) (by simp [pl4, fg]) (by simp [fg])
   skip
 ·obtain rfl : k = 0 := by omega
  have c1 : (((xs.length : Nat) : Int) < ((n : Nat) : Int)) = False := by simp; omega
  unfold rowGo at hk1
  rw [← hk1]
  dsimp only
  refine Run_ent (fin _ xs s1 []) ?_
  repeat' ((first | apply Run_seq | apply Run_skip | apply Run_block | apply Run_blk | refine Run_exit rfl ?_ | apply Run_ret | apply Run_nil | apply Run_condK | apply Run_ops mixed | apply Run_opsX mixed | (with_reducible first | refine PostG_open ?_ | refine ro_callV ?_) | simp (disch := omega) only [w64, wu64, wu32, wu16, wu8, Int.tdiv_eq_ediv_of_nonneg, Int.tmod_eq_emod_of_nonneg] | ((first | refine GuardK_split ?_ ?_ | refine CondK_split ?_ ?_) <;> intro hc <;> (try simp only [hc]) <;> try simp at hc) | (with_reducible refine ⟨?_, ?_⟩; (focus ((repeat' with_reducible refine ⟨?_, ?_⟩) <;> first | exact trivial | assumption | (simp; done) | (simp only [List.length_map] at *; omega) | omega | (simp [fs]; done) | exact r8_sz))) | (with_reducible intro x hx) | omega) <;> (try simp only [c1, Nat.reduceBEq, reduceIte, binD, binInt, ofRes, fw]))
  refine GcTo_own [0, 1, 2, 3] (by rfl) (by simp) (by simp [plL, allL, fg])
  skip
def rMu (s : Rs) : (Int) × Rs := (((rqN 4294967295 s).1 : Int), (rqN 4294967295 s).2)
theorem rMu_le (s : Rs) : (rMu s).2.l.length ≤ s.l.length := (rqN_le _ (by omega) _).1
theorem elMu_r (s : Rs) (hl : s.l.length ≤ 1099511627776) :
  CallG Tryz.prog 128 [.ptr 0 0 0 1, .ptr 1 0 0 1] [Va 1 [.int .u32 0], Bx 2, Cr 3 s.cb, Rd s.l s.rb] (.tup [])
   [Va 1 (cMu (rMu s).1), Bx 2, Cr 3 (rMu s).2.cb, Rd (rMu s).2.l (rMu s).2.rb] := by
 refine callG Tryz.func128 low128 (by simp [c128]) ?_
 simp only [c128]
 unfold rMu
 have g1 := (rqN_le 4294967295 (by omega) s).1
 have h1 : CallG Tryz.prog 78 [.ptr 0 0 0 1, .ptr 2 0 0 1] [Cr 1 s.cb, Rd s.l s.rb, Va 1 [.int .u32 0]] (.tup []) [Cr 1 (rqN 4294967295 s).2.cb, Rd (rqN 4294967295 s).2.l (rqN 4294967295 s).2.rb, Va 1 [.int .u32 (rqN 4294967295 s).1]] := name_r s.l s.rb s.cb 1 [.int .u32 0] 0 rfl (by omega) (by omega)
 generalize rqN 4294967295 s = q1 at h1 g1 ⊢
 obtain ⟨v1, s1⟩ := q1
 dsimp only at h1 g1 ⊢
 have hc : cMu (v1 : Int) = [.int .u32 v1] := rfl
 rw [hc]
 repeat' ((first | apply Run_seq | apply Run_ret | apply Run_nil | apply Run_ops mixed | (with_reducible first | refine PostG_open ?_ | refine ro_callA' (f := .c (.fn 78 [])) ?_ | refine ro_callV ?_ | refine CallE_use (h1) (by simp) ?_) | (with_reducible refine ⟨?_, ?_⟩; (focus ((repeat' with_reducible refine ⟨?_, ?_⟩) <;> first | exact trivial | assumption | (simp; done) | (simp only [List.length_map] at *; omega) | omega | (simp [fs]; done) | exact r8_sz))) | (with_reducible intro x hx) | omega) <;> (try simp only [Nat.reduceBEq, reduceIte, Nat.reduceEqDiff, Nat.reduceAdd, Nat.reduceSub, Nat.reduceLT, reduceCtorEq, fw, fd]))
 refine GcTo_own [0, 1, 2, 3] (by rfl) (by simp) (by simp [fg])
set_option maxHeartbeats 4000000 in
theorem rowMu_r (s : Rs) (sz : Nat) (R : List D) (j most : Nat) (hR : R[j]? = some (.list (some true) true [])) (hz : R.length = sz) (hm : most < 1000000) (hl : s.l.length ≤ 1099511627776) :
  CallG Tryz.prog 127 [.ptr 0 0 0 1, .ptr 2 0 j 1, .int .i64 most, .fn 128 [.ptr 3 0 0 1]] [Cr 1 s.cb, Rd s.l s.rb, Va sz R, Bx 0] (.tup [])
   [Cr 1 (rRow rMu most s).2.cb, Rd (rRow rMu most s).2.l (rRow rMu most s).2.rb, Va sz (R.set j (L (row1 .u32 (rRow rMu most s).1))), Bx 0] := by
 refine callG Tryz.func127 low127 (by simp [c127]) ?_
 simp only [c127]
 have hn : CallG Tryz.prog 53 [.ptr 0 0 0 1, .ptr 2 0 0 1, .int .u64 most] [Cr 1 s.cb, Rd s.l s.rb, Va 1 [.int .u64 0]] (.tup []) [Cr 1 (rqN most s).2.cb, Rd (rqN most s).2.l (rqN most s).2.rb, Va 1 [.int .u64 (rqN most s).1]] := numQ_r s.l s.rb s.cb 1 [.int .u64 0] 0 most rfl (by omega) (by omega) hl
 obtain ⟨X, hX⟩ : ∃ X, rRow rMu most s = X := ⟨_, rfl⟩
 rw [hX]
 unfold rRow at hX
 obtain ⟨g1, g2⟩ := rqN_le most (by omega) s
 generalize rqN most s = q at hn hX g1 g2
 obtain ⟨n, s0⟩ := q
 dsimp only at hn hX g1 g2
 have hj : j < R.length := (List.getElem?_eq_some_iff.1 hR).1
 have z0 : (((0 : Nat) : Int)) = 0 := rfl
 refine Run_pure 2 rfl rfl fun hpt => ?_
 have hpt : ∀ x ∈ R, x.pt1 = true := fun x hx => hpt R (by simp) x hx
 have own1 : ∀ d : D, (R.set j d)[j]? = some d := fun d => by rw [List.getElem?_set_self hj]
 have own2 : ∀ d e : D, (R.set j d).take j ++ [e] ++ (R.set j d).drop (j + 1) = R.set j e := fun d e => by
  rw [spl1 (by rw [List.length_set]; exact hj), List.set_set]
 have pl5 : ∀ (σ : List Ob) (k n : Nat), mapO (pull1 true [0, 1, 2, 3, 5] σ) (R.set j (.own 5 0 k n 1 none)) = some (R.set j (.own 4 0 k n 1 none)) := fun σ k n => pull_own hpt rfl
 have pl4 : ∀ (σ : List Ob) (k n : Nat), mapO (pull1 true [0, 1, 2, 3, 4] σ) (R.set j (.own 4 0 k n 1 none)) = some (R.set j (.own 4 0 k n 1 none)) := fun σ k n => pull_own hpt rfl
 have plL : ∀ (σ : List Ob) (rows : List (List D)), mapO (pull1 true [0, 1, 2, 3] σ) (R.set j (.list none false rows)) = some (R.set j (.list none false rows)) := fun σ rows => pull_pt hpt rfl
 have allL : ∀ rows : List (List D), (R.set j (.list none false rows)).all D.pt1 = true := fun rows => all_set hpt rfl
 have hz' : (j + 1 ≤ sz) = True := eq_true (by omega)
 repeat' ((first | apply Run_seq | apply Run_skip | apply Run_block | apply Run_blk | refine Run_exit rfl ?_ | apply Run_ret | apply Run_nil | apply Run_condK | apply Run_ops mixed | apply Run_opsX mixed | (with_reducible first | refine PostG_open ?_ | refine ro_callA' (f := .c (.fn 53 [])) ?_ | refine ro_callV ?_ | refine CallE_use (hn) (by simp) ?_) | simp (disch := omega) only [wu64] | ((first | refine GuardK_split ?_ ?_ | refine CondK_split ?_ ?_) <;> intro hc <;> (try simp only [hc]) <;> try simp at hc) | (with_reducible refine ⟨?_, ?_⟩; (focus ((repeat' with_reducible refine ⟨?_, ?_⟩) <;> first | exact trivial | assumption | (simp; done) | (simp only [List.length_map] at *; omega) | omega | (simp [fs]; done) | exact r8_sz))) | (with_reducible intro x hx) | omega) <;> (try simp only [hR, z0, Nat.reduceBEq, reduceIte, Nat.reduceEqDiff, Nat.reduceAdd, Nat.reduceSub, Nat.reduceLT, reduceCtorEq, cond_false, ne_eq, fw, fd]))
 refine Run_ent (Ent_accC (l := 2) (j := 0) (i := j) (b := true) 1 true (by decide) rfl rfl rfl rfl hR) ?_
 refine Run_loop (ι := {p : Nat × Rs × List Int // rowGo rMu p.1 p.2.1 p.2.2 = X ∧ p.2.2.length + p.1 = n ∧ p.2.1.l.length ≤ s0.l.length}) (fun p => ([(0, .ptr 0 0 0 1), (1, .ptr 2 0 j 1), (3, .fn 128 [.ptr 3 0 0 1]), (42, .int .u64 n), (43, .int .u64 p.1.2.2.length)],
  [Cr 1 p.1.2.1.cb, Rd p.1.2.1.l p.1.2.1.rb, ⟨true, false, false, false, sz, [R.set j (.own 4 0 p.1.2.2.length p.1.2.2.length 1 none)], some 0⟩, Bx 0, acc true 1 true (row1 .u32 p.1.2.2)])) (fun p => p.1.1) ⟨(n, s0, []), hX, by simp, Nat.le_refl _⟩ ?_ ?_
 ·simp only [List.length_nil, show row1 .u32 [] = [] from rfl]
  refine Ent_gc [0, 1, 2, 3, 5] (by rfl) (by simp) (by simp [pl5, fg]) (by simp [fg])
  skip
 rintro ⟨⟨k, s1, xs⟩, hk1, hk2, hk3⟩ hk
 dsimp only at hk1 hk2 hk3 hk ⊢
 -- a row that is done is told by its rows
 have fin : ∀ (env : Env) (ys : List Int) (s2 : Rs) (ex : List Ob), Ent [Cr 1 s.cb, Rd s.l s.rb, Va sz R, Bx 0] env (Cr 1 s2.cb :: Rd s2.l s2.rb :: ⟨true, false, false, false, sz, [R.set j (.own 4 0 ys.length ys.length 1 none)], some 0⟩ :: Bx 0 :: acc true 1 true (row1 .u32 ys) :: ex) env
   (Cr 1 s2.cb :: Rd s2.l s2.rb :: ⟨true, false, false, false, sz, [R.set j (L (row1 .u32 ys))], some 0⟩ :: Bx 0 :: { acc true 1 true (row1 .u32 ys) with fz := true } :: ex) := fun env ys s2 ex => by
  refine Ent.trans (Ent_freeze 4) ?_
  have := Ent_cellF (base := [Cr 1 s.cb, Rd s.l s.rb, Va sz R, Bx 0]) (env := env) (σ := Cr 1 s2.cb :: Rd s2.l s2.rb :: ⟨true, false, false, false, sz, [R.set j (.own 4 0 ys.length ys.length 1 none)], some 0⟩ :: Bx 0 :: { acc true 1 true (row1 .u32 ys) with fz := true } :: ex) (l := 2) (j := 0) (i := j) (m := 4) (rows := row1 .u32 ys) rfl rfl rfl rfl (own1 _) rfl rfl (by
   rw [viewS_own']
   show viewO (some _) _ _ _ = _
   rw [viewO_some]
   simp [acc_rows, acc_pure, row1_len, winD_all])
  simp only [List.set_cons_zero, List.set_cons_succ, List.set_set] at this
  exact this
 by_cases hlt : 0 < k
 ·obtain ⟨k, rfl⟩ : ∃ k', k = k' + 1 := ⟨k - 1, by omega⟩
  have c1 : (((xs.length : Nat) : Int) < ((n : Nat) : Int)) = True := by simp; omega
  have he := elMu_r s1 (by omega)
  have hle := rMu_le s1
  unfold rowGo at hk1
  generalize rMu s1 = q at he hk1 hle
  obtain ⟨v, s2⟩ := q
  dsimp only at he hk1 hle
  have hcell : cMu v = [.int .u32 v] := rfl
  rw [hcell] at he
  by_cases hb : s2.rb = true ∨ s2.cb = true
  ·rw [if_pos hb] at hk1
   rw [← hk1]
   obtain ⟨l2, rb2, cb2⟩ := s2
   dsimp only at he hb ⊢
   cases rb2
   ·obtain rfl : cb2 = true := by simpa using hb
    repeat' ((first | apply Run_seq | apply Run_skip | apply Run_block | apply Run_blk | refine Run_exit rfl ?_ | apply Run_nil | apply Run_condK | apply Run_ops mixed | apply Run_opsX mixed | (with_reducible first | refine PostG_open ?_ | refine ro_callA' (f := .t 45) ?_ | refine ro_callV ?_ | refine CallE_use (he) (by simp) ?_) | refine CallV_pure (bad_p _ _) ?_ ?_ | simp (disch := omega) only [w64, wu64, wu32, wu16, wu8, Int.tdiv_eq_ediv_of_nonneg, Int.tmod_eq_emod_of_nonneg] | ((first | refine GuardK_split ?_ ?_ | refine CondK_split ?_ ?_) <;> intro hc <;> (try simp only [hc]) <;> try simp at hc) | (with_reducible refine ⟨?_, ?_⟩; (focus ((repeat' with_reducible refine ⟨?_, ?_⟩) <;> first | exact trivial | assumption | (simp; done) | (simp only [List.length_map] at *; omega) | omega | (simp [fs]; done) | exact r8_sz))) | (with_reducible intro x hx) | omega) <;> (try simp only [c1, Nat.reduceBEq, reduceIte, Nat.reduceEqDiff, Nat.reduceAdd, Nat.reduceSub, Nat.reduceLT, reduceCtorEq, cond_false, ne_eq, fw, fd]))
    refine Run_ent (fin _ xs ⟨l2, false, true⟩ [Va 1 [.int .u32 v]]) ?_
    repeat' ((first | apply Run_seq | apply Run_skip | apply Run_block | apply Run_blk | refine Run_exit rfl ?_ | apply Run_ret | apply Run_nil | apply Run_condK | apply Run_ops mixed | apply Run_opsX mixed | (with_reducible first | refine PostG_open ?_ | refine ro_callV ?_) | simp (disch := omega) only [w64, wu64, wu32, wu16, wu8, Int.tdiv_eq_ediv_of_nonneg, Int.tmod_eq_emod_of_nonneg] | ((first | refine GuardK_split ?_ ?_ | refine CondK_split ?_ ?_) <;> intro hc <;> (try simp only [hc]) <;> try simp at hc) | (with_reducible refine ⟨?_, ?_⟩; (focus ((repeat' with_reducible refine ⟨?_, ?_⟩) <;> first | exact trivial | assumption | (simp; done) | (simp only [List.length_map] at *; omega) | omega | (simp [fs]; done) | exact r8_sz))) | (with_reducible intro x hx) | omega) <;> (try simp only [ofRes, fw]))
    refine GcTo_own [0, 1, 2, 3] (by rfl) (by simp) (by simp [plL, allL, fg])
   ·repeat' ((first | apply Run_seq | apply Run_skip | apply Run_block | apply Run_blk | refine Run_exit rfl ?_ | apply Run_nil | apply Run_condK | apply Run_ops mixed | apply Run_opsX mixed | (with_reducible first | refine PostG_open ?_ | refine ro_callA' (f := .t 45) ?_ | refine ro_callV ?_ | refine CallE_use (he) (by simp) ?_) | refine CallV_pure (bad_p _ _) ?_ ?_ | simp (disch := omega) only [w64, wu64, wu32, wu16, wu8, Int.tdiv_eq_ediv_of_nonneg, Int.tmod_eq_emod_of_nonneg] | ((first | refine GuardK_split ?_ ?_ | refine CondK_split ?_ ?_) <;> intro hc <;> (try simp only [hc]) <;> try simp at hc) | (with_reducible refine ⟨?_, ?_⟩; (focus ((repeat' with_reducible refine ⟨?_, ?_⟩) <;> first | exact trivial | assumption | (simp; done) | (simp only [List.length_map] at *; omega) | omega | (simp [fs]; done) | exact r8_sz))) | (with_reducible intro x hx) | omega) <;> (try simp only [c1, Nat.reduceBEq, reduceIte, Nat.reduceEqDiff, Nat.reduceAdd, Nat.reduceSub, Nat.reduceLT, reduceCtorEq, cond_true, ne_eq, fw, fd]))
    refine Run_ent (fin _ xs ⟨l2, true, cb2⟩ [Va 1 [.int .u32 v]]) ?_
    repeat' ((first | apply Run_seq | apply Run_skip | apply Run_block | apply Run_blk | refine Run_exit rfl ?_ | apply Run_ret | apply Run_nil | apply Run_condK | apply Run_ops mixed | apply Run_opsX mixed | (with_reducible first | refine PostG_open ?_ | refine ro_callV ?_) | simp (disch := omega) only [w64, wu64, wu32, wu16, wu8, Int.tdiv_eq_ediv_of_nonneg, Int.tmod_eq_emod_of_nonneg] | ((first | refine GuardK_split ?_ ?_ | refine CondK_split ?_ ?_) <;> intro hc <;> (try simp only [hc]) <;> try simp at hc) | (with_reducible refine ⟨?_, ?_⟩; (focus ((repeat' with_reducible refine ⟨?_, ?_⟩) <;> first | exact trivial | assumption | (simp; done) | (simp only [List.length_map] at *; omega) | omega | (simp [fs]; done) | exact r8_sz))) | (with_reducible intro x hx) | omega) <;> (try simp only [ofRes, fw]))
    refine GcTo_own [0, 1, 2, 3] (by rfl) (by simp) (by simp [plL, allL, fg])
  ·rw [if_neg hb] at hk1
   obtain ⟨l2, rb2, cb2⟩ := s2
   dsimp only at he hb hle hk1 ⊢
   obtain ⟨rfl, rfl⟩ : rb2 = false ∧ cb2 = false := by simpa using hb
   have hu : row1 .u32 xs ++ [[.int .u32 v]] = row1 .u32 (xs ++ [v]) := by simp [row1]
   repeat' ((first | apply Run_seq | apply Run_skip | apply Run_block | apply Run_blk | refine Run_exit rfl ?_ | apply Run_ret | apply Run_nil | apply Run_condK | apply Run_ops mixed | apply Run_opsX mixed | (with_reducible first | refine PostG_open ?_ | refine ro_callA' (f := .t 45) ?_ | refine ro_callV ?_ | refine CallE_use (he) (by simp) ?_) | refine CallV_pure (bad_p _ _) ?_ ?_ | simp (disch := omega) only [wu64] | ((first | refine GuardK_split ?_ ?_ | refine CondK_split ?_ ?_) <;> intro hc <;> (try simp only [hc]) <;> try simp at hc) | (with_reducible refine ⟨?_, ?_⟩; (focus ((repeat' with_reducible refine ⟨?_, ?_⟩) <;> first | exact trivial | assumption | (simp; done) | omega | (simp [fs]; done) | exact r8_sz))) | (with_reducible intro x hx) | omega) <;> (try simp only [row1_len, c1, own1, own2, hz', hu, Nat.reduceBEq, reduceIte, Nat.reduceEqDiff, Nat.reduceAdd, Nat.reduceSub, Nat.reduceLT, Nat.reduceLeDiff, reduceCtorEq, cond_false, ne_eq, fw, fd]))
   refine hk ⟨(k, ⟨l2, false, false⟩, xs ++ [v]), hk1, by rw [List.length_append, List.length_cons, List.length_nil]; omega, by dsimp only; omega⟩ _ _ (by dsimp only; omega) ?_
   dsimp only
   simp only [List.length_append, List.length_cons, List.length_nil]
   refine Ent_gc [0, 1, 2, 3, 4] (by rfl) (by simp) (by simp [pl4, fg]) (by simp [fg])
   skip
 ·obtain rfl : k = 0 := by omega
  have c1 : (((xs.length : Nat) : Int) < ((n : Nat) : Int)) = False := by simp; omega
  unfold rowGo at hk1
  rw [← hk1]
  dsimp only
  refine Run_ent (fin _ xs s1 []) ?_
  repeat' ((first | apply Run_seq | apply Run_skip | apply Run_block | apply Run_blk | refine Run_exit rfl ?_ | apply Run_ret | apply Run_nil | apply Run_condK | apply Run_ops mixed | apply Run_opsX mixed | (with_reducible first | refine PostG_open ?_ | refine ro_callV ?_) | simp (disch := omega) only [w64, wu64, wu32, wu16, wu8, Int.tdiv_eq_ediv_of_nonneg, Int.tmod_eq_emod_of_nonneg] | ((first | refine GuardK_split ?_ ?_ | refine CondK_split ?_ ?_) <;> intro hc <;> (try simp only [hc]) <;> try simp at hc) | (with_reducible refine ⟨?_, ?_⟩; (focus ((repeat' with_reducible refine ⟨?_, ?_⟩) <;> first | exact trivial | assumption | (simp; done) | (simp only [List.length_map] at *; omega) | omega | (simp [fs]; done) | exact r8_sz))) | (with_reducible intro x hx) | omega) <;> (try simp only [c1, Nat.reduceBEq, reduceIte, binD, binInt, ofRes, fw]))
  refine GcTo_own [0, 1, 2, 3] (by rfl) (by simp) (by simp [plL, allL, fg])
  skip
def rWa (s : Rs) : (Int × Int) × Rs := ((((rqN 4294967295 s).1 : Int), ((rqN 1000 (rqN 4294967295 s).2).1 : Int)), (rqN 1000 (rqN 4294967295 s).2).2)
theorem rWa_le (s : Rs) : (rWa s).2.l.length ≤ s.l.length := Nat.le_trans ((rqN_le _ (by omega) _).1) ((rqN_le _ (by omega) _).1)
theorem elWa_r (s : Rs) (hl : s.l.length ≤ 1099511627776) :
  CallG Tryz.prog 130 [.ptr 0 0 0 1, .ptr 1 0 0 1] [Va 2 [.int .u32 0, .int .i64 0], Bx 2, Cr 3 s.cb, Rd s.l s.rb] (.tup [])
   [Va 2 (cWa (rWa s).1), Bx 2, Cr 3 (rWa s).2.cb, Rd (rWa s).2.l (rWa s).2.rb] := by
 refine callG Tryz.func130 low130 (by simp [c130]) ?_
 simp only [c130]
 unfold rWa
 have g1 := (rqN_le 4294967295 (by omega) s).1
 have h1 : CallG Tryz.prog 78 [.ptr 0 0 0 1, .ptr 2 0 0 1] [Cr 1 s.cb, Rd s.l s.rb, Va 2 [.int .u32 0, .int .i64 0]] (.tup []) [Cr 1 (rqN 4294967295 s).2.cb, Rd (rqN 4294967295 s).2.l (rqN 4294967295 s).2.rb, Va 2 [.int .u32 (rqN 4294967295 s).1, .int .i64 0]] := name_r s.l s.rb s.cb 2 [.int .u32 0, .int .i64 0] 0 rfl (by omega) (by omega)
 generalize rqN 4294967295 s = q1 at h1 g1 ⊢
 obtain ⟨v1, s1⟩ := q1
 dsimp only at h1 g1 ⊢
 have g2 := (rqN_le 1000 (by omega) s1).1
 have h2 : CallG Tryz.prog 57 [.ptr 0 0 0 1, .ptr 2 0 1 1, .int .u64 1000] [Cr 1 s1.cb, Rd s1.l s1.rb, Va 2 [.int .u32 v1, .int .i64 0]] (.tup []) [Cr 1 (rqN 1000 s1).2.cb, Rd (rqN 1000 s1).2.l (rqN 1000 s1).2.rb, Va 2 [.int .u32 v1, .int .i64 (rqN 1000 s1).1]] := numI_r s1.l s1.rb s1.cb 2 [.int .u32 v1, .int .i64 0] 1 1000 rfl (by omega) (by omega) (by omega)
 generalize rqN 1000 s1 = q2 at h2 g2 ⊢
 obtain ⟨v2, s2⟩ := q2
 dsimp only at h2 g2 ⊢
 have hc : cWa ((v1 : Int), (v2 : Int)) = [.int .u32 v1, .int .i64 v2] := rfl
 rw [hc]
 repeat' ((first | apply Run_seq | apply Run_ret | apply Run_nil | apply Run_opsX mixed | (with_reducible first | refine PostG_open ?_ | refine ro_callA (f := .c (.fn 78 [])) ?_ | refine ro_callA (f := .c (.fn 57 [])) ?_ | refine ro_callVX ?_ | refine CallE_use (h1) (by simp) ?_ | refine CallE_use (h2) (by simp) ?_) | (with_reducible refine ⟨?_, ?_⟩; (focus ((repeat' with_reducible refine ⟨?_, ?_⟩) <;> first | exact trivial | assumption | (simp; done) | (simp only [List.length_map] at *; omega) | omega | (simp [fs]; done) | exact r8_sz))) | (with_reducible intro x hx) | omega) <;> (try simp only [Nat.reduceBEq, reduceIte, Nat.reduceEqDiff, Nat.reduceAdd, Nat.reduceSub, Nat.reduceLT, reduceCtorEq, fw, fd]))
 refine GcTo_own [0, 1, 2, 3] (by rfl) (by simp) (by simp [fg])
set_option maxHeartbeats 4000000 in
theorem rowWa_r (s : Rs) (sz : Nat) (R : List D) (j most : Nat) (hR : R[j]? = some (.list (some true) true [])) (hz : R.length = sz) (hm : most < 1000000) (hl : s.l.length ≤ 1099511627776) :
  CallG Tryz.prog 129 [.ptr 0 0 0 1, .ptr 2 0 j 1, .int .i64 most, .fn 130 [.ptr 3 0 0 1]] [Cr 1 s.cb, Rd s.l s.rb, Va sz R, Bx 0] (.tup [])
   [Cr 1 (rRow rWa most s).2.cb, Rd (rRow rWa most s).2.l (rRow rWa most s).2.rb, Va sz (R.set j (L (row2 .u32 .i64 (rRow rWa most s).1))), Bx 0] := by
 refine callG Tryz.func129 low129 (by simp [c129]) ?_
 simp only [c129]
 have hn : CallG Tryz.prog 53 [.ptr 0 0 0 1, .ptr 2 0 0 1, .int .u64 most] [Cr 1 s.cb, Rd s.l s.rb, Va 1 [.int .u64 0]] (.tup []) [Cr 1 (rqN most s).2.cb, Rd (rqN most s).2.l (rqN most s).2.rb, Va 1 [.int .u64 (rqN most s).1]] := numQ_r s.l s.rb s.cb 1 [.int .u64 0] 0 most rfl (by omega) (by omega) hl
 obtain ⟨X, hX⟩ : ∃ X, rRow rWa most s = X := ⟨_, rfl⟩
 rw [hX]
 unfold rRow at hX
 obtain ⟨g1, g2⟩ := rqN_le most (by omega) s
 generalize rqN most s = q at hn hX g1 g2
 obtain ⟨n, s0⟩ := q
 dsimp only at hn hX g1 g2
 have hj : j < R.length := (List.getElem?_eq_some_iff.1 hR).1
 have z0 : (((0 : Nat) : Int)) = 0 := rfl
 refine Run_pure 2 rfl rfl fun hpt => ?_
 have hpt : ∀ x ∈ R, x.pt1 = true := fun x hx => hpt R (by simp) x hx
 have own1 : ∀ d : D, (R.set j d)[j]? = some d := fun d => by rw [List.getElem?_set_self hj]
 have own2 : ∀ d e : D, (R.set j d).take j ++ [e] ++ (R.set j d).drop (j + 1) = R.set j e := fun d e => by
  rw [spl1 (by rw [List.length_set]; exact hj), List.set_set]
 have pl5 : ∀ (σ : List Ob) (k n : Nat), mapO (pull1 true [0, 1, 2, 3, 5] σ) (R.set j (.own 5 0 k n 2 none)) = some (R.set j (.own 4 0 k n 2 none)) := fun σ k n => pull_own hpt rfl
 have pl4 : ∀ (σ : List Ob) (k n : Nat), mapO (pull1 true [0, 1, 2, 3, 4] σ) (R.set j (.own 4 0 k n 2 none)) = some (R.set j (.own 4 0 k n 2 none)) := fun σ k n => pull_own hpt rfl
 have plL : ∀ (σ : List Ob) (rows : List (List D)), mapO (pull1 true [0, 1, 2, 3] σ) (R.set j (.list none false rows)) = some (R.set j (.list none false rows)) := fun σ rows => pull_pt hpt rfl
 have allL : ∀ rows : List (List D), (R.set j (.list none false rows)).all D.pt1 = true := fun rows => all_set hpt rfl
 have hz' : (j + 1 ≤ sz) = True := eq_true (by omega)
 repeat' ((first | apply Run_seq | apply Run_skip | apply Run_block | apply Run_blk | refine Run_exit rfl ?_ | apply Run_ret | apply Run_nil | apply Run_condK | apply Run_ops mixed | apply Run_opsX mixed | (with_reducible first | refine PostG_open ?_ | refine ro_callA' (f := .c (.fn 53 [])) ?_ | refine ro_callV ?_ | refine CallE_use (hn) (by simp) ?_) | simp (disch := omega) only [wu64] | ((first | refine GuardK_split ?_ ?_ | refine CondK_split ?_ ?_) <;> intro hc <;> (try simp only [hc]) <;> try simp at hc) | (with_reducible refine ⟨?_, ?_⟩; (focus ((repeat' with_reducible refine ⟨?_, ?_⟩) <;> first | exact trivial | assumption | (simp; done) | (simp only [List.length_map] at *; omega) | omega | (simp [fs]; done) | exact r8_sz))) | (with_reducible intro x hx) | omega) <;> (try simp only [hR, z0, Nat.reduceBEq, reduceIte, Nat.reduceEqDiff, Nat.reduceAdd, Nat.reduceSub, Nat.reduceLT, reduceCtorEq, cond_false, ne_eq, fw, fd]))
 refine Run_ent (Ent_accC (l := 2) (j := 0) (i := j) (b := true) 2 true (by decide) rfl rfl rfl rfl hR) ?_
 refine Run_loop (ι := {p : Nat × Rs × List (Int × Int) // rowGo rWa p.1 p.2.1 p.2.2 = X ∧ p.2.2.length + p.1 = n ∧ p.2.1.l.length ≤ s0.l.length}) (fun p => ([(0, .ptr 0 0 0 1), (1, .ptr 2 0 j 1), (3, .fn 130 [.ptr 3 0 0 1]), (42, .int .u64 n), (43, .int .u64 p.1.2.2.length)],
  [Cr 1 p.1.2.1.cb, Rd p.1.2.1.l p.1.2.1.rb, ⟨true, false, false, false, sz, [R.set j (.own 4 0 p.1.2.2.length p.1.2.2.length 2 none)], some 0⟩, Bx 0, acc true 2 true (row2 .u32 .i64 p.1.2.2)])) (fun p => p.1.1) ⟨(n, s0, []), hX, by simp, Nat.le_refl _⟩ ?_ ?_
 ·simp only [List.length_nil, show row2 .u32 .i64 [] = [] from rfl]
  refine Ent_gc [0, 1, 2, 3, 5] (by rfl) (by simp) (by simp [pl5, fg]) (by simp [fg])
  skip
 rintro ⟨⟨k, s1, xs⟩, hk1, hk2, hk3⟩ hk
 dsimp only at hk1 hk2 hk3 hk ⊢
 -- a row that is done is told by its rows
 have fin : ∀ (env : Env) (ys : List (Int × Int)) (s2 : Rs) (ex : List Ob), Ent [Cr 1 s.cb, Rd s.l s.rb, Va sz R, Bx 0] env (Cr 1 s2.cb :: Rd s2.l s2.rb :: ⟨true, false, false, false, sz, [R.set j (.own 4 0 ys.length ys.length 2 none)], some 0⟩ :: Bx 0 :: acc true 2 true (row2 .u32 .i64 ys) :: ex) env
   (Cr 1 s2.cb :: Rd s2.l s2.rb :: ⟨true, false, false, false, sz, [R.set j (L (row2 .u32 .i64 ys))], some 0⟩ :: Bx 0 :: { acc true 2 true (row2 .u32 .i64 ys) with fz := true } :: ex) := fun env ys s2 ex => by
  refine Ent.trans (Ent_freeze 4) ?_
  have := Ent_cellF (base := [Cr 1 s.cb, Rd s.l s.rb, Va sz R, Bx 0]) (env := env) (σ := Cr 1 s2.cb :: Rd s2.l s2.rb :: ⟨true, false, false, false, sz, [R.set j (.own 4 0 ys.length ys.length 2 none)], some 0⟩ :: Bx 0 :: { acc true 2 true (row2 .u32 .i64 ys) with fz := true } :: ex) (l := 2) (j := 0) (i := j) (m := 4) (rows := row2 .u32 .i64 ys) rfl rfl rfl rfl (own1 _) rfl rfl (by
   rw [viewS_own']
   show viewO (some _) _ _ _ = _
   rw [viewO_some]
   simp [acc_rows, acc_pure, row2_len, winD_all])
  simp only [List.set_cons_zero, List.set_cons_succ, List.set_set] at this
  exact this
 by_cases hlt : 0 < k
 ·obtain ⟨k, rfl⟩ : ∃ k', k = k' + 1 := ⟨k - 1, by omega⟩
  have c1 : (((xs.length : Nat) : Int) < ((n : Nat) : Int)) = True := by simp; omega
  have he := elWa_r s1 (by omega)
  have hle := rWa_le s1
  unfold rowGo at hk1
  generalize rWa s1 = q at he hk1 hle
  obtain ⟨v, s2⟩ := q
  dsimp only at he hk1 hle
  have hcell : cWa v = [.int .u32 v.1, .int .i64 v.2] := rfl
  rw [hcell] at he
  by_cases hb : s2.rb = true ∨ s2.cb = true
  ·rw [if_pos hb] at hk1
   rw [← hk1]
   obtain ⟨l2, rb2, cb2⟩ := s2
   dsimp only at he hb ⊢
   cases rb2
   ·obtain rfl : cb2 = true := by simpa using hb
    repeat' ((first | apply Run_seq | apply Run_skip | apply Run_block | apply Run_blk | refine Run_exit rfl ?_ | apply Run_nil | apply Run_condK | apply Run_ops mixed | apply Run_opsX mixed | (with_reducible first | refine PostG_open ?_ | refine ro_callA' (f := .t 45) ?_ | refine ro_callV ?_ | refine CallE_use (he) (by simp) ?_) | refine CallV_pure (bad_p _ _) ?_ ?_ | simp (disch := omega) only [w64, wu64, wu32, wu16, wu8, Int.tdiv_eq_ediv_of_nonneg, Int.tmod_eq_emod_of_nonneg] | ((first | refine GuardK_split ?_ ?_ | refine CondK_split ?_ ?_) <;> intro hc <;> (try simp only [hc]) <;> try simp at hc) | (with_reducible refine ⟨?_, ?_⟩; (focus ((repeat' with_reducible refine ⟨?_, ?_⟩) <;> first | exact trivial | assumption | (simp; done) | (simp only [List.length_map] at *; omega) | omega | (simp [fs]; done) | exact r8_sz))) | (with_reducible intro x hx) | omega) <;> (try simp only [c1, Nat.reduceBEq, reduceIte, Nat.reduceEqDiff, Nat.reduceAdd, Nat.reduceSub, Nat.reduceLT, reduceCtorEq, cond_false, ne_eq, fw, fd]))
    refine Run_ent (fin _ xs ⟨l2, false, true⟩ [Va 2 [.int .u32 v.1, .int .i64 v.2]]) ?_
    repeat' ((first | apply Run_seq | apply Run_skip | apply Run_block | apply Run_blk | refine Run_exit rfl ?_ | apply Run_ret | apply Run_nil | apply Run_condK | apply Run_ops mixed | apply Run_opsX mixed | (with_reducible first | refine PostG_open ?_ | refine ro_callV ?_) | simp (disch := omega) only [w64, wu64, wu32, wu16, wu8, Int.tdiv_eq_ediv_of_nonneg, Int.tmod_eq_emod_of_nonneg] | ((first | refine GuardK_split ?_ ?_ | refine CondK_split ?_ ?_) <;> intro hc <;> (try simp only [hc]) <;> try simp at hc) | (with_reducible refine ⟨?_, ?_⟩; (focus ((repeat' with_reducible refine ⟨?_, ?_⟩) <;> first | exact trivial | assumption | (simp; done) | (simp only [List.length_map] at *; omega) | omega | (simp [fs]; done) | exact r8_sz))) | (with_reducible intro x hx) | omega) <;> (try simp only [ofRes, fw]))
    refine GcTo_own [0, 1, 2, 3] (by rfl) (by simp) (by simp [plL, allL, fg])
   ·repeat' ((first | apply Run_seq | apply Run_skip | apply Run_block | apply Run_blk | refine Run_exit rfl ?_ | apply Run_nil | apply Run_condK | apply Run_ops mixed | apply Run_opsX mixed | (with_reducible first | refine PostG_open ?_ | refine ro_callA' (f := .t 45) ?_ | refine ro_callV ?_ | refine CallE_use (he) (by simp) ?_) | refine CallV_pure (bad_p _ _) ?_ ?_ | simp (disch := omega) only [w64, wu64, wu32, wu16, wu8, Int.tdiv_eq_ediv_of_nonneg, Int.tmod_eq_emod_of_nonneg] | ((first | refine GuardK_split ?_ ?_ | refine CondK_split ?_ ?_) <;> intro hc <;> (try simp only [hc]) <;> try simp at hc) | (with_reducible refine ⟨?_, ?_⟩; (focus ((repeat' with_reducible refine ⟨?_, ?_⟩) <;> first | exact trivial | assumption | (simp; done) | (simp only [List.length_map] at *; omega) | omega | (simp [fs]; done) | exact r8_sz))) | (with_reducible intro x hx) | omega) <;> (try simp only [c1, Nat.reduceBEq, reduceIte, Nat.reduceEqDiff, Nat.reduceAdd, Nat.reduceSub, Nat.reduceLT, reduceCtorEq, cond_true, ne_eq, fw, fd]))
    refine Run_ent (fin _ xs ⟨l2, true, cb2⟩ [Va 2 [.int .u32 v.1, .int .i64 v.2]]) ?_
    repeat' ((first | apply Run_seq | apply Run_skip | apply Run_block | apply Run_blk | refine Run_exit rfl ?_ | apply Run_ret | apply Run_nil | apply Run_condK | apply Run_ops mixed | apply Run_opsX mixed | (with_reducible first | refine PostG_open ?_ | refine ro_callV ?_) | simp (disch := omega) only [w64, wu64, wu32, wu16, wu8, Int.tdiv_eq_ediv_of_nonneg, Int.tmod_eq_emod_of_nonneg] | ((first | refine GuardK_split ?_ ?_ | refine CondK_split ?_ ?_) <;> intro hc <;> (try simp only [hc]) <;> try simp at hc) | (with_reducible refine ⟨?_, ?_⟩; (focus ((repeat' with_reducible refine ⟨?_, ?_⟩) <;> first | exact trivial | assumption | (simp; done) | (simp only [List.length_map] at *; omega) | omega | (simp [fs]; done) | exact r8_sz))) | (with_reducible intro x hx) | omega) <;> (try simp only [ofRes, fw]))
    refine GcTo_own [0, 1, 2, 3] (by rfl) (by simp) (by simp [plL, allL, fg])
  ·rw [if_neg hb] at hk1
   obtain ⟨l2, rb2, cb2⟩ := s2
   dsimp only at he hb hle hk1 ⊢
   obtain ⟨rfl, rfl⟩ : rb2 = false ∧ cb2 = false := by simpa using hb
   have hu : row2 .u32 .i64 xs ++ [[.int .u32 v.1, .int .i64 v.2]] = row2 .u32 .i64 (xs ++ [v]) := by simp [row2]
   repeat' ((first | apply Run_seq | apply Run_skip | apply Run_block | apply Run_blk | refine Run_exit rfl ?_ | apply Run_ret | apply Run_nil | apply Run_condK | apply Run_ops mixed | apply Run_opsX mixed | (with_reducible first | refine PostG_open ?_ | refine ro_callA' (f := .t 45) ?_ | refine ro_callV ?_ | refine CallE_use (he) (by simp) ?_) | refine CallV_pure (bad_p _ _) ?_ ?_ | simp (disch := omega) only [wu64] | ((first | refine GuardK_split ?_ ?_ | refine CondK_split ?_ ?_) <;> intro hc <;> (try simp only [hc]) <;> try simp at hc) | (with_reducible refine ⟨?_, ?_⟩; (focus ((repeat' with_reducible refine ⟨?_, ?_⟩) <;> first | exact trivial | assumption | (simp; done) | omega | (simp [fs]; done) | exact r8_sz))) | (with_reducible intro x hx) | omega) <;> (try simp only [row2_len, c1, own1, own2, hz', hu, Nat.reduceBEq, reduceIte, Nat.reduceEqDiff, Nat.reduceAdd, Nat.reduceSub, Nat.reduceLT, Nat.reduceLeDiff, reduceCtorEq, cond_false, ne_eq, fw, fd]))
   refine hk ⟨(k, ⟨l2, false, false⟩, xs ++ [v]), hk1, by rw [List.length_append, List.length_cons, List.length_nil]; omega, by dsimp only; omega⟩ _ _ (by dsimp only; omega) ?_
   dsimp only
   simp only [List.length_append, List.length_cons, List.length_nil]
   refine Ent_gc [0, 1, 2, 3, 4] (by rfl) (by simp) (by simp [pl4, fg]) (by simp [fg])
   skip
 ·obtain rfl : k = 0 := by omega
  have c1 : (((xs.length : Nat) : Int) < ((n : Nat) : Int)) = False := by simp; omega
  unfold rowGo at hk1
  rw [← hk1]
  dsimp only
  refine Run_ent (fin _ xs s1 []) ?_
  repeat' ((first | apply Run_seq | apply Run_skip | apply Run_block | apply Run_blk | refine Run_exit rfl ?_ | apply Run_ret | apply Run_nil | apply Run_condK | apply Run_ops mixed | apply Run_opsX mixed | (with_reducible first | refine PostG_open ?_ | refine ro_callV ?_) | simp (disch := omega) only [w64, wu64, wu32, wu16, wu8, Int.tdiv_eq_ediv_of_nonneg, Int.tmod_eq_emod_of_nonneg] | ((first | refine GuardK_split ?_ ?_ | refine CondK_split ?_ ?_) <;> intro hc <;> (try simp only [hc]) <;> try simp at hc) | (with_reducible refine ⟨?_, ?_⟩; (focus ((repeat' with_reducible refine ⟨?_, ?_⟩) <;> first | exact trivial | assumption | (simp; done) | (simp only [List.length_map] at *; omega) | omega | (simp [fs]; done) | exact r8_sz))) | (with_reducible intro x hx) | omega) <;> (try simp only [c1, Nat.reduceBEq, reduceIte, binD, binInt, ofRes, fw]))
  refine GcTo_own [0, 1, 2, 3] (by rfl) (by simp) (by simp [plL, allL, fg])
  skip
def rPa (s : Rs) : (Int × Int) × Rs := ((((rqN 4294967295 s).1 : Int), ((rqN 4294967295 (rqN 4294967295 s).2).1 : Int)), (rqN 4294967295 (rqN 4294967295 s).2).2)
theorem rPa_le (s : Rs) : (rPa s).2.l.length ≤ s.l.length := Nat.le_trans ((rqN_le _ (by omega) _).1) ((rqN_le _ (by omega) _).1)
theorem elPa_r (s : Rs) (hl : s.l.length ≤ 1099511627776) :
  CallG Tryz.prog 132 [.ptr 0 0 0 1, .ptr 1 0 0 1] [Va 2 [.int .u32 0, .int .u32 0], Bx 2, Cr 3 s.cb, Rd s.l s.rb] (.tup [])
   [Va 2 (cPa (rPa s).1), Bx 2, Cr 3 (rPa s).2.cb, Rd (rPa s).2.l (rPa s).2.rb] := by
 refine callG Tryz.func132 low132 (by simp [c132]) ?_
 simp only [c132]
 unfold rPa
 have g1 := (rqN_le 4294967295 (by omega) s).1
 have h1 : CallG Tryz.prog 78 [.ptr 0 0 0 1, .ptr 2 0 0 1] [Cr 1 s.cb, Rd s.l s.rb, Va 2 [.int .u32 0, .int .u32 0]] (.tup []) [Cr 1 (rqN 4294967295 s).2.cb, Rd (rqN 4294967295 s).2.l (rqN 4294967295 s).2.rb, Va 2 [.int .u32 (rqN 4294967295 s).1, .int .u32 0]] := name_r s.l s.rb s.cb 2 [.int .u32 0, .int .u32 0] 0 rfl (by omega) (by omega)
 generalize rqN 4294967295 s = q1 at h1 g1 ⊢
 obtain ⟨v1, s1⟩ := q1
 dsimp only at h1 g1 ⊢
 have g2 := (rqN_le 4294967295 (by omega) s1).1
 have h2 : CallG Tryz.prog 78 [.ptr 0 0 0 1, .ptr 2 0 1 1] [Cr 1 s1.cb, Rd s1.l s1.rb, Va 2 [.int .u32 v1, .int .u32 0]] (.tup []) [Cr 1 (rqN 4294967295 s1).2.cb, Rd (rqN 4294967295 s1).2.l (rqN 4294967295 s1).2.rb, Va 2 [.int .u32 v1, .int .u32 (rqN 4294967295 s1).1]] := name_r s1.l s1.rb s1.cb 2 [.int .u32 v1, .int .u32 0] 1 rfl (by omega) (by omega)
 generalize rqN 4294967295 s1 = q2 at h2 g2 ⊢
 obtain ⟨v2, s2⟩ := q2
 dsimp only at h2 g2 ⊢
 have hc : cPa ((v1 : Int), (v2 : Int)) = [.int .u32 v1, .int .u32 v2] := rfl
 rw [hc]
 repeat' ((first | apply Run_seq | apply Run_ret | apply Run_nil | apply Run_opsX mixed | (with_reducible first | refine PostG_open ?_ | refine ro_callA (f := .c (.fn 78 [])) ?_ | refine ro_callVX ?_ | refine CallE_use (h1) (by simp) ?_ | refine CallE_use (h2) (by simp) ?_) | (with_reducible refine ⟨?_, ?_⟩; (focus ((repeat' with_reducible refine ⟨?_, ?_⟩) <;> first | exact trivial | assumption | (simp; done) | (simp only [List.length_map] at *; omega) | omega | (simp [fs]; done) | exact r8_sz))) | (with_reducible intro x hx) | omega) <;> (try simp only [Nat.reduceBEq, reduceIte, Nat.reduceEqDiff, Nat.reduceAdd, Nat.reduceSub, Nat.reduceLT, reduceCtorEq, fw, fd]))
 refine GcTo_own [0, 1, 2, 3] (by rfl) (by simp) (by simp [fg])
set_option maxHeartbeats 4000000 in
theorem rowPa_r (s : Rs) (sz : Nat) (R : List D) (j most : Nat) (hR : R[j]? = some (.list (some true) true [])) (hz : R.length = sz) (hm : most < 1000000) (hl : s.l.length ≤ 1099511627776) :
  CallG Tryz.prog 131 [.ptr 0 0 0 1, .ptr 2 0 j 1, .int .i64 most, .fn 132 [.ptr 3 0 0 1]] [Cr 1 s.cb, Rd s.l s.rb, Va sz R, Bx 0] (.tup [])
   [Cr 1 (rRow rPa most s).2.cb, Rd (rRow rPa most s).2.l (rRow rPa most s).2.rb, Va sz (R.set j (L (row2 .u32 .u32 (rRow rPa most s).1))), Bx 0] := by
 refine callG Tryz.func131 low131 (by simp [c131]) ?_
 simp only [c131]
 have hn : CallG Tryz.prog 53 [.ptr 0 0 0 1, .ptr 2 0 0 1, .int .u64 most] [Cr 1 s.cb, Rd s.l s.rb, Va 1 [.int .u64 0]] (.tup []) [Cr 1 (rqN most s).2.cb, Rd (rqN most s).2.l (rqN most s).2.rb, Va 1 [.int .u64 (rqN most s).1]] := numQ_r s.l s.rb s.cb 1 [.int .u64 0] 0 most rfl (by omega) (by omega) hl
 obtain ⟨X, hX⟩ : ∃ X, rRow rPa most s = X := ⟨_, rfl⟩
 rw [hX]
 unfold rRow at hX
 obtain ⟨g1, g2⟩ := rqN_le most (by omega) s
 generalize rqN most s = q at hn hX g1 g2
 obtain ⟨n, s0⟩ := q
 dsimp only at hn hX g1 g2
 have hj : j < R.length := (List.getElem?_eq_some_iff.1 hR).1
 have z0 : (((0 : Nat) : Int)) = 0 := rfl
 refine Run_pure 2 rfl rfl fun hpt => ?_
 have hpt : ∀ x ∈ R, x.pt1 = true := fun x hx => hpt R (by simp) x hx
 have own1 : ∀ d : D, (R.set j d)[j]? = some d := fun d => by rw [List.getElem?_set_self hj]
 have own2 : ∀ d e : D, (R.set j d).take j ++ [e] ++ (R.set j d).drop (j + 1) = R.set j e := fun d e => by
  rw [spl1 (by rw [List.length_set]; exact hj), List.set_set]
 have pl5 : ∀ (σ : List Ob) (k n : Nat), mapO (pull1 true [0, 1, 2, 3, 5] σ) (R.set j (.own 5 0 k n 2 none)) = some (R.set j (.own 4 0 k n 2 none)) := fun σ k n => pull_own hpt rfl
 have pl4 : ∀ (σ : List Ob) (k n : Nat), mapO (pull1 true [0, 1, 2, 3, 4] σ) (R.set j (.own 4 0 k n 2 none)) = some (R.set j (.own 4 0 k n 2 none)) := fun σ k n => pull_own hpt rfl
 have plL : ∀ (σ : List Ob) (rows : List (List D)), mapO (pull1 true [0, 1, 2, 3] σ) (R.set j (.list none false rows)) = some (R.set j (.list none false rows)) := fun σ rows => pull_pt hpt rfl
 have allL : ∀ rows : List (List D), (R.set j (.list none false rows)).all D.pt1 = true := fun rows => all_set hpt rfl
 have hz' : (j + 1 ≤ sz) = True := eq_true (by omega)
 repeat' ((first | apply Run_seq | apply Run_skip | apply Run_block | apply Run_blk | refine Run_exit rfl ?_ | apply Run_ret | apply Run_nil | apply Run_condK | apply Run_ops mixed | apply Run_opsX mixed | (with_reducible first | refine PostG_open ?_ | refine ro_callA' (f := .c (.fn 53 [])) ?_ | refine ro_callV ?_ | refine CallE_use (hn) (by simp) ?_) | simp (disch := omega) only [wu64] | ((first | refine GuardK_split ?_ ?_ | refine CondK_split ?_ ?_) <;> intro hc <;> (try simp only [hc]) <;> try simp at hc) | (with_reducible refine ⟨?_, ?_⟩; (focus ((repeat' with_reducible refine ⟨?_, ?_⟩) <;> first | exact trivial | assumption | (simp; done) | (simp only [List.length_map] at *; omega) | omega | (simp [fs]; done) | exact r8_sz))) | (with_reducible intro x hx) | omega) <;> (try simp only [hR, z0, Nat.reduceBEq, reduceIte, Nat.reduceEqDiff, Nat.reduceAdd, Nat.reduceSub, Nat.reduceLT, reduceCtorEq, cond_false, ne_eq, fw, fd]))
 refine Run_ent (Ent_accC (l := 2) (j := 0) (i := j) (b := true) 2 true (by decide) rfl rfl rfl rfl hR) ?_
 refine Run_loop (ι := {p : Nat × Rs × List (Int × Int) // rowGo rPa p.1 p.2.1 p.2.2 = X ∧ p.2.2.length + p.1 = n ∧ p.2.1.l.length ≤ s0.l.length}) (fun p => ([(0, .ptr 0 0 0 1), (1, .ptr 2 0 j 1), (3, .fn 132 [.ptr 3 0 0 1]), (42, .int .u64 n), (43, .int .u64 p.1.2.2.length)],
  [Cr 1 p.1.2.1.cb, Rd p.1.2.1.l p.1.2.1.rb, ⟨true, false, false, false, sz, [R.set j (.own 4 0 p.1.2.2.length p.1.2.2.length 2 none)], some 0⟩, Bx 0, acc true 2 true (row2 .u32 .u32 p.1.2.2)])) (fun p => p.1.1) ⟨(n, s0, []), hX, by simp, Nat.le_refl _⟩ ?_ ?_
 ·simp only [List.length_nil, show row2 .u32 .u32 [] = [] from rfl]
  refine Ent_gc [0, 1, 2, 3, 5] (by rfl) (by simp) (by simp [pl5, fg]) (by simp [fg])
  skip
 rintro ⟨⟨k, s1, xs⟩, hk1, hk2, hk3⟩ hk
 dsimp only at hk1 hk2 hk3 hk ⊢
 -- a row that is done is told by its rows
 have fin : ∀ (env : Env) (ys : List (Int × Int)) (s2 : Rs) (ex : List Ob), Ent [Cr 1 s.cb, Rd s.l s.rb, Va sz R, Bx 0] env (Cr 1 s2.cb :: Rd s2.l s2.rb :: ⟨true, false, false, false, sz, [R.set j (.own 4 0 ys.length ys.length 2 none)], some 0⟩ :: Bx 0 :: acc true 2 true (row2 .u32 .u32 ys) :: ex) env
   (Cr 1 s2.cb :: Rd s2.l s2.rb :: ⟨true, false, false, false, sz, [R.set j (L (row2 .u32 .u32 ys))], some 0⟩ :: Bx 0 :: { acc true 2 true (row2 .u32 .u32 ys) with fz := true } :: ex) := fun env ys s2 ex => by
  refine Ent.trans (Ent_freeze 4) ?_
  have := Ent_cellF (base := [Cr 1 s.cb, Rd s.l s.rb, Va sz R, Bx 0]) (env := env) (σ := Cr 1 s2.cb :: Rd s2.l s2.rb :: ⟨true, false, false, false, sz, [R.set j (.own 4 0 ys.length ys.length 2 none)], some 0⟩ :: Bx 0 :: { acc true 2 true (row2 .u32 .u32 ys) with fz := true } :: ex) (l := 2) (j := 0) (i := j) (m := 4) (rows := row2 .u32 .u32 ys) rfl rfl rfl rfl (own1 _) rfl rfl (by
   rw [viewS_own']
   show viewO (some _) _ _ _ = _
   rw [viewO_some]
   simp [acc_rows, acc_pure, row2_len, winD_all])
  simp only [List.set_cons_zero, List.set_cons_succ, List.set_set] at this
  exact this
 by_cases hlt : 0 < k
 ·obtain ⟨k, rfl⟩ : ∃ k', k = k' + 1 := ⟨k - 1, by omega⟩
  have c1 : (((xs.length : Nat) : Int) < ((n : Nat) : Int)) = True := by simp; omega
  have he := elPa_r s1 (by omega)
  have hle := rPa_le s1
  unfold rowGo at hk1
  generalize rPa s1 = q at he hk1 hle
  obtain ⟨v, s2⟩ := q
  dsimp only at he hk1 hle
  have hcell : cPa v = [.int .u32 v.1, .int .u32 v.2] := rfl
  rw [hcell] at he
  by_cases hb : s2.rb = true ∨ s2.cb = true
  ·rw [if_pos hb] at hk1
   rw [← hk1]
   obtain ⟨l2, rb2, cb2⟩ := s2
   dsimp only at he hb ⊢
   cases rb2
   ·obtain rfl : cb2 = true := by simpa using hb
    repeat' ((first | apply Run_seq | apply Run_skip | apply Run_block | apply Run_blk | refine Run_exit rfl ?_ | apply Run_nil | apply Run_condK | apply Run_ops mixed | apply Run_opsX mixed | (with_reducible first | refine PostG_open ?_ | refine ro_callA' (f := .t 45) ?_ | refine ro_callV ?_ | refine CallE_use (he) (by simp) ?_) | refine CallV_pure (bad_p _ _) ?_ ?_ | simp (disch := omega) only [w64, wu64, wu32, wu16, wu8, Int.tdiv_eq_ediv_of_nonneg, Int.tmod_eq_emod_of_nonneg] | ((first | refine GuardK_split ?_ ?_ | refine CondK_split ?_ ?_) <;> intro hc <;> (try simp only [hc]) <;> try simp at hc) | (with_reducible refine ⟨?_, ?_⟩; (focus ((repeat' with_reducible refine ⟨?_, ?_⟩) <;> first | exact trivial | assumption | (simp; done) | (simp only [List.length_map] at *; omega) | omega | (simp [fs]; done) | exact r8_sz))) | (with_reducible intro x hx) | omega) <;> (try simp only [c1, Nat.reduceBEq, reduceIte, Nat.reduceEqDiff, Nat.reduceAdd, Nat.reduceSub, Nat.reduceLT, reduceCtorEq, cond_false, ne_eq, fw, fd]))
    refine Run_ent (fin _ xs ⟨l2, false, true⟩ [Va 2 [.int .u32 v.1, .int .u32 v.2]]) ?_
    repeat' ((first | apply Run_seq | apply Run_skip | apply Run_block | apply Run_blk | refine Run_exit rfl ?_ | apply Run_ret | apply Run_nil | apply Run_condK | apply Run_ops mixed | apply Run_opsX mixed | (with_reducible first | refine PostG_open ?_ | refine ro_callV ?_) | simp (disch := omega) only [w64, wu64, wu32, wu16, wu8, Int.tdiv_eq_ediv_of_nonneg, Int.tmod_eq_emod_of_nonneg] | ((first | refine GuardK_split ?_ ?_ | refine CondK_split ?_ ?_) <;> intro hc <;> (try simp only [hc]) <;> try simp at hc) | (with_reducible refine ⟨?_, ?_⟩; (focus ((repeat' with_reducible refine ⟨?_, ?_⟩) <;> first | exact trivial | assumption | (simp; done) | (simp only [List.length_map] at *; omega) | omega | (simp [fs]; done) | exact r8_sz))) | (with_reducible intro x hx) | omega) <;> (try simp only [ofRes, fw]))
    refine GcTo_own [0, 1, 2, 3] (by rfl) (by simp) (by simp [plL, allL, fg])
   ·repeat' ((first | apply Run_seq | apply Run_skip | apply Run_block | apply Run_blk | refine Run_exit rfl ?_ | apply Run_nil | apply Run_condK | apply Run_ops mixed | apply Run_opsX mixed | (with_reducible first | refine PostG_open ?_ | refine ro_callA' (f := .t 45) ?_ | refine ro_callV ?_ | refine CallE_use (he) (by simp) ?_) | refine CallV_pure (bad_p _ _) ?_ ?_ | simp (disch := omega) only [w64, wu64, wu32, wu16, wu8, Int.tdiv_eq_ediv_of_nonneg, Int.tmod_eq_emod_of_nonneg] | ((first | refine GuardK_split ?_ ?_ | refine CondK_split ?_ ?_) <;> intro hc <;> (try simp only [hc]) <;> try simp at hc) | (with_reducible refine ⟨?_, ?_⟩; (focus ((repeat' with_reducible refine ⟨?_, ?_⟩) <;> first | exact trivial | assumption | (simp; done) | (simp only [List.length_map] at *; omega) | omega | (simp [fs]; done) | exact r8_sz))) | (with_reducible intro x hx) | omega) <;> (try simp only [c1, Nat.reduceBEq, reduceIte, Nat.reduceEqDiff, Nat.reduceAdd, Nat.reduceSub, Nat.reduceLT, reduceCtorEq, cond_true, ne_eq, fw, fd]))
    refine Run_ent (fin _ xs ⟨l2, true, cb2⟩ [Va 2 [.int .u32 v.1, .int .u32 v.2]]) ?_
    repeat' ((first | apply Run_seq | apply Run_skip | apply Run_block | apply Run_blk | refine Run_exit rfl ?_ | apply Run_ret | apply Run_nil | apply Run_condK | apply Run_ops mixed | apply Run_opsX mixed | (with_reducible first | refine PostG_open ?_ | refine ro_callV ?_) | simp (disch := omega) only [w64, wu64, wu32, wu16, wu8, Int.tdiv_eq_ediv_of_nonneg, Int.tmod_eq_emod_of_nonneg] | ((first | refine GuardK_split ?_ ?_ | refine CondK_split ?_ ?_) <;> intro hc <;> (try simp only [hc]) <;> try simp at hc) | (with_reducible refine ⟨?_, ?_⟩; (focus ((repeat' with_reducible refine ⟨?_, ?_⟩) <;> first | exact trivial | assumption | (simp; done) | (simp only [List.length_map] at *; omega) | omega | (simp [fs]; done) | exact r8_sz))) | (with_reducible intro x hx) | omega) <;> (try simp only [ofRes, fw]))
    refine GcTo_own [0, 1, 2, 3] (by rfl) (by simp) (by simp [plL, allL, fg])
  ·rw [if_neg hb] at hk1
   obtain ⟨l2, rb2, cb2⟩ := s2
   dsimp only at he hb hle hk1 ⊢
   obtain ⟨rfl, rfl⟩ : rb2 = false ∧ cb2 = false := by simpa using hb
   have hu : row2 .u32 .u32 xs ++ [[.int .u32 v.1, .int .u32 v.2]] = row2 .u32 .u32 (xs ++ [v]) := by simp [row2]
   repeat' ((first | apply Run_seq | apply Run_skip | apply Run_block | apply Run_blk | refine Run_exit rfl ?_ | apply Run_ret | apply Run_nil | apply Run_condK | apply Run_ops mixed | apply Run_opsX mixed | (with_reducible first | refine PostG_open ?_ | refine ro_callA' (f := .t 45) ?_ | refine ro_callV ?_ | refine CallE_use (he) (by simp) ?_) | refine CallV_pure (bad_p _ _) ?_ ?_ | simp (disch := omega) only [wu64] | ((first | refine GuardK_split ?_ ?_ | refine CondK_split ?_ ?_) <;> intro hc <;> (try simp only [hc]) <;> try simp at hc) | (with_reducible refine ⟨?_, ?_⟩; (focus ((repeat' with_reducible refine ⟨?_, ?_⟩) <;> first | exact trivial | assumption | (simp; done) | omega | (simp [fs]; done) | exact r8_sz))) | (with_reducible intro x hx) | omega) <;> (try simp only [row2_len, c1, own1, own2, hz', hu, Nat.reduceBEq, reduceIte, Nat.reduceEqDiff, Nat.reduceAdd, Nat.reduceSub, Nat.reduceLT, Nat.reduceLeDiff, reduceCtorEq, cond_false, ne_eq, fw, fd]))
   refine hk ⟨(k, ⟨l2, false, false⟩, xs ++ [v]), hk1, by rw [List.length_append, List.length_cons, List.length_nil]; omega, by dsimp only; omega⟩ _ _ (by dsimp only; omega) ?_
   dsimp only
   simp only [List.length_append, List.length_cons, List.length_nil]
   refine Ent_gc [0, 1, 2, 3, 4] (by rfl) (by simp) (by simp [pl4, fg]) (by simp [fg])
   skip
 ·obtain rfl : k = 0 := by omega
  have c1 : (((xs.length : Nat) : Int) < ((n : Nat) : Int)) = False := by simp; omega
  unfold rowGo at hk1
  rw [← hk1]
  dsimp only
  refine Run_ent (fin _ xs s1 []) ?_
  repeat' ((first | apply Run_seq | apply Run_skip | apply Run_block | apply Run_blk | refine Run_exit rfl ?_ | apply Run_ret | apply Run_nil | apply Run_condK | apply Run_ops mixed | apply Run_opsX mixed | (with_reducible first | refine PostG_open ?_ | refine ro_callV ?_) | simp (disch := omega) only [w64, wu64, wu32, wu16, wu8, Int.tdiv_eq_ediv_of_nonneg, Int.tmod_eq_emod_of_nonneg] | ((first | refine GuardK_split ?_ ?_ | refine CondK_split ?_ ?_) <;> intro hc <;> (try simp only [hc]) <;> try simp at hc) | (with_reducible refine ⟨?_, ?_⟩; (focus ((repeat' with_reducible refine ⟨?_, ?_⟩) <;> first | exact trivial | assumption | (simp; done) | (simp only [List.length_map] at *; omega) | omega | (simp [fs]; done) | exact r8_sz))) | (with_reducible intro x hx) | omega) <;> (try simp only [c1, Nat.reduceBEq, reduceIte, binD, binInt, ofRes, fw]))
  refine GcTo_own [0, 1, 2, 3] (by rfl) (by simp) (by simp [plL, allL, fg])
  skip
def rTs (s : Rs) : (Int) × Rs := (((rqM s).1 : Int), (rqM s).2)
theorem rTs_le (s : Rs) : (rTs s).2.l.length ≤ s.l.length := rqM_le _
theorem elTs_r (s : Rs) (hl : s.l.length ≤ 1099511627776) :
  CallG Tryz.prog 105 [.ptr 0 0 0 1, .ptr 1 0 0 1] [Va 1 [.int .i64 0], Bx 2, Cr 3 s.cb, Rd s.l s.rb] (.tup [])
   [Va 1 (cTs (rTs s).1), Bx 2, Cr 3 (rTs s).2.cb, Rd (rTs s).2.l (rTs s).2.rb] := by
 refine callG Tryz.func105 low105 (by simp [c105]) ?_
 simp only [c105]
 unfold rTs
 have g1 := rqM_le s
 have h1 : CallG Tryz.prog 56 [.ptr 0 0 0 1, .ptr 2 0 0 1] [Cr 1 s.cb, Rd s.l s.rb, Va 1 [.int .i64 0]] (.tup []) [Cr 1 (rqM s).2.cb, Rd (rqM s).2.l (rqM s).2.rb, Va 1 [.int .i64 (rqM s).1]] := minutes_r s.l s.rb s.cb 1 [.int .i64 0] 0 rfl (by omega) (by omega)
 generalize rqM s = q1 at h1 g1 ⊢
 obtain ⟨v1, s1⟩ := q1
 dsimp only at h1 g1 ⊢
 have hc : cTs (v1 : Int) = [.int .i64 v1] := rfl
 rw [hc]
 repeat' ((first | apply Run_seq | apply Run_ret | apply Run_nil | apply Run_ops mixed | (with_reducible first | refine PostG_open ?_ | refine ro_callA' (f := .c (.fn 56 [])) ?_ | refine ro_callV ?_ | refine CallE_use (h1) (by simp) ?_) | (with_reducible refine ⟨?_, ?_⟩; (focus ((repeat' with_reducible refine ⟨?_, ?_⟩) <;> first | exact trivial | assumption | (simp; done) | (simp only [List.length_map] at *; omega) | omega | (simp [fs]; done) | exact r8_sz))) | (with_reducible intro x hx) | omega) <;> (try simp only [Nat.reduceBEq, reduceIte, Nat.reduceEqDiff, Nat.reduceAdd, Nat.reduceSub, Nat.reduceLT, reduceCtorEq, fw, fd]))
 refine GcTo_own [0, 1, 2, 3] (by rfl) (by simp) (by simp [fg])
set_option maxHeartbeats 4000000 in
theorem rowTs_r (s : Rs) (sz : Nat) (R : List D) (j most : Nat) (hR : R[j]? = some (.list (some true) true [])) (hz : R.length = sz) (hm : most < 1000000) (hl : s.l.length ≤ 1099511627776) :
  CallG Tryz.prog 104 [.ptr 0 0 0 1, .ptr 2 0 j 1, .int .i64 most, .fn 105 [.ptr 3 0 0 1]] [Cr 1 s.cb, Rd s.l s.rb, Va sz R, Bx 0] (.tup [])
   [Cr 1 (rRow rTs most s).2.cb, Rd (rRow rTs most s).2.l (rRow rTs most s).2.rb, Va sz (R.set j (L (row1 .i64 (rRow rTs most s).1))), Bx 0] := by
 refine callG Tryz.func104 low104 (by simp [c104]) ?_
 simp only [c104]
 have hn : CallG Tryz.prog 53 [.ptr 0 0 0 1, .ptr 2 0 0 1, .int .u64 most] [Cr 1 s.cb, Rd s.l s.rb, Va 1 [.int .u64 0]] (.tup []) [Cr 1 (rqN most s).2.cb, Rd (rqN most s).2.l (rqN most s).2.rb, Va 1 [.int .u64 (rqN most s).1]] := numQ_r s.l s.rb s.cb 1 [.int .u64 0] 0 most rfl (by omega) (by omega) hl
 obtain ⟨X, hX⟩ : ∃ X, rRow rTs most s = X := ⟨_, rfl⟩
 rw [hX]
 unfold rRow at hX
 obtain ⟨g1, g2⟩ := rqN_le most (by omega) s
 generalize rqN most s = q at hn hX g1 g2
 obtain ⟨n, s0⟩ := q
 dsimp only at hn hX g1 g2
 have hj : j < R.length := (List.getElem?_eq_some_iff.1 hR).1
 have z0 : (((0 : Nat) : Int)) = 0 := rfl
 refine Run_pure 2 rfl rfl fun hpt => ?_
 have hpt : ∀ x ∈ R, x.pt1 = true := fun x hx => hpt R (by simp) x hx
 have own1 : ∀ d : D, (R.set j d)[j]? = some d := fun d => by rw [List.getElem?_set_self hj]
 have own2 : ∀ d e : D, (R.set j d).take j ++ [e] ++ (R.set j d).drop (j + 1) = R.set j e := fun d e => by
  rw [spl1 (by rw [List.length_set]; exact hj), List.set_set]
 have pl5 : ∀ (σ : List Ob) (k n : Nat), mapO (pull1 true [0, 1, 2, 3, 5] σ) (R.set j (.own 5 0 k n 1 none)) = some (R.set j (.own 4 0 k n 1 none)) := fun σ k n => pull_own hpt rfl
 have pl4 : ∀ (σ : List Ob) (k n : Nat), mapO (pull1 true [0, 1, 2, 3, 4] σ) (R.set j (.own 4 0 k n 1 none)) = some (R.set j (.own 4 0 k n 1 none)) := fun σ k n => pull_own hpt rfl
 have plL : ∀ (σ : List Ob) (rows : List (List D)), mapO (pull1 true [0, 1, 2, 3] σ) (R.set j (.list none false rows)) = some (R.set j (.list none false rows)) := fun σ rows => pull_pt hpt rfl
 have allL : ∀ rows : List (List D), (R.set j (.list none false rows)).all D.pt1 = true := fun rows => all_set hpt rfl
 have hz' : (j + 1 ≤ sz) = True := eq_true (by omega)
 repeat' ((first | apply Run_seq | apply Run_skip | apply Run_block | apply Run_blk | refine Run_exit rfl ?_ | apply Run_ret | apply Run_nil | apply Run_condK | apply Run_ops mixed | apply Run_opsX mixed | (with_reducible first | refine PostG_open ?_ | refine ro_callA' (f := .c (.fn 53 [])) ?_ | refine ro_callV ?_ | refine CallE_use (hn) (by simp) ?_) | simp (disch := omega) only [wu64] | ((first | refine GuardK_split ?_ ?_ | refine CondK_split ?_ ?_) <;> intro hc <;> (try simp only [hc]) <;> try simp at hc) | (with_reducible refine ⟨?_, ?_⟩; (focus ((repeat' with_reducible refine ⟨?_, ?_⟩) <;> first | exact trivial | assumption | (simp; done) | (simp only [List.length_map] at *; omega) | omega | (simp [fs]; done) | exact r8_sz))) | (with_reducible intro x hx) | omega) <;> (try simp only [hR, z0, Nat.reduceBEq, reduceIte, Nat.reduceEqDiff, Nat.reduceAdd, Nat.reduceSub, Nat.reduceLT, reduceCtorEq, cond_false, ne_eq, fw, fd]))
 refine Run_ent (Ent_accC (l := 2) (j := 0) (i := j) (b := true) 1 true (by decide) rfl rfl rfl rfl hR) ?_
 refine Run_loop (ι := {p : Nat × Rs × List Int // rowGo rTs p.1 p.2.1 p.2.2 = X ∧ p.2.2.length + p.1 = n ∧ p.2.1.l.length ≤ s0.l.length}) (fun p => ([(0, .ptr 0 0 0 1), (1, .ptr 2 0 j 1), (3, .fn 105 [.ptr 3 0 0 1]), (42, .int .u64 n), (43, .int .u64 p.1.2.2.length)],
  [Cr 1 p.1.2.1.cb, Rd p.1.2.1.l p.1.2.1.rb, ⟨true, false, false, false, sz, [R.set j (.own 4 0 p.1.2.2.length p.1.2.2.length 1 none)], some 0⟩, Bx 0, acc true 1 true (row1 .i64 p.1.2.2)])) (fun p => p.1.1) ⟨(n, s0, []), hX, by simp, Nat.le_refl _⟩ ?_ ?_
 ·simp only [List.length_nil, show row1 .i64 [] = [] from rfl]
  refine Ent_gc [0, 1, 2, 3, 5] (by rfl) (by simp) (by simp [pl5, fg]) (by simp [fg])
  skip
 rintro ⟨⟨k, s1, xs⟩, hk1, hk2, hk3⟩ hk
 dsimp only at hk1 hk2 hk3 hk ⊢
 -- a row that is done is told by its rows
 have fin : ∀ (env : Env) (ys : List Int) (s2 : Rs) (ex : List Ob), Ent [Cr 1 s.cb, Rd s.l s.rb, Va sz R, Bx 0] env (Cr 1 s2.cb :: Rd s2.l s2.rb :: ⟨true, false, false, false, sz, [R.set j (.own 4 0 ys.length ys.length 1 none)], some 0⟩ :: Bx 0 :: acc true 1 true (row1 .i64 ys) :: ex) env
   (Cr 1 s2.cb :: Rd s2.l s2.rb :: ⟨true, false, false, false, sz, [R.set j (L (row1 .i64 ys))], some 0⟩ :: Bx 0 :: { acc true 1 true (row1 .i64 ys) with fz := true } :: ex) := fun env ys s2 ex => by
  refine Ent.trans (Ent_freeze 4) ?_
  have := Ent_cellF (base := [Cr 1 s.cb, Rd s.l s.rb, Va sz R, Bx 0]) (env := env) (σ := Cr 1 s2.cb :: Rd s2.l s2.rb :: ⟨true, false, false, false, sz, [R.set j (.own 4 0 ys.length ys.length 1 none)], some 0⟩ :: Bx 0 :: { acc true 1 true (row1 .i64 ys) with fz := true } :: ex) (l := 2) (j := 0) (i := j) (m := 4) (rows := row1 .i64 ys) rfl rfl rfl rfl (own1 _) rfl rfl (by
   rw [viewS_own']
   show viewO (some _) _ _ _ = _
   rw [viewO_some]
   simp [acc_rows, acc_pure, row1_len, winD_all])
  simp only [List.set_cons_zero, List.set_cons_succ, List.set_set] at this
  exact this
 by_cases hlt : 0 < k
 ·obtain ⟨k, rfl⟩ : ∃ k', k = k' + 1 := ⟨k - 1, by omega⟩
  have c1 : (((xs.length : Nat) : Int) < ((n : Nat) : Int)) = True := by simp; omega
  have he := elTs_r s1 (by omega)
  have hle := rTs_le s1
  unfold rowGo at hk1
  generalize rTs s1 = q at he hk1 hle
  obtain ⟨v, s2⟩ := q
  dsimp only at he hk1 hle
  have hcell : cTs v = [.int .i64 v] := rfl
  rw [hcell] at he
  by_cases hb : s2.rb = true ∨ s2.cb = true
  ·rw [if_pos hb] at hk1
   rw [← hk1]
   obtain ⟨l2, rb2, cb2⟩ := s2
   dsimp only at he hb ⊢
   cases rb2
   ·obtain rfl : cb2 = true := by simpa using hb
    repeat' ((first | apply Run_seq | apply Run_skip | apply Run_block | apply Run_blk | refine Run_exit rfl ?_ | apply Run_nil | apply Run_condK | apply Run_ops mixed | apply Run_opsX mixed | (with_reducible first | refine PostG_open ?_ | refine ro_callA' (f := .t 45) ?_ | refine ro_callV ?_ | refine CallE_use (he) (by simp) ?_) | refine CallV_pure (bad_p _ _) ?_ ?_ | simp (disch := omega) only [w64, wu64, wu32, wu16, wu8, Int.tdiv_eq_ediv_of_nonneg, Int.tmod_eq_emod_of_nonneg] | ((first | refine GuardK_split ?_ ?_ | refine CondK_split ?_ ?_) <;> intro hc <;> (try simp only [hc]) <;> try simp at hc) | (with_reducible refine ⟨?_, ?_⟩; (focus ((repeat' with_reducible refine ⟨?_, ?_⟩) <;> first | exact trivial | assumption | (simp; done) | (simp only [List.length_map] at *; omega) | omega | (simp [fs]; done) | exact r8_sz))) | (with_reducible intro x hx) | omega) <;> (try simp only [c1, Nat.reduceBEq, reduceIte, Nat.reduceEqDiff, Nat.reduceAdd, Nat.reduceSub, Nat.reduceLT, reduceCtorEq, cond_false, ne_eq, fw, fd]))
    refine Run_ent (fin _ xs ⟨l2, false, true⟩ [Va 1 [.int .i64 v]]) ?_
    repeat' ((first | apply Run_seq | apply Run_skip | apply Run_block | apply Run_blk | refine Run_exit rfl ?_ | apply Run_ret | apply Run_nil | apply Run_condK | apply Run_ops mixed | apply Run_opsX mixed | (with_reducible first | refine PostG_open ?_ | refine ro_callV ?_) | simp (disch := omega) only [w64, wu64, wu32, wu16, wu8, Int.tdiv_eq_ediv_of_nonneg, Int.tmod_eq_emod_of_nonneg] | ((first | refine GuardK_split ?_ ?_ | refine CondK_split ?_ ?_) <;> intro hc <;> (try simp only [hc]) <;> try simp at hc) | (with_reducible refine ⟨?_, ?_⟩; (focus ((repeat' with_reducible refine ⟨?_, ?_⟩) <;> first | exact trivial | assumption | (simp; done) | (simp only [List.length_map] at *; omega) | omega | (simp [fs]; done) | exact r8_sz))) | (with_reducible intro x hx) | omega) <;> (try simp only [ofRes, fw]))
    refine GcTo_own [0, 1, 2, 3] (by rfl) (by simp) (by simp [plL, allL, fg])
   ·repeat' ((first | apply Run_seq | apply Run_skip | apply Run_block | apply Run_blk | refine Run_exit rfl ?_ | apply Run_nil | apply Run_condK | apply Run_ops mixed | apply Run_opsX mixed | (with_reducible first | refine PostG_open ?_ | refine ro_callA' (f := .t 45) ?_ | refine ro_callV ?_ | refine CallE_use (he) (by simp) ?_) | refine CallV_pure (bad_p _ _) ?_ ?_ | simp (disch := omega) only [w64, wu64, wu32, wu16, wu8, Int.tdiv_eq_ediv_of_nonneg, Int.tmod_eq_emod_of_nonneg] | ((first | refine GuardK_split ?_ ?_ | refine CondK_split ?_ ?_) <;> intro hc <;> (try simp only [hc]) <;> try simp at hc) | (with_reducible refine ⟨?_, ?_⟩; (focus ((repeat' with_reducible refine ⟨?_, ?_⟩) <;> first | exact trivial | assumption | (simp; done) | (simp only [List.length_map] at *; omega) | omega | (simp [fs]; done) | exact r8_sz))) | (with_reducible intro x hx) | omega) <;> (try simp only [c1, Nat.reduceBEq, reduceIte, Nat.reduceEqDiff, Nat.reduceAdd, Nat.reduceSub, Nat.reduceLT, reduceCtorEq, cond_true, ne_eq, fw, fd]))
    refine Run_ent (fin _ xs ⟨l2, true, cb2⟩ [Va 1 [.int .i64 v]]) ?_
    repeat' ((first | apply Run_seq | apply Run_skip | apply Run_block | apply Run_blk | refine Run_exit rfl ?_ | apply Run_ret | apply Run_nil | apply Run_condK | apply Run_ops mixed | apply Run_opsX mixed | (with_reducible first | refine PostG_open ?_ | refine ro_callV ?_) | simp (disch := omega) only [w64, wu64, wu32, wu16, wu8, Int.tdiv_eq_ediv_of_nonneg, Int.tmod_eq_emod_of_nonneg] | ((first | refine GuardK_split ?_ ?_ | refine CondK_split ?_ ?_) <;> intro hc <;> (try simp only [hc]) <;> try simp at hc) | (with_reducible refine ⟨?_, ?_⟩; (focus ((repeat' with_reducible refine ⟨?_, ?_⟩) <;> first | exact trivial | assumption | (simp; done) | (simp only [List.length_map] at *; omega) | omega | (simp [fs]; done) | exact r8_sz))) | (with_reducible intro x hx) | omega) <;> (try simp only [ofRes, fw]))
    refine GcTo_own [0, 1, 2, 3] (by rfl) (by simp) (by simp [plL, allL, fg])
  ·rw [if_neg hb] at hk1
   obtain ⟨l2, rb2, cb2⟩ := s2
   dsimp only at he hb hle hk1 ⊢
   obtain ⟨rfl, rfl⟩ : rb2 = false ∧ cb2 = false := by simpa using hb
   have hu : row1 .i64 xs ++ [[.int .i64 v]] = row1 .i64 (xs ++ [v]) := by simp [row1]
   repeat' ((first | apply Run_seq | apply Run_skip | apply Run_block | apply Run_blk | refine Run_exit rfl ?_ | apply Run_ret | apply Run_nil | apply Run_condK | apply Run_ops mixed | apply Run_opsX mixed | (with_reducible first | refine PostG_open ?_ | refine ro_callA' (f := .t 45) ?_ | refine ro_callV ?_ | refine CallE_use (he) (by simp) ?_) | refine CallV_pure (bad_p _ _) ?_ ?_ | simp (disch := omega) only [wu64] | ((first | refine GuardK_split ?_ ?_ | refine CondK_split ?_ ?_) <;> intro hc <;> (try simp only [hc]) <;> try simp at hc) | (with_reducible refine ⟨?_, ?_⟩; (focus ((repeat' with_reducible refine ⟨?_, ?_⟩) <;> first | exact trivial | assumption | (simp; done) | omega | (simp [fs]; done) | exact r8_sz))) | (with_reducible intro x hx) | omega) <;> (try simp only [row1_len, c1, own1, own2, hz', hu, Nat.reduceBEq, reduceIte, Nat.reduceEqDiff, Nat.reduceAdd, Nat.reduceSub, Nat.reduceLT, Nat.reduceLeDiff, reduceCtorEq, cond_false, ne_eq, fw, fd]))
   refine hk ⟨(k, ⟨l2, false, false⟩, xs ++ [v]), hk1, by rw [List.length_append, List.length_cons, List.length_nil]; omega, by dsimp only; omega⟩ _ _ (by dsimp only; omega) ?_
   dsimp only
   simp only [List.length_append, List.length_cons, List.length_nil]
   refine Ent_gc [0, 1, 2, 3, 4] (by rfl) (by simp) (by simp [pl4, fg]) (by simp [fg])
   skip
 ·obtain rfl : k = 0 := by omega
  have c1 : (((xs.length : Nat) : Int) < ((n : Nat) : Int)) = False := by simp; omega
  unfold rowGo at hk1
  rw [← hk1]
  dsimp only
  refine Run_ent (fin _ xs s1 []) ?_
  repeat' ((first | apply Run_seq | apply Run_skip | apply Run_block | apply Run_blk | refine Run_exit rfl ?_ | apply Run_ret | apply Run_nil | apply Run_condK | apply Run_ops mixed | apply Run_opsX mixed | (with_reducible first | refine PostG_open ?_ | refine ro_callV ?_) | simp (disch := omega) only [w64, wu64, wu32, wu16, wu8, Int.tdiv_eq_ediv_of_nonneg, Int.tmod_eq_emod_of_nonneg] | ((first | refine GuardK_split ?_ ?_ | refine CondK_split ?_ ?_) <;> intro hc <;> (try simp only [hc]) <;> try simp at hc) | (with_reducible refine ⟨?_, ?_⟩; (focus ((repeat' with_reducible refine ⟨?_, ?_⟩) <;> first | exact trivial | assumption | (simp; done) | (simp only [List.length_map] at *; omega) | omega | (simp [fs]; done) | exact r8_sz))) | (with_reducible intro x hx) | omega) <;> (try simp only [c1, Nat.reduceBEq, reduceIte, binD, binInt, ofRes, fw]))
  refine GcTo_own [0, 1, 2, 3] (by rfl) (by simp) (by simp [plL, allL, fg])
  skip
def rVo (s : Rs) : (Int × Int) × Rs := ((((rqN 4294967295 s).1 : Int), ((rqN 40 (rqN 4294967295 s).2).1 : Int)), (rqN 40 (rqN 4294967295 s).2).2)
theorem rVo_le (s : Rs) : (rVo s).2.l.length ≤ s.l.length := Nat.le_trans ((rqN_le _ (by omega) _).1) ((rqN_le _ (by omega) _).1)
theorem elVo_r (s : Rs) (hl : s.l.length ≤ 1099511627776) :
  CallG Tryz.prog 107 [.ptr 0 0 0 1, .ptr 1 0 0 1] [Va 2 [.int .u32 0, .int .i64 0], Bx 2, Cr 3 s.cb, Rd s.l s.rb] (.tup [])
   [Va 2 (cVo (rVo s).1), Bx 2, Cr 3 (rVo s).2.cb, Rd (rVo s).2.l (rVo s).2.rb] := by
 refine callG Tryz.func107 low107 (by simp [c107]) ?_
 simp only [c107]
 unfold rVo
 have g1 := (rqN_le 4294967295 (by omega) s).1
 have h1 : CallG Tryz.prog 78 [.ptr 0 0 0 1, .ptr 2 0 0 1] [Cr 1 s.cb, Rd s.l s.rb, Va 2 [.int .u32 0, .int .i64 0]] (.tup []) [Cr 1 (rqN 4294967295 s).2.cb, Rd (rqN 4294967295 s).2.l (rqN 4294967295 s).2.rb, Va 2 [.int .u32 (rqN 4294967295 s).1, .int .i64 0]] := name_r s.l s.rb s.cb 2 [.int .u32 0, .int .i64 0] 0 rfl (by omega) (by omega)
 generalize rqN 4294967295 s = q1 at h1 g1 ⊢
 obtain ⟨v1, s1⟩ := q1
 dsimp only at h1 g1 ⊢
 have g2 := (rqN_le 40 (by omega) s1).1
 have h2 : CallG Tryz.prog 57 [.ptr 0 0 0 1, .ptr 2 0 1 1, .int .u64 40] [Cr 1 s1.cb, Rd s1.l s1.rb, Va 2 [.int .u32 v1, .int .i64 0]] (.tup []) [Cr 1 (rqN 40 s1).2.cb, Rd (rqN 40 s1).2.l (rqN 40 s1).2.rb, Va 2 [.int .u32 v1, .int .i64 (rqN 40 s1).1]] := numI_r s1.l s1.rb s1.cb 2 [.int .u32 v1, .int .i64 0] 1 40 rfl (by omega) (by omega) (by omega)
 generalize rqN 40 s1 = q2 at h2 g2 ⊢
 obtain ⟨v2, s2⟩ := q2
 dsimp only at h2 g2 ⊢
 have hc : cVo ((v1 : Int), (v2 : Int)) = [.int .u32 v1, .int .i64 v2] := rfl
 rw [hc]
 repeat' ((first | apply Run_seq | apply Run_ret | apply Run_nil | apply Run_opsX mixed | (with_reducible first | refine PostG_open ?_ | refine ro_callA (f := .c (.fn 78 [])) ?_ | refine ro_callA (f := .c (.fn 57 [])) ?_ | refine ro_callVX ?_ | refine CallE_use (h1) (by simp) ?_ | refine CallE_use (h2) (by simp) ?_) | (with_reducible refine ⟨?_, ?_⟩; (focus ((repeat' with_reducible refine ⟨?_, ?_⟩) <;> first | exact trivial | assumption | (simp; done) | (simp only [List.length_map] at *; omega) | omega | (simp [fs]; done) | exact r8_sz))) | (with_reducible intro x hx) | omega) <;> (try simp only [Nat.reduceBEq, reduceIte, Nat.reduceEqDiff, Nat.reduceAdd, Nat.reduceSub, Nat.reduceLT, reduceCtorEq, fw, fd]))
 refine GcTo_own [0, 1, 2, 3] (by rfl) (by simp) (by simp [fg])
set_option maxHeartbeats 4000000 in
theorem rowVo_r (s : Rs) (sz : Nat) (R : List D) (j most : Nat) (hR : R[j]? = some (.list (some true) true [])) (hz : R.length = sz) (hm : most < 1000000) (hl : s.l.length ≤ 1099511627776) :
  CallG Tryz.prog 106 [.ptr 0 0 0 1, .ptr 2 0 j 1, .int .i64 most, .fn 107 [.ptr 3 0 0 1]] [Cr 1 s.cb, Rd s.l s.rb, Va sz R, Bx 0] (.tup [])
   [Cr 1 (rRow rVo most s).2.cb, Rd (rRow rVo most s).2.l (rRow rVo most s).2.rb, Va sz (R.set j (L (row2 .u32 .i64 (rRow rVo most s).1))), Bx 0] := by
 refine callG Tryz.func106 low106 (by simp [c106]) ?_
 simp only [c106]
 have hn : CallG Tryz.prog 53 [.ptr 0 0 0 1, .ptr 2 0 0 1, .int .u64 most] [Cr 1 s.cb, Rd s.l s.rb, Va 1 [.int .u64 0]] (.tup []) [Cr 1 (rqN most s).2.cb, Rd (rqN most s).2.l (rqN most s).2.rb, Va 1 [.int .u64 (rqN most s).1]] := numQ_r s.l s.rb s.cb 1 [.int .u64 0] 0 most rfl (by omega) (by omega) hl
 obtain ⟨X, hX⟩ : ∃ X, rRow rVo most s = X := ⟨_, rfl⟩
 rw [hX]
 unfold rRow at hX
 obtain ⟨g1, g2⟩ := rqN_le most (by omega) s
 generalize rqN most s = q at hn hX g1 g2
 obtain ⟨n, s0⟩ := q
 dsimp only at hn hX g1 g2
 have hj : j < R.length := (List.getElem?_eq_some_iff.1 hR).1
 have z0 : (((0 : Nat) : Int)) = 0 := rfl
 refine Run_pure 2 rfl rfl fun hpt => ?_
 have hpt : ∀ x ∈ R, x.pt1 = true := fun x hx => hpt R (by simp) x hx
 have own1 : ∀ d : D, (R.set j d)[j]? = some d := fun d => by rw [List.getElem?_set_self hj]
 have own2 : ∀ d e : D, (R.set j d).take j ++ [e] ++ (R.set j d).drop (j + 1) = R.set j e := fun d e => by
  rw [spl1 (by rw [List.length_set]; exact hj), List.set_set]
 have pl5 : ∀ (σ : List Ob) (k n : Nat), mapO (pull1 true [0, 1, 2, 3, 5] σ) (R.set j (.own 5 0 k n 2 none)) = some (R.set j (.own 4 0 k n 2 none)) := fun σ k n => pull_own hpt rfl
 have pl4 : ∀ (σ : List Ob) (k n : Nat), mapO (pull1 true [0, 1, 2, 3, 4] σ) (R.set j (.own 4 0 k n 2 none)) = some (R.set j (.own 4 0 k n 2 none)) := fun σ k n => pull_own hpt rfl
 have plL : ∀ (σ : List Ob) (rows : List (List D)), mapO (pull1 true [0, 1, 2, 3] σ) (R.set j (.list none false rows)) = some (R.set j (.list none false rows)) := fun σ rows => pull_pt hpt rfl
 have allL : ∀ rows : List (List D), (R.set j (.list none false rows)).all D.pt1 = true := fun rows => all_set hpt rfl
 have hz' : (j + 1 ≤ sz) = True := eq_true (by omega)
 repeat' ((first | apply Run_seq | apply Run_skip | apply Run_block | apply Run_blk | refine Run_exit rfl ?_ | apply Run_ret | apply Run_nil | apply Run_condK | apply Run_ops mixed | apply Run_opsX mixed | (with_reducible first | refine PostG_open ?_ | refine ro_callA' (f := .c (.fn 53 [])) ?_ | refine ro_callV ?_ | refine CallE_use (hn) (by simp) ?_) | simp (disch := omega) only [wu64] | ((first | refine GuardK_split ?_ ?_ | refine CondK_split ?_ ?_) <;> intro hc <;> (try simp only [hc]) <;> try simp at hc) | (with_reducible refine ⟨?_, ?_⟩; (focus ((repeat' with_reducible refine ⟨?_, ?_⟩) <;> first | exact trivial | assumption | (simp; done) | (simp only [List.length_map] at *; omega) | omega | (simp [fs]; done) | exact r8_sz))) | (with_reducible intro x hx) | omega) <;> (try simp only [hR, z0, Nat.reduceBEq, reduceIte, Nat.reduceEqDiff, Nat.reduceAdd, Nat.reduceSub, Nat.reduceLT, reduceCtorEq, cond_false, ne_eq, fw, fd]))
 refine Run_ent (Ent_accC (l := 2) (j := 0) (i := j) (b := true) 2 true (by decide) rfl rfl rfl rfl hR) ?_
 refine Run_loop (ι := {p : Nat × Rs × List (Int × Int) // rowGo rVo p.1 p.2.1 p.2.2 = X ∧ p.2.2.length + p.1 = n ∧ p.2.1.l.length ≤ s0.l.length}) (fun p => ([(0, .ptr 0 0 0 1), (1, .ptr 2 0 j 1), (3, .fn 107 [.ptr 3 0 0 1]), (42, .int .u64 n), (43, .int .u64 p.1.2.2.length)],
  [Cr 1 p.1.2.1.cb, Rd p.1.2.1.l p.1.2.1.rb, ⟨true, false, false, false, sz, [R.set j (.own 4 0 p.1.2.2.length p.1.2.2.length 2 none)], some 0⟩, Bx 0, acc true 2 true (row2 .u32 .i64 p.1.2.2)])) (fun p => p.1.1) ⟨(n, s0, []), hX, by simp, Nat.le_refl _⟩ ?_ ?_
 ·simp only [List.length_nil, show row2 .u32 .i64 [] = [] from rfl]
  refine Ent_gc [0, 1, 2, 3, 5] (by rfl) (by simp) (by simp [pl5, fg]) (by simp [fg])
  skip
 rintro ⟨⟨k, s1, xs⟩, hk1, hk2, hk3⟩ hk
 dsimp only at hk1 hk2 hk3 hk ⊢
 -- a row that is done is told by its rows
 have fin : ∀ (env : Env) (ys : List (Int × Int)) (s2 : Rs) (ex : List Ob), Ent [Cr 1 s.cb, Rd s.l s.rb, Va sz R, Bx 0] env (Cr 1 s2.cb :: Rd s2.l s2.rb :: ⟨true, false, false, false, sz, [R.set j (.own 4 0 ys.length ys.length 2 none)], some 0⟩ :: Bx 0 :: acc true 2 true (row2 .u32 .i64 ys) :: ex) env
   (Cr 1 s2.cb :: Rd s2.l s2.rb :: ⟨true, false, false, false, sz, [R.set j (L (row2 .u32 .i64 ys))], some 0⟩ :: Bx 0 :: { acc true 2 true (row2 .u32 .i64 ys) with fz := true } :: ex) := fun env ys s2 ex => by
  refine Ent.trans (Ent_freeze 4) ?_
  have := Ent_cellF (base := [Cr 1 s.cb, Rd s.l s.rb, Va sz R, Bx 0]) (env := env) (σ := Cr 1 s2.cb :: Rd s2.l s2.rb :: ⟨true, false, false, false, sz, [R.set j (.own 4 0 ys.length ys.length 2 none)], some 0⟩ :: Bx 0 :: { acc true 2 true (row2 .u32 .i64 ys) with fz := true } :: ex) (l := 2) (j := 0) (i := j) (m := 4) (rows := row2 .u32 .i64 ys) rfl rfl rfl rfl (own1 _) rfl rfl (by
   rw [viewS_own']
   show viewO (some _) _ _ _ = _
   rw [viewO_some]
   simp [acc_rows, acc_pure, row2_len, winD_all])
  simp only [List.set_cons_zero, List.set_cons_succ, List.set_set] at this
  exact this
 by_cases hlt : 0 < k
 ·obtain ⟨k, rfl⟩ : ∃ k', k = k' + 1 := ⟨k - 1, by omega⟩
  have c1 : (((xs.length : Nat) : Int) < ((n : Nat) : Int)) = True := by simp; omega
  have he := elVo_r s1 (by omega)
  have hle := rVo_le s1
  unfold rowGo at hk1
  generalize rVo s1 = q at he hk1 hle
  obtain ⟨v, s2⟩ := q
  dsimp only at he hk1 hle
  have hcell : cVo v = [.int .u32 v.1, .int .i64 v.2] := rfl
  rw [hcell] at he
  by_cases hb : s2.rb = true ∨ s2.cb = true
  ·rw [if_pos hb] at hk1
   rw [← hk1]
   obtain ⟨l2, rb2, cb2⟩ := s2
   dsimp only at he hb ⊢
   cases rb2
   ·obtain rfl : cb2 = true := by simpa using hb
    repeat' ((first | apply Run_seq | apply Run_skip | apply Run_block | apply Run_blk | refine Run_exit rfl ?_ | apply Run_nil | apply Run_condK | apply Run_ops mixed | apply Run_opsX mixed | (with_reducible first | refine PostG_open ?_ | refine ro_callA' (f := .t 45) ?_ | refine ro_callV ?_ | refine CallE_use (he) (by simp) ?_) | refine CallV_pure (bad_p _ _) ?_ ?_ | simp (disch := omega) only [w64, wu64, wu32, wu16, wu8, Int.tdiv_eq_ediv_of_nonneg, Int.tmod_eq_emod_of_nonneg] | ((first | refine GuardK_split ?_ ?_ | refine CondK_split ?_ ?_) <;> intro hc <;> (try simp only [hc]) <;> try simp at hc) | (with_reducible refine ⟨?_, ?_⟩; (focus ((repeat' with_reducible refine ⟨?_, ?_⟩) <;> first | exact trivial | assumption | (simp; done) | (simp only [List.length_map] at *; omega) | omega | (simp [fs]; done) | exact r8_sz))) | (with_reducible intro x hx) | omega) <;> (try simp only [c1, Nat.reduceBEq, reduceIte, Nat.reduceEqDiff, Nat.reduceAdd, Nat.reduceSub, Nat.reduceLT, reduceCtorEq, cond_false, ne_eq, fw, fd]))
    refine Run_ent (fin _ xs ⟨l2, false, true⟩ [Va 2 [.int .u32 v.1, .int .i64 v.2]]) ?_
    repeat' ((first | apply Run_seq | apply Run_skip | apply Run_block | apply Run_blk | refine Run_exit rfl ?_ | apply Run_ret | apply Run_nil | apply Run_condK | apply Run_ops mixed | apply Run_opsX mixed | (with_reducible first | refine PostG_open ?_ | refine ro_callV ?_) | simp (disch := omega) only [w64, wu64, wu32, wu16, wu8, Int.tdiv_eq_ediv_of_nonneg, Int.tmod_eq_emod_of_nonneg] | ((first | refine GuardK_split ?_ ?_ | refine CondK_split ?_ ?_) <;> intro hc <;> (try simp only [hc]) <;> try simp at hc) | (with_reducible refine ⟨?_, ?_⟩; (focus ((repeat' with_reducible refine ⟨?_, ?_⟩) <;> first | exact trivial | assumption | (simp; done) | (simp only [List.length_map] at *; omega) | omega | (simp [fs]; done) | exact r8_sz))) | (with_reducible intro x hx) | omega) <;> (try simp only [ofRes, fw]))
    refine GcTo_own [0, 1, 2, 3] (by rfl) (by simp) (by simp [plL, allL, fg])
   ·repeat' ((first | apply Run_seq | apply Run_skip | apply Run_block | apply Run_blk | refine Run_exit rfl ?_ | apply Run_nil | apply Run_condK | apply Run_ops mixed | apply Run_opsX mixed | (with_reducible first | refine PostG_open ?_ | refine ro_callA' (f := .t 45) ?_ | refine ro_callV ?_ | refine CallE_use (he) (by simp) ?_) | refine CallV_pure (bad_p _ _) ?_ ?_ | simp (disch := omega) only [w64, wu64, wu32, wu16, wu8, Int.tdiv_eq_ediv_of_nonneg, Int.tmod_eq_emod_of_nonneg] | ((first | refine GuardK_split ?_ ?_ | refine CondK_split ?_ ?_) <;> intro hc <;> (try simp only [hc]) <;> try simp at hc) | (with_reducible refine ⟨?_, ?_⟩; (focus ((repeat' with_reducible refine ⟨?_, ?_⟩) <;> first | exact trivial | assumption | (simp; done) | (simp only [List.length_map] at *; omega) | omega | (simp [fs]; done) | exact r8_sz))) | (with_reducible intro x hx) | omega) <;> (try simp only [c1, Nat.reduceBEq, reduceIte, Nat.reduceEqDiff, Nat.reduceAdd, Nat.reduceSub, Nat.reduceLT, reduceCtorEq, cond_true, ne_eq, fw, fd]))
    refine Run_ent (fin _ xs ⟨l2, true, cb2⟩ [Va 2 [.int .u32 v.1, .int .i64 v.2]]) ?_
    repeat' ((first | apply Run_seq | apply Run_skip | apply Run_block | apply Run_blk | refine Run_exit rfl ?_ | apply Run_ret | apply Run_nil | apply Run_condK | apply Run_ops mixed | apply Run_opsX mixed | (with_reducible first | refine PostG_open ?_ | refine ro_callV ?_) | simp (disch := omega) only [w64, wu64, wu32, wu16, wu8, Int.tdiv_eq_ediv_of_nonneg, Int.tmod_eq_emod_of_nonneg] | ((first | refine GuardK_split ?_ ?_ | refine CondK_split ?_ ?_) <;> intro hc <;> (try simp only [hc]) <;> try simp at hc) | (with_reducible refine ⟨?_, ?_⟩; (focus ((repeat' with_reducible refine ⟨?_, ?_⟩) <;> first | exact trivial | assumption | (simp; done) | (simp only [List.length_map] at *; omega) | omega | (simp [fs]; done) | exact r8_sz))) | (with_reducible intro x hx) | omega) <;> (try simp only [ofRes, fw]))
    refine GcTo_own [0, 1, 2, 3] (by rfl) (by simp) (by simp [plL, allL, fg])
  ·rw [if_neg hb] at hk1
   obtain ⟨l2, rb2, cb2⟩ := s2
   dsimp only at he hb hle hk1 ⊢
   obtain ⟨rfl, rfl⟩ : rb2 = false ∧ cb2 = false := by simpa using hb
   have hu : row2 .u32 .i64 xs ++ [[.int .u32 v.1, .int .i64 v.2]] = row2 .u32 .i64 (xs ++ [v]) := by simp [row2]
   repeat' ((first | apply Run_seq | apply Run_skip | apply Run_block | apply Run_blk | refine Run_exit rfl ?_ | apply Run_ret | apply Run_nil | apply Run_condK | apply Run_ops mixed | apply Run_opsX mixed | (with_reducible first | refine PostG_open ?_ | refine ro_callA' (f := .t 45) ?_ | refine ro_callV ?_ | refine CallE_use (he) (by simp) ?_) | refine CallV_pure (bad_p _ _) ?_ ?_ | simp (disch := omega) only [wu64] | ((first | refine GuardK_split ?_ ?_ | refine CondK_split ?_ ?_) <;> intro hc <;> (try simp only [hc]) <;> try simp at hc) | (with_reducible refine ⟨?_, ?_⟩; (focus ((repeat' with_reducible refine ⟨?_, ?_⟩) <;> first | exact trivial | assumption | (simp; done) | omega | (simp [fs]; done) | exact r8_sz))) | (with_reducible intro x hx) | omega) <;> (try simp only [row2_len, c1, own1, own2, hz', hu, Nat.reduceBEq, reduceIte, Nat.reduceEqDiff, Nat.reduceAdd, Nat.reduceSub, Nat.reduceLT, Nat.reduceLeDiff, reduceCtorEq, cond_false, ne_eq, fw, fd]))
   refine hk ⟨(k, ⟨l2, false, false⟩, xs ++ [v]), hk1, by rw [List.length_append, List.length_cons, List.length_nil]; omega, by dsimp only; omega⟩ _ _ (by dsimp only; omega) ?_
   dsimp only
   simp only [List.length_append, List.length_cons, List.length_nil]
   refine Ent_gc [0, 1, 2, 3, 4] (by rfl) (by simp) (by simp [pl4, fg]) (by simp [fg])
   skip
 ·obtain rfl : k = 0 := by omega
  have c1 : (((xs.length : Nat) : Int) < ((n : Nat) : Int)) = False := by simp; omega
  unfold rowGo at hk1
  rw [← hk1]
  dsimp only
  refine Run_ent (fin _ xs s1 []) ?_
  repeat' ((first | apply Run_seq | apply Run_skip | apply Run_block | apply Run_blk | refine Run_exit rfl ?_ | apply Run_ret | apply Run_nil | apply Run_condK | apply Run_ops mixed | apply Run_opsX mixed | (with_reducible first | refine PostG_open ?_ | refine ro_callV ?_) | simp (disch := omega) only [w64, wu64, wu32, wu16, wu8, Int.tdiv_eq_ediv_of_nonneg, Int.tmod_eq_emod_of_nonneg] | ((first | refine GuardK_split ?_ ?_ | refine CondK_split ?_ ?_) <;> intro hc <;> (try simp only [hc]) <;> try simp at hc) | (with_reducible refine ⟨?_, ?_⟩; (focus ((repeat' with_reducible refine ⟨?_, ?_⟩) <;> first | exact trivial | assumption | (simp; done) | (simp only [List.length_map] at *; omega) | omega | (simp [fs]; done) | exact r8_sz))) | (with_reducible intro x hx) | omega) <;> (try simp only [c1, Nat.reduceBEq, reduceIte, binD, binInt, ofRes, fw]))
  refine GcTo_own [0, 1, 2, 3] (by rfl) (by simp) (by simp [plL, allL, fg])
  skip
def rSl (s : Rs) : (Int × Int × Int) × Rs := ((((rqM s).1 : Int), ((rqN 100000 (rqM s).2).1 : Int), ((rqN 100 (rqN 100000 (rqM s).2).2).1 : Int)), (rqN 100 (rqN 100000 (rqM s).2).2).2)
theorem rSl_le (s : Rs) : (rSl s).2.l.length ≤ s.l.length := Nat.le_trans (Nat.le_trans ((rqN_le _ (by omega) _).1) ((rqN_le _ (by omega) _).1)) (rqM_le _)
theorem elSl_r (s : Rs) (hl : s.l.length ≤ 1099511627776) :
  CallG Tryz.prog 55 [.ptr 0 0 0 1, .ptr 1 0 0 1] [Va 3 [.int .i64 0, .int .i64 0, .int .i64 0], Bx 2, Cr 3 s.cb, Rd s.l s.rb] (.tup [])
   [Va 3 (cSl (rSl s).1), Bx 2, Cr 3 (rSl s).2.cb, Rd (rSl s).2.l (rSl s).2.rb] := by
 refine callG Tryz.func55 low55 (by simp [c55]) ?_
 simp only [c55]
 unfold rSl
 have g1 := rqM_le s
 have h1 : CallG Tryz.prog 56 [.ptr 0 0 0 1, .ptr 2 0 0 1] [Cr 1 s.cb, Rd s.l s.rb, Va 3 [.int .i64 0, .int .i64 0, .int .i64 0]] (.tup []) [Cr 1 (rqM s).2.cb, Rd (rqM s).2.l (rqM s).2.rb, Va 3 [.int .i64 (rqM s).1, .int .i64 0, .int .i64 0]] := minutes_r s.l s.rb s.cb 3 [.int .i64 0, .int .i64 0, .int .i64 0] 0 rfl (by omega) (by omega)
 generalize rqM s = q1 at h1 g1 ⊢
 obtain ⟨v1, s1⟩ := q1
 dsimp only at h1 g1 ⊢
 have g2 := (rqN_le 100000 (by omega) s1).1
 have h2 : CallG Tryz.prog 57 [.ptr 0 0 0 1, .ptr 2 0 1 1, .int .u64 100000] [Cr 1 s1.cb, Rd s1.l s1.rb, Va 3 [.int .i64 v1, .int .i64 0, .int .i64 0]] (.tup []) [Cr 1 (rqN 100000 s1).2.cb, Rd (rqN 100000 s1).2.l (rqN 100000 s1).2.rb, Va 3 [.int .i64 v1, .int .i64 (rqN 100000 s1).1, .int .i64 0]] := numI_r s1.l s1.rb s1.cb 3 [.int .i64 v1, .int .i64 0, .int .i64 0] 1 100000 rfl (by omega) (by omega) (by omega)
 generalize rqN 100000 s1 = q2 at h2 g2 ⊢
 obtain ⟨v2, s2⟩ := q2
 dsimp only at h2 g2 ⊢
 have g3 := (rqN_le 100 (by omega) s2).1
 have h3 : CallG Tryz.prog 57 [.ptr 0 0 0 1, .ptr 2 0 2 1, .int .u64 100] [Cr 1 s2.cb, Rd s2.l s2.rb, Va 3 [.int .i64 v1, .int .i64 v2, .int .i64 0]] (.tup []) [Cr 1 (rqN 100 s2).2.cb, Rd (rqN 100 s2).2.l (rqN 100 s2).2.rb, Va 3 [.int .i64 v1, .int .i64 v2, .int .i64 (rqN 100 s2).1]] := numI_r s2.l s2.rb s2.cb 3 [.int .i64 v1, .int .i64 v2, .int .i64 0] 2 100 rfl (by omega) (by omega) (by omega)
 generalize rqN 100 s2 = q3 at h3 g3 ⊢
 obtain ⟨v3, s3⟩ := q3
 dsimp only at h3 g3 ⊢
 have hc : cSl ((v1 : Int), (v2 : Int), (v3 : Int)) = [.int .i64 v1, .int .i64 v2, .int .i64 v3] := rfl
 rw [hc]
 repeat' ((first | apply Run_seq | apply Run_ret | apply Run_nil | apply Run_opsX mixed | (with_reducible first | refine PostG_open ?_ | refine ro_callA (f := .c (.fn 56 [])) ?_ | refine ro_callA (f := .c (.fn 57 [])) ?_ | refine ro_callVX ?_ | refine CallE_use (h1) (by simp) ?_ | refine CallE_use (h2) (by simp) ?_ | refine CallE_use (h3) (by simp) ?_) | (with_reducible refine ⟨?_, ?_⟩; (focus ((repeat' with_reducible refine ⟨?_, ?_⟩) <;> first | exact trivial | assumption | (simp; done) | (simp only [List.length_map] at *; omega) | omega | (simp [fs]; done) | exact r8_sz))) | (with_reducible intro x hx) | omega) <;> (try simp only [Nat.reduceBEq, reduceIte, Nat.reduceEqDiff, Nat.reduceAdd, Nat.reduceSub, Nat.reduceLT, reduceCtorEq, fw, fd]))
 refine GcTo_own [0, 1, 2, 3] (by rfl) (by simp) (by simp [fg])
set_option maxHeartbeats 4000000 in
theorem rowSl_r (s : Rs) (sz : Nat) (R : List D) (j most : Nat) (hR : R[j]? = some (.list (some true) true [])) (hz : R.length = sz) (hm : most < 1000000) (hl : s.l.length ≤ 1099511627776) :
  CallG Tryz.prog 54 [.ptr 0 0 0 1, .ptr 2 0 j 1, .int .i64 most, .fn 55 [.ptr 3 0 0 1]] [Cr 1 s.cb, Rd s.l s.rb, Va sz R, Bx 0] (.tup [])
   [Cr 1 (rRow rSl most s).2.cb, Rd (rRow rSl most s).2.l (rRow rSl most s).2.rb, Va sz (R.set j (L (row3 (rRow rSl most s).1))), Bx 0] := by
 refine callG Tryz.func54 low54 (by simp [c54]) ?_
 simp only [c54]
 have hn : CallG Tryz.prog 53 [.ptr 0 0 0 1, .ptr 2 0 0 1, .int .u64 most] [Cr 1 s.cb, Rd s.l s.rb, Va 1 [.int .u64 0]] (.tup []) [Cr 1 (rqN most s).2.cb, Rd (rqN most s).2.l (rqN most s).2.rb, Va 1 [.int .u64 (rqN most s).1]] := numQ_r s.l s.rb s.cb 1 [.int .u64 0] 0 most rfl (by omega) (by omega) hl
 obtain ⟨X, hX⟩ : ∃ X, rRow rSl most s = X := ⟨_, rfl⟩
 rw [hX]
 unfold rRow at hX
 obtain ⟨g1, g2⟩ := rqN_le most (by omega) s
 generalize rqN most s = q at hn hX g1 g2
 obtain ⟨n, s0⟩ := q
 dsimp only at hn hX g1 g2
 have hj : j < R.length := (List.getElem?_eq_some_iff.1 hR).1
 have z0 : (((0 : Nat) : Int)) = 0 := rfl
 refine Run_pure 2 rfl rfl fun hpt => ?_
 have hpt : ∀ x ∈ R, x.pt1 = true := fun x hx => hpt R (by simp) x hx
 have own1 : ∀ d : D, (R.set j d)[j]? = some d := fun d => by rw [List.getElem?_set_self hj]
 have own2 : ∀ d e : D, (R.set j d).take j ++ [e] ++ (R.set j d).drop (j + 1) = R.set j e := fun d e => by
  rw [spl1 (by rw [List.length_set]; exact hj), List.set_set]
 have pl5 : ∀ (σ : List Ob) (k n : Nat), mapO (pull1 true [0, 1, 2, 3, 5] σ) (R.set j (.own 5 0 k n 3 none)) = some (R.set j (.own 4 0 k n 3 none)) := fun σ k n => pull_own hpt rfl
 have pl4 : ∀ (σ : List Ob) (k n : Nat), mapO (pull1 true [0, 1, 2, 3, 4] σ) (R.set j (.own 4 0 k n 3 none)) = some (R.set j (.own 4 0 k n 3 none)) := fun σ k n => pull_own hpt rfl
 have plL : ∀ (σ : List Ob) (rows : List (List D)), mapO (pull1 true [0, 1, 2, 3] σ) (R.set j (.list none false rows)) = some (R.set j (.list none false rows)) := fun σ rows => pull_pt hpt rfl
 have allL : ∀ rows : List (List D), (R.set j (.list none false rows)).all D.pt1 = true := fun rows => all_set hpt rfl
 have hz' : (j + 1 ≤ sz) = True := eq_true (by omega)
 repeat' ((first | apply Run_seq | apply Run_skip | apply Run_block | apply Run_blk | refine Run_exit rfl ?_ | apply Run_ret | apply Run_nil | apply Run_condK | apply Run_ops mixed | apply Run_opsX mixed | (with_reducible first | refine PostG_open ?_ | refine ro_callA' (f := .c (.fn 53 [])) ?_ | refine ro_callV ?_ | refine CallE_use (hn) (by simp) ?_) | simp (disch := omega) only [wu64] | ((first | refine GuardK_split ?_ ?_ | refine CondK_split ?_ ?_) <;> intro hc <;> (try simp only [hc]) <;> try simp at hc) | (with_reducible refine ⟨?_, ?_⟩; (focus ((repeat' with_reducible refine ⟨?_, ?_⟩) <;> first | exact trivial | assumption | (simp; done) | (simp only [List.length_map] at *; omega) | omega | (simp [fs]; done) | exact r8_sz))) | (with_reducible intro x hx) | omega) <;> (try simp only [hR, z0, Nat.reduceBEq, reduceIte, Nat.reduceEqDiff, Nat.reduceAdd, Nat.reduceSub, Nat.reduceLT, reduceCtorEq, cond_false, ne_eq, fw, fd]))
 refine Run_ent (Ent_accC (l := 2) (j := 0) (i := j) (b := true) 3 true (by decide) rfl rfl rfl rfl hR) ?_
 refine Run_loop (ι := {p : Nat × Rs × List (Int × Int × Int) // rowGo rSl p.1 p.2.1 p.2.2 = X ∧ p.2.2.length + p.1 = n ∧ p.2.1.l.length ≤ s0.l.length}) (fun p => ([(0, .ptr 0 0 0 1), (1, .ptr 2 0 j 1), (3, .fn 55 [.ptr 3 0 0 1]), (42, .int .u64 n), (43, .int .u64 p.1.2.2.length)],
  [Cr 1 p.1.2.1.cb, Rd p.1.2.1.l p.1.2.1.rb, ⟨true, false, false, false, sz, [R.set j (.own 4 0 p.1.2.2.length p.1.2.2.length 3 none)], some 0⟩, Bx 0, acc true 3 true (row3 p.1.2.2)])) (fun p => p.1.1) ⟨(n, s0, []), hX, by simp, Nat.le_refl _⟩ ?_ ?_
 ·simp only [List.length_nil, show row3 [] = [] from rfl]
  refine Ent_gc [0, 1, 2, 3, 5] (by rfl) (by simp) (by simp [pl5, fg]) (by simp [fg])
  skip
 rintro ⟨⟨k, s1, xs⟩, hk1, hk2, hk3⟩ hk
 dsimp only at hk1 hk2 hk3 hk ⊢
 -- a row that is done is told by its rows
 have fin : ∀ (env : Env) (ys : List (Int × Int × Int)) (s2 : Rs) (ex : List Ob), Ent [Cr 1 s.cb, Rd s.l s.rb, Va sz R, Bx 0] env (Cr 1 s2.cb :: Rd s2.l s2.rb :: ⟨true, false, false, false, sz, [R.set j (.own 4 0 ys.length ys.length 3 none)], some 0⟩ :: Bx 0 :: acc true 3 true (row3 ys) :: ex) env
   (Cr 1 s2.cb :: Rd s2.l s2.rb :: ⟨true, false, false, false, sz, [R.set j (L (row3 ys))], some 0⟩ :: Bx 0 :: { acc true 3 true (row3 ys) with fz := true } :: ex) := fun env ys s2 ex => by
  refine Ent.trans (Ent_freeze 4) ?_
  have := Ent_cellF (base := [Cr 1 s.cb, Rd s.l s.rb, Va sz R, Bx 0]) (env := env) (σ := Cr 1 s2.cb :: Rd s2.l s2.rb :: ⟨true, false, false, false, sz, [R.set j (.own 4 0 ys.length ys.length 3 none)], some 0⟩ :: Bx 0 :: { acc true 3 true (row3 ys) with fz := true } :: ex) (l := 2) (j := 0) (i := j) (m := 4) (rows := row3 ys) rfl rfl rfl rfl (own1 _) rfl rfl (by
   rw [viewS_own']
   show viewO (some _) _ _ _ = _
   rw [viewO_some]
   simp [acc_rows, acc_pure, row3_len, winD_all])
  simp only [List.set_cons_zero, List.set_cons_succ, List.set_set] at this
  exact this
 by_cases hlt : 0 < k
 ·obtain ⟨k, rfl⟩ : ∃ k', k = k' + 1 := ⟨k - 1, by omega⟩
  have c1 : (((xs.length : Nat) : Int) < ((n : Nat) : Int)) = True := by simp; omega
  have he := elSl_r s1 (by omega)
  have hle := rSl_le s1
  unfold rowGo at hk1
  generalize rSl s1 = q at he hk1 hle
  obtain ⟨v, s2⟩ := q
  dsimp only at he hk1 hle
  have hcell : cSl v = [.int .i64 v.1, .int .i64 v.2.1, .int .i64 v.2.2] := rfl
  rw [hcell] at he
  by_cases hb : s2.rb = true ∨ s2.cb = true
  ·rw [if_pos hb] at hk1
   rw [← hk1]
   obtain ⟨l2, rb2, cb2⟩ := s2
   dsimp only at he hb ⊢
   cases rb2
   ·obtain rfl : cb2 = true := by simpa using hb
    repeat' ((first | apply Run_seq | apply Run_skip | apply Run_block | apply Run_blk | refine Run_exit rfl ?_ | apply Run_nil | apply Run_condK | apply Run_ops mixed | apply Run_opsX mixed | (with_reducible first | refine PostG_open ?_ | refine ro_callA' (f := .t 45) ?_ | refine ro_callV ?_ | refine CallE_use (he) (by simp) ?_) | refine CallV_pure (bad_p _ _) ?_ ?_ | simp (disch := omega) only [w64, wu64, wu32, wu16, wu8, Int.tdiv_eq_ediv_of_nonneg, Int.tmod_eq_emod_of_nonneg] | ((first | refine GuardK_split ?_ ?_ | refine CondK_split ?_ ?_) <;> intro hc <;> (try simp only [hc]) <;> try simp at hc) | (with_reducible refine ⟨?_, ?_⟩; (focus ((repeat' with_reducible refine ⟨?_, ?_⟩) <;> first | exact trivial | assumption | (simp; done) | (simp only [List.length_map] at *; omega) | omega | (simp [fs]; done) | exact r8_sz))) | (with_reducible intro x hx) | omega) <;> (try simp only [c1, Nat.reduceBEq, reduceIte, Nat.reduceEqDiff, Nat.reduceAdd, Nat.reduceSub, Nat.reduceLT, reduceCtorEq, cond_false, ne_eq, fw, fd]))
    refine Run_ent (fin _ xs ⟨l2, false, true⟩ [Va 3 [.int .i64 v.1, .int .i64 v.2.1, .int .i64 v.2.2]]) ?_
    repeat' ((first | apply Run_seq | apply Run_skip | apply Run_block | apply Run_blk | refine Run_exit rfl ?_ | apply Run_ret | apply Run_nil | apply Run_condK | apply Run_ops mixed | apply Run_opsX mixed | (with_reducible first | refine PostG_open ?_ | refine ro_callV ?_) | simp (disch := omega) only [w64, wu64, wu32, wu16, wu8, Int.tdiv_eq_ediv_of_nonneg, Int.tmod_eq_emod_of_nonneg] | ((first | refine GuardK_split ?_ ?_ | refine CondK_split ?_ ?_) <;> intro hc <;> (try simp only [hc]) <;> try simp at hc) | (with_reducible refine ⟨?_, ?_⟩; (focus ((repeat' with_reducible refine ⟨?_, ?_⟩) <;> first | exact trivial | assumption | (simp; done) | (simp only [List.length_map] at *; omega) | omega | (simp [fs]; done) | exact r8_sz))) | (with_reducible intro x hx) | omega) <;> (try simp only [ofRes, fw]))
    refine GcTo_own [0, 1, 2, 3] (by rfl) (by simp) (by simp [plL, allL, fg])
   ·repeat' ((first | apply Run_seq | apply Run_skip | apply Run_block | apply Run_blk | refine Run_exit rfl ?_ | apply Run_nil | apply Run_condK | apply Run_ops mixed | apply Run_opsX mixed | (with_reducible first | refine PostG_open ?_ | refine ro_callA' (f := .t 45) ?_ | refine ro_callV ?_ | refine CallE_use (he) (by simp) ?_) | refine CallV_pure (bad_p _ _) ?_ ?_ | simp (disch := omega) only [w64, wu64, wu32, wu16, wu8, Int.tdiv_eq_ediv_of_nonneg, Int.tmod_eq_emod_of_nonneg] | ((first | refine GuardK_split ?_ ?_ | refine CondK_split ?_ ?_) <;> intro hc <;> (try simp only [hc]) <;> try simp at hc) | (with_reducible refine ⟨?_, ?_⟩; (focus ((repeat' with_reducible refine ⟨?_, ?_⟩) <;> first | exact trivial | assumption | (simp; done) | (simp only [List.length_map] at *; omega) | omega | (simp [fs]; done) | exact r8_sz))) | (with_reducible intro x hx) | omega) <;> (try simp only [c1, Nat.reduceBEq, reduceIte, Nat.reduceEqDiff, Nat.reduceAdd, Nat.reduceSub, Nat.reduceLT, reduceCtorEq, cond_true, ne_eq, fw, fd]))
    refine Run_ent (fin _ xs ⟨l2, true, cb2⟩ [Va 3 [.int .i64 v.1, .int .i64 v.2.1, .int .i64 v.2.2]]) ?_
    repeat' ((first | apply Run_seq | apply Run_skip | apply Run_block | apply Run_blk | refine Run_exit rfl ?_ | apply Run_ret | apply Run_nil | apply Run_condK | apply Run_ops mixed | apply Run_opsX mixed | (with_reducible first | refine PostG_open ?_ | refine ro_callV ?_) | simp (disch := omega) only [w64, wu64, wu32, wu16, wu8, Int.tdiv_eq_ediv_of_nonneg, Int.tmod_eq_emod_of_nonneg] | ((first | refine GuardK_split ?_ ?_ | refine CondK_split ?_ ?_) <;> intro hc <;> (try simp only [hc]) <;> try simp at hc) | (with_reducible refine ⟨?_, ?_⟩; (focus ((repeat' with_reducible refine ⟨?_, ?_⟩) <;> first | exact trivial | assumption | (simp; done) | (simp only [List.length_map] at *; omega) | omega | (simp [fs]; done) | exact r8_sz))) | (with_reducible intro x hx) | omega) <;> (try simp only [ofRes, fw]))
    refine GcTo_own [0, 1, 2, 3] (by rfl) (by simp) (by simp [plL, allL, fg])
  ·rw [if_neg hb] at hk1
   obtain ⟨l2, rb2, cb2⟩ := s2
   dsimp only at he hb hle hk1 ⊢
   obtain ⟨rfl, rfl⟩ : rb2 = false ∧ cb2 = false := by simpa using hb
   have hu : row3 xs ++ [[.int .i64 v.1, .int .i64 v.2.1, .int .i64 v.2.2]] = row3 (xs ++ [v]) := by simp [row3]
   repeat' ((first | apply Run_seq | apply Run_skip | apply Run_block | apply Run_blk | refine Run_exit rfl ?_ | apply Run_ret | apply Run_nil | apply Run_condK | apply Run_ops mixed | apply Run_opsX mixed | (with_reducible first | refine PostG_open ?_ | refine ro_callA' (f := .t 45) ?_ | refine ro_callV ?_ | refine CallE_use (he) (by simp) ?_) | refine CallV_pure (bad_p _ _) ?_ ?_ | simp (disch := omega) only [wu64] | ((first | refine GuardK_split ?_ ?_ | refine CondK_split ?_ ?_) <;> intro hc <;> (try simp only [hc]) <;> try simp at hc) | (with_reducible refine ⟨?_, ?_⟩; (focus ((repeat' with_reducible refine ⟨?_, ?_⟩) <;> first | exact trivial | assumption | (simp; done) | omega | (simp [fs]; done) | exact r8_sz))) | (with_reducible intro x hx) | omega) <;> (try simp only [row3_len, c1, own1, own2, hz', hu, Nat.reduceBEq, reduceIte, Nat.reduceEqDiff, Nat.reduceAdd, Nat.reduceSub, Nat.reduceLT, Nat.reduceLeDiff, reduceCtorEq, cond_false, ne_eq, fw, fd]))
   refine hk ⟨(k, ⟨l2, false, false⟩, xs ++ [v]), hk1, by rw [List.length_append, List.length_cons, List.length_nil]; omega, by dsimp only; omega⟩ _ _ (by dsimp only; omega) ?_
   dsimp only
   simp only [List.length_append, List.length_cons, List.length_nil]
   refine Ent_gc [0, 1, 2, 3, 4] (by rfl) (by simp) (by simp [pl4, fg]) (by simp [fg])
   skip
 ·obtain rfl : k = 0 := by omega
  have c1 : (((xs.length : Nat) : Int) < ((n : Nat) : Int)) = False := by simp; omega
  unfold rowGo at hk1
  rw [← hk1]
  dsimp only
  refine Run_ent (fin _ xs s1 []) ?_
  repeat' ((first | apply Run_seq | apply Run_skip | apply Run_block | apply Run_blk | refine Run_exit rfl ?_ | apply Run_ret | apply Run_nil | apply Run_condK | apply Run_ops mixed | apply Run_opsX mixed | (with_reducible first | refine PostG_open ?_ | refine ro_callV ?_) | simp (disch := omega) only [w64, wu64, wu32, wu16, wu8, Int.tdiv_eq_ediv_of_nonneg, Int.tmod_eq_emod_of_nonneg] | ((first | refine GuardK_split ?_ ?_ | refine CondK_split ?_ ?_) <;> intro hc <;> (try simp only [hc]) <;> try simp at hc) | (with_reducible refine ⟨?_, ?_⟩; (focus ((repeat' with_reducible refine ⟨?_, ?_⟩) <;> first | exact trivial | assumption | (simp; done) | (simp only [List.length_map] at *; omega) | omega | (simp [fs]; done) | exact r8_sz))) | (with_reducible intro x hx) | omega) <;> (try simp only [c1, Nat.reduceBEq, reduceIte, binD, binInt, ofRes, fw]))
  refine GcTo_own [0, 1, 2, 3] (by rfl) (by simp) (by simp [plL, allL, fg])
  skip
end Go.Proofs.YtgefljdclekadaaGreat
