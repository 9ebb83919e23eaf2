import Derived.Test.YtgefljdclekadaaRR3
import Derived.Test.YtgefljdclekadaaVi25
set_option linter.unusedVariables false
set_option linter.unusedSimpArgs false
namespace Go.Proofs.Ytgefljdclekadaa
open Go Go.Vi
structure Rs where
 l : List UInt8
 rb : Bool
 cb : Bool
def aA (m : Nat) (s : Rs) : Nat × Rs := ((co m s.l s.rb).1, ⟨(co m s.l s.rb).2.1, (co m s.l s.rb).2.2, s.cb⟩)
def cw (s : Rs) : Int × Rs := (em (co 18446744073709551615 s.l s.rb).1, ⟨(co 18446744073709551615 s.l s.rb).2.1, (co 18446744073709551615 s.l s.rb).2.2, s.cb⟩)
def fL (lo hi : Int) (s : Rs) : Int × Rs := (em (co 18446744073709551615 s.l s.rb).1, ⟨(co 18446744073709551615 s.l s.rb).2.1, (co 18446744073709551615 s.l s.rb).2.2, s.cb || decide (em (co 18446744073709551615 s.l s.rb).1 < lo ∨ hi < em (co 18446744073709551615 s.l s.rb).1)⟩)
def gS (s : Rs) : Bool × Rs := (decide ((co 1 s.l s.rb).1 = 1), ⟨(co 1 s.l s.rb).2.1, (co 1 s.l s.rb).2.2, s.cb⟩)
def qc (m : Nat) (s : Rs) : ByteArray × Rs := ((o9 m s.l s.rb).1, ⟨(o9 m s.l s.rb).2.1, (o9 m s.l s.rb).2.2, s.cb⟩)
theorem aH (m : Nat) (hm : m < 18446744073709551616) (s : Rs) : (aA m s).2.l.length ≤ s.l.length ∧ (aA m s).1 ≤ m := by
 have := dK m s.l s.rb hm
 exact ⟨this.2, this.1⟩
theorem cG (s : Rs) : (cw s).2.l.length ≤ s.l.length := (dK 18446744073709551615 s.l s.rb (by omega)).2
theorem fO (lo hi : Int) (s : Rs) : (fL lo hi s).2.l.length ≤ s.l.length := (dK 18446744073709551615 s.l s.rb (by omega)).2
theorem jY (s : Rs) : (gS s).2.l.length ≤ s.l.length := (dK 1 s.l s.rb (by omega)).2
theorem xF (m : Nat) (hm : m < 18446744073709551616) (s : Rs) : (qc m s).2.l.length ≤ s.l.length := by
 have h := (dK m s.l s.rb hm).2
 unfold qc o9
 dsimp only
 split
 ·exact h
 ·simp only [List.length_drop]; omega
def bz {α : Type} (re : Rs → α × Rs) : Nat → Rs → List α → List α × Rs
 | 0, s, a => (a, s)
 | k + 1, s, a => if (re s).2.rb = true ∨ (re s).2.cb = true then (a, (re s).2) else bz re k (re s).2 (a ++ [(re s).1])
def aM {α : Type} (re : Rs → α × Rs) (most : Nat) (s : Rs) : List α × Rs := bz re (aA most s).1 (aA most s).2 []
def jy (s : Rs) : (Int × Int) × Rs := ((((cw s).1 : Int), ((fL (-900) 900 (cw s).2).1 : Int)), (fL (-900) 900 (cw s).2).2)
theorem ph (s : Rs) : (jy s).2.l.length ≤ s.l.length := Nat.le_trans (fO _ _ _) (cG _)
theorem xz (s : Rs) (hl : s.l.length ≤ 1099511627776) :
  az Try.prog 88 [.ptr 0 0 0 1, .ptr 1 0 0 1] [Va 2 [.int .i64 0, .int .i64 0], Bx 2, Cr 3 s.cb, Rd s.l s.rb] (.tup [])
   [Va 2 (vw (jy s).1), Bx 2, Cr 3 (jy s).2.cb, Rd (jy s).2.l (jy s).2.rb] := by
 refine aK Try.func88 low88 (by simp [c88]) ?_
 simp only [c88]
 unfold jy
 have g1 := cG s
 have h1 : az Try.prog 39 [.ptr 0 0 0 1, .ptr 2 0 0 1] [Cr 1 s.cb, Rd s.l s.rb, Va 2 [.int .i64 0, .int .i64 0]] (.tup []) [Cr 1 (cw s).2.cb, Rd (cw s).2.l (cw s).2.rb, Va 2 [.int .i64 (cw s).1, .int .i64 0]] := cF s.l s.rb s.cb 2 [.int .i64 0, .int .i64 0] 0 rfl (by omega) (by omega)
 generalize cw s = q1 at h1 g1 ⊢
 obtain ⟨v1, s1⟩ := q1
 dsimp only at h1 g1 ⊢
 have g2 := fO (-900) 900 s1
 have h2 : az Try.prog 86 [.ptr 0 0 0 1, .ptr 2 0 1 1, .int .i64 (-900), .int .i64 900] [Cr 1 s1.cb, Rd s1.l s1.rb, Va 2 [.int .i64 v1, .int .i64 0]] (.tup []) [Cr 1 (fL (-900) 900 s1).2.cb, Rd (fL (-900) 900 s1).2.l (fL (-900) 900 s1).2.rb, Va 2 [.int .i64 v1, .int .i64 (fL (-900) 900 s1).1]] := mJ s1.l s1.rb s1.cb 2 [.int .i64 v1, .int .i64 0] 1 (-900) 900 rfl (by omega) (by omega)
 generalize fL (-900) 900 s1 = q2 at h2 g2 ⊢
 obtain ⟨v2, s2⟩ := q2
 dsimp only at h2 g2 ⊢
 have hc : vw ((v1 : Int), (v2 : Int)) = [.int .i64 v1, .int .i64 v2] := rfl
 rw [hc]
 repeat' ((first | apply ai | apply al | apply aj | apply ap mixed | (with_reducible first | refine af ?_ | refine aD (f := .c (.fn 39 [])) ?_ | refine aD (f := .c (.fn 86 [])) ?_ | refine aC ?_ | refine ab (h1) (by simp) ?_ | refine ab (h2) (by simp) ?_) | (with_reducible refine ⟨?_, ?_⟩; (focus ((repeat' with_reducible refine ⟨?_, ?_⟩) <;> first | exact trivial | assumption | (simp; done) | (simp only [List.length_map] at *; omega) | omega | (simp [fs]; done) | exact ay))) | (with_reducible intro x hx) | omega) <;> (try simp only [Nat.reduceBEq, reduceIte, Nat.reduceEqDiff, Nat.reduceAdd, Nat.reduceSub, Nat.reduceLT, reduceCtorEq, Int.reduceNeg, fw, fd]))
 refine aw [0, 1, 2, 3] (by rfl) (by simp) (by simp [fg])
set_option maxHeartbeats 4000000 in
theorem uD (s : Rs) (sz : Nat) (R : List D) (j most : Nat) (hR : R[j]? = some (.list (some true) true [])) (hz : R.length = sz) (hm : most < 1000000) (hl : s.l.length ≤ 1099511627776) :
  az Try.prog 87 [.ptr 0 0 0 1, .ptr 2 0 j 1, .int .i64 most, .fn 88 [.ptr 3 0 0 1]] [Cr 1 s.cb, Rd s.l s.rb, Va sz R, Bx 0] (.tup [])
   [Cr 1 (aM jy most s).2.cb, Rd (aM jy most s).2.l (aM jy most s).2.rb, Va sz (R.set j (L (aS .i64 .i64 (aM jy most s).1))), Bx 0] := by
 refine aK Try.func87 low87 (by simp [c87]) ?_
 simp only [c87]
 have hn : az Try.prog 34 [.ptr 0 0 0 1, .ptr 2 0 0 1, .int .u64 most] [Cr 1 s.cb, Rd s.l s.rb, Va 1 [.int .u64 0]] (.tup []) [Cr 1 (aA most s).2.cb, Rd (aA most s).2.l (aA most s).2.rb, Va 1 [.int .u64 (aA most s).1]] := cr s.l s.rb s.cb 1 [.int .u64 0] 0 most rfl (by omega) (by omega) hl
 obtain ⟨X, hX⟩ : ∃ X, aM jy most s = X := ⟨_, rfl⟩
 rw [hX]
 unfold aM at hX
 obtain ⟨g1, g2⟩ := aH most (by omega) s
 generalize aA most s = q at hn hX g1 g2
 obtain ⟨n, s0⟩ := q
 dsimp only at hn hX g1 g2
 have hj : j < R.length := (List.getElem?_eq_some_iff.1 hR).1
 have z0 : (((0 : Nat) : Int)) = 0 := rfl
 refine cZ 2 rfl rfl fun hpt => ?_
 have hpt : ∀ x ∈ R, x.pt1 = true := fun x hx => hpt R (by simp) x hx
 have own1 : ∀ d : D, (R.set j d)[j]? = some d := fun d => by rw [List.getElem?_set_self hj]
 have own2 : ∀ d e : D, (R.set j d).take j ++ [e] ++ (R.set j d).drop (j + 1) = R.set j e := fun d e => by
  rw [dt (by rw [List.length_set]; exact hj), List.set_set]
 have pl5 : ∀ (σ : List Ob) (k n : Nat), bq (bk true [0, 1, 2, 3, 5] σ) (R.set j (.own 5 0 k n 2 none)) = some (R.set j (.own 4 0 k n 2 none)) := fun σ k n => bE hpt rfl
 have pl4 : ∀ (σ : List Ob) (k n : Nat), bq (bk true [0, 1, 2, 3, 4] σ) (R.set j (.own 4 0 k n 2 none)) = some (R.set j (.own 4 0 k n 2 none)) := fun σ k n => bE hpt rfl
 have plL : ∀ (σ : List Ob) (rows : List (List D)), bq (bk true [0, 1, 2, 3] σ) (R.set j (.list none false rows)) = some (R.set j (.list none false rows)) := fun σ rows => dB hpt rfl
 have allL : ∀ rows : List (List D), (R.set j (.list none false rows)).all D.pt1 = true := fun rows => dz hpt rfl
 have hz' : (j + 1 ≤ sz) = True := eq_true (by omega)
 repeat' ((first | apply ai | apply ah | apply am | apply au | refine aq rfl ?_ | apply al | apply aj | apply ae | apply ak mixed | apply ap mixed | (with_reducible first | refine af ?_ | refine ar (f := .c (.fn 34 [])) ?_ | refine ao ?_ | refine ab (hn) (by simp) ?_) | simp (disch := omega) only [aG] | ((first | refine ac ?_ ?_ | refine aa ?_ ?_) <;> intro hc <;> (try simp only [hc]) <;> try simp at hc) | (with_reducible refine ⟨?_, ?_⟩; (focus ((repeat' with_reducible refine ⟨?_, ?_⟩) <;> first | exact trivial | assumption | (simp; done) | (simp only [List.length_map] at *; omega) | omega | (simp [fs]; done) | exact ay))) | (with_reducible intro x hx) | omega) <;> (try simp only [hR, z0, Nat.reduceBEq, reduceIte, Nat.reduceEqDiff, Nat.reduceAdd, Nat.reduceSub, Nat.reduceLT, reduceCtorEq, cond_false, ne_eq, fw, fd]))
 refine aW (cO (l := 2) (j := 0) (i := j) (b := true) 2 true (by decide) rfl rfl rfl rfl hR) ?_
 refine aT (ι := {p : Nat × Rs × List (Int × Int) // bz jy p.1 p.2.1 p.2.2 = X ∧ p.2.2.length + p.1 = n ∧ p.2.1.l.length ≤ s0.l.length}) (fun p => ([(0, .ptr 0 0 0 1), (1, .ptr 2 0 j 1), (3, .fn 88 [.ptr 3 0 0 1]), (42, .int .u64 n), (43, .int .u64 p.1.2.2.length)],
  [Cr 1 p.1.2.1.cb, Rd p.1.2.1.l p.1.2.1.rb, ⟨true, false, false, false, sz, [R.set j (.own 4 0 p.1.2.2.length p.1.2.2.length 2 none)], some 0⟩, Bx 0, aU true 2 true (aS .i64 .i64 p.1.2.2)])) (fun p => p.1.1) ⟨(n, s0, []), hX, by simp, Nat.le_refl _⟩ ?_ ?_
 ·simp only [List.length_nil, show aS .i64 .i64 [] = [] from rfl]
  refine aJ [0, 1, 2, 3, 5] (by rfl) (by simp) (by simp [pl5, fg]) (by simp [fg])
  skip
 rintro ⟨⟨k, s1, xs⟩, hk1, hk2, hk3⟩ hk
 dsimp only at hk1 hk2 hk3 hk ⊢
 have fin : ∀ (env : bv) (ys : List (Int × Int)) (s2 : Rs) (ex : List Ob), fI [Cr 1 s.cb, Rd s.l s.rb, Va sz R, Bx 0] env (Cr 1 s2.cb :: Rd s2.l s2.rb :: ⟨true, false, false, false, sz, [R.set j (.own 4 0 ys.length ys.length 2 none)], some 0⟩ :: Bx 0 :: aU true 2 true (aS .i64 .i64 ys) :: ex) env
   (Cr 1 s2.cb :: Rd s2.l s2.rb :: ⟨true, false, false, false, sz, [R.set j (L (aS .i64 .i64 ys))], some 0⟩ :: Bx 0 :: { aU true 2 true (aS .i64 .i64 ys) with fz := true } :: ex) := fun env ys s2 ex => by
  refine fI.trans (ct 4) ?_
  have := cE (base := [Cr 1 s.cb, Rd s.l s.rb, Va sz R, Bx 0]) (env := env) (σ := Cr 1 s2.cb :: Rd s2.l s2.rb :: ⟨true, false, false, false, sz, [R.set j (.own 4 0 ys.length ys.length 2 none)], some 0⟩ :: Bx 0 :: { aU true 2 true (aS .i64 .i64 ys) with fz := true } :: ex) (l := 2) (j := 0) (i := j) (m := 4) (rows := aS .i64 .i64 ys) rfl rfl rfl rfl (own1 _) rfl rfl (by
   rw [bL]
   show eU (some _) _ _ _ = _
   rw [bK]
   simp [cn, cu, aF, cm])
  simp only [List.set_cons_zero, List.set_cons_succ, List.set_set] at this
  exact this
 by_cases hlt : 0 < k
 ·obtain ⟨k, rfl⟩ : ∃ k', k = k' + 1 := ⟨k - 1, by omega⟩
  have c1 : (((xs.length : Nat) : Int) < ((n : Nat) : Int)) = True := by simp; omega
  have he := xz s1 (by omega)
  have hle := ph s1
  unfold bz at hk1
  generalize jy s1 = q at he hk1 hle
  obtain ⟨v, s2⟩ := q
  dsimp only at he hk1 hle
  have hcell : vw v = [.int .i64 v.1, .int .i64 v.2] := rfl
  rw [hcell] at he
  by_cases hb : s2.rb = true ∨ s2.cb = true
  ·rw [if_pos hb] at hk1
   rw [← hk1]
   obtain ⟨l2, rb2, cb2⟩ := s2
   dsimp only at he hb ⊢
   cases rb2
   ·obtain rfl : cb2 = true := by simpa using hb
    repeat' ((first | apply ai | apply ah | apply am | apply au | refine aq rfl ?_ | apply aj | apply ae | apply ak mixed | apply ap mixed | (with_reducible first | refine af ?_ | refine ar (f := .t 45) ?_ | refine ao ?_ | refine ab (he) (by simp) ?_) | refine av (bw _ _) ?_ ?_ | simp (disch := omega) only [bf, aG, aN, aO, bp, Int.tdiv_eq_ediv_of_nonneg, Int.tmod_eq_emod_of_nonneg] | ((first | refine ac ?_ ?_ | refine aa ?_ ?_) <;> intro hc <;> (try simp only [hc]) <;> try simp at hc) | (with_reducible refine ⟨?_, ?_⟩; (focus ((repeat' with_reducible refine ⟨?_, ?_⟩) <;> first | exact trivial | assumption | (simp; done) | (simp only [List.length_map] at *; omega) | omega | (simp [fs]; done) | exact ay))) | (with_reducible intro x hx) | omega) <;> (try simp only [c1, Nat.reduceBEq, reduceIte, Nat.reduceEqDiff, Nat.reduceAdd, Nat.reduceSub, Nat.reduceLT, reduceCtorEq, cond_false, ne_eq, fw, fd]))
    refine aW (fin _ xs ⟨l2, false, true⟩ [Va 2 [.int .i64 v.1, .int .i64 v.2]]) ?_
    repeat' ((first | apply ai | apply ah | apply am | apply au | refine aq rfl ?_ | apply al | apply aj | apply ae | apply ak mixed | apply ap mixed | (with_reducible first | refine af ?_ | refine ao ?_) | simp (disch := omega) only [bf, aG, aN, aO, bp, Int.tdiv_eq_ediv_of_nonneg, Int.tmod_eq_emod_of_nonneg] | ((first | refine ac ?_ ?_ | refine aa ?_ ?_) <;> intro hc <;> (try simp only [hc]) <;> try simp at hc) | (with_reducible refine ⟨?_, ?_⟩; (focus ((repeat' with_reducible refine ⟨?_, ?_⟩) <;> first | exact trivial | assumption | (simp; done) | (simp only [List.length_map] at *; omega) | omega | (simp [fs]; done) | exact ay))) | (with_reducible intro x hx) | omega) <;> (try simp only [bg, fw]))
    refine aw [0, 1, 2, 3] (by rfl) (by simp) (by simp [plL, allL, fg])
   ·repeat' ((first | apply ai | apply ah | apply am | apply au | refine aq rfl ?_ | apply aj | apply ae | apply ak mixed | apply ap mixed | (with_reducible first | refine af ?_ | refine ar (f := .t 45) ?_ | refine ao ?_ | refine ab (he) (by simp) ?_) | refine av (bw _ _) ?_ ?_ | simp (disch := omega) only [bf, aG, aN, aO, bp, Int.tdiv_eq_ediv_of_nonneg, Int.tmod_eq_emod_of_nonneg] | ((first | refine ac ?_ ?_ | refine aa ?_ ?_) <;> intro hc <;> (try simp only [hc]) <;> try simp at hc) | (with_reducible refine ⟨?_, ?_⟩; (focus ((repeat' with_reducible refine ⟨?_, ?_⟩) <;> first | exact trivial | assumption | (simp; done) | (simp only [List.length_map] at *; omega) | omega | (simp [fs]; done) | exact ay))) | (with_reducible intro x hx) | omega) <;> (try simp only [c1, Nat.reduceBEq, reduceIte, Nat.reduceEqDiff, Nat.reduceAdd, Nat.reduceSub, Nat.reduceLT, reduceCtorEq, cond_true, ne_eq, fw, fd]))
    refine aW (fin _ xs ⟨l2, true, cb2⟩ [Va 2 [.int .i64 v.1, .int .i64 v.2]]) ?_
    repeat' ((first | apply ai | apply ah | apply am | apply au | refine aq rfl ?_ | apply al | apply aj | apply ae | apply ak mixed | apply ap mixed | (with_reducible first | refine af ?_ | refine ao ?_) | simp (disch := omega) only [bf, aG, aN, aO, bp, Int.tdiv_eq_ediv_of_nonneg, Int.tmod_eq_emod_of_nonneg] | ((first | refine ac ?_ ?_ | refine aa ?_ ?_) <;> intro hc <;> (try simp only [hc]) <;> try simp at hc) | (with_reducible refine ⟨?_, ?_⟩; (focus ((repeat' with_reducible refine ⟨?_, ?_⟩) <;> first | exact trivial | assumption | (simp; done) | (simp only [List.length_map] at *; omega) | omega | (simp [fs]; done) | exact ay))) | (with_reducible intro x hx) | omega) <;> (try simp only [bg, fw]))
    refine aw [0, 1, 2, 3] (by rfl) (by simp) (by simp [plL, allL, fg])
  ·rw [if_neg hb] at hk1
   obtain ⟨l2, rb2, cb2⟩ := s2
   dsimp only at he hb hle hk1 ⊢
   obtain ⟨rfl, rfl⟩ : rb2 = false ∧ cb2 = false := by simpa using hb
   have hu : aS .i64 .i64 xs ++ [[.int .i64 v.1, .int .i64 v.2]] = aS .i64 .i64 (xs ++ [v]) := by simp [aS]
   repeat' ((first | apply ai | apply ah | apply am | apply au | refine aq rfl ?_ | apply al | apply aj | apply ae | apply ak mixed | apply ap mixed | (with_reducible first | refine af ?_ | refine ar (f := .t 45) ?_ | refine ao ?_ | refine ab (he) (by simp) ?_) | refine av (bw _ _) ?_ ?_ | simp (disch := omega) only [aG] | ((first | refine ac ?_ ?_ | refine aa ?_ ?_) <;> intro hc <;> (try simp only [hc]) <;> try simp at hc) | (with_reducible refine ⟨?_, ?_⟩; (focus ((repeat' with_reducible refine ⟨?_, ?_⟩) <;> first | exact trivial | assumption | (simp; done) | omega | (simp [fs]; done) | exact ay))) | (with_reducible intro x hx) | omega) <;> (try simp only [aF, c1, own1, own2, hz', hu, Nat.reduceBEq, reduceIte, Nat.reduceEqDiff, Nat.reduceAdd, Nat.reduceSub, Nat.reduceLT, Nat.reduceLeDiff, reduceCtorEq, cond_false, ne_eq, fw, fd]))
   refine hk ⟨(k, ⟨l2, false, false⟩, xs ++ [v]), hk1, by rw [List.length_append, List.length_cons, List.length_nil]; omega, by dsimp only; omega⟩ _ _ (by dsimp only; omega) ?_
   dsimp only
   simp only [List.length_append, List.length_cons, List.length_nil]
   refine aJ [0, 1, 2, 3, 4] (by rfl) (by simp) (by simp [pl4, fg]) (by simp [fg])
   skip
 ·obtain rfl : k = 0 := by omega
  have c1 : (((xs.length : Nat) : Int) < ((n : Nat) : Int)) = False := by simp; omega
  unfold bz at hk1
  rw [← hk1]
  dsimp only
  refine aW (fin _ xs s1 []) ?_
  repeat' ((first | apply ai | apply ah | apply am | apply au | refine aq rfl ?_ | apply al | apply aj | apply ae | apply ak mixed | apply ap mixed | (with_reducible first | refine af ?_ | refine ao ?_) | simp (disch := omega) only [bf, aG, aN, aO, bp, Int.tdiv_eq_ediv_of_nonneg, Int.tmod_eq_emod_of_nonneg] | ((first | refine ac ?_ ?_ | refine aa ?_ ?_) <;> intro hc <;> (try simp only [hc]) <;> try simp at hc) | (with_reducible refine ⟨?_, ?_⟩; (focus ((repeat' with_reducible refine ⟨?_, ?_⟩) <;> first | exact trivial | assumption | (simp; done) | (simp only [List.length_map] at *; omega) | omega | (simp [fs]; done) | exact ay))) | (with_reducible intro x hx) | omega) <;> (try simp only [c1, Nat.reduceBEq, reduceIte, de, aY, bg, fw]))
  refine aw [0, 1, 2, 3] (by rfl) (by simp) (by simp [plL, allL, fg])
  skip
def jw (s : Rs) : (Int × Int × Int) × Rs := ((((aA 127 s).1 : Int), ((aA 1440 (aA 127 s).2).1 : Int), ((aA 1440 (aA 1440 (aA 127 s).2).2).1 : Int)), (aA 1440 (aA 1440 (aA 127 s).2).2).2)
theorem oO (s : Rs) : (jw s).2.l.length ≤ s.l.length := Nat.le_trans (Nat.le_trans ((aH _ (by omega) _).1) ((aH _ (by omega) _).1)) ((aH _ (by omega) _).1)
theorem yb (s : Rs) (hl : s.l.length ≤ 1099511627776) :
  az Try.prog 90 [.ptr 0 0 0 1, .ptr 1 0 0 1] [Va 3 [.int .i64 0, .int .i64 0, .int .i64 0], Bx 2, Cr 3 s.cb, Rd s.l s.rb] (.tup [])
   [Va 3 (uQ (jw s).1), Bx 2, Cr 3 (jw s).2.cb, Rd (jw s).2.l (jw s).2.rb] := by
 refine aK Try.func90 low90 (by simp [c90]) ?_
 simp only [c90]
 unfold jw
 have g1 := (aH 127 (by omega) s).1
 have h1 : az Try.prog 32 [.ptr 0 0 0 1, .ptr 2 0 0 1, .int .u64 127] [Cr 1 s.cb, Rd s.l s.rb, Va 3 [.int .i64 0, .int .i64 0, .int .i64 0]] (.tup []) [Cr 1 (aA 127 s).2.cb, Rd (aA 127 s).2.l (aA 127 s).2.rb, Va 3 [.int .i64 (aA 127 s).1, .int .i64 0, .int .i64 0]] := bJ s.l s.rb s.cb 3 [.int .i64 0, .int .i64 0, .int .i64 0] 0 127 rfl (by omega) (by omega) (by omega)
 generalize aA 127 s = q1 at h1 g1 ⊢
 obtain ⟨v1, s1⟩ := q1
 dsimp only at h1 g1 ⊢
 have g2 := (aH 1440 (by omega) s1).1
 have h2 : az Try.prog 32 [.ptr 0 0 0 1, .ptr 2 0 1 1, .int .u64 1440] [Cr 1 s1.cb, Rd s1.l s1.rb, Va 3 [.int .i64 v1, .int .i64 0, .int .i64 0]] (.tup []) [Cr 1 (aA 1440 s1).2.cb, Rd (aA 1440 s1).2.l (aA 1440 s1).2.rb, Va 3 [.int .i64 v1, .int .i64 (aA 1440 s1).1, .int .i64 0]] := bJ s1.l s1.rb s1.cb 3 [.int .i64 v1, .int .i64 0, .int .i64 0] 1 1440 rfl (by omega) (by omega) (by omega)
 generalize aA 1440 s1 = q2 at h2 g2 ⊢
 obtain ⟨v2, s2⟩ := q2
 dsimp only at h2 g2 ⊢
 have g3 := (aH 1440 (by omega) s2).1
 have h3 : az Try.prog 32 [.ptr 0 0 0 1, .ptr 2 0 2 1, .int .u64 1440] [Cr 1 s2.cb, Rd s2.l s2.rb, Va 3 [.int .i64 v1, .int .i64 v2, .int .i64 0]] (.tup []) [Cr 1 (aA 1440 s2).2.cb, Rd (aA 1440 s2).2.l (aA 1440 s2).2.rb, Va 3 [.int .i64 v1, .int .i64 v2, .int .i64 (aA 1440 s2).1]] := bJ s2.l s2.rb s2.cb 3 [.int .i64 v1, .int .i64 v2, .int .i64 0] 2 1440 rfl (by omega) (by omega) (by omega)
 generalize aA 1440 s2 = q3 at h3 g3 ⊢
 obtain ⟨v3, s3⟩ := q3
 dsimp only at h3 g3 ⊢
 have hc : uQ ((v1 : Int), (v2 : Int), (v3 : Int)) = [.int .i64 v1, .int .i64 v2, .int .i64 v3] := rfl
 rw [hc]
 repeat' ((first | apply ai | apply al | apply aj | apply ap mixed | (with_reducible first | refine af ?_ | refine aD (f := .c (.fn 32 [])) ?_ | refine aC ?_ | refine ab (h1) (by simp) ?_ | refine ab (h2) (by simp) ?_ | refine ab (h3) (by simp) ?_) | (with_reducible refine ⟨?_, ?_⟩; (focus ((repeat' with_reducible refine ⟨?_, ?_⟩) <;> first | exact trivial | assumption | (simp; done) | (simp only [List.length_map] at *; omega) | omega | (simp [fs]; done) | exact ay))) | (with_reducible intro x hx) | omega) <;> (try simp only [Nat.reduceBEq, reduceIte, Nat.reduceEqDiff, Nat.reduceAdd, Nat.reduceSub, Nat.reduceLT, reduceCtorEq, fw, fd]))
 refine aw [0, 1, 2, 3] (by rfl) (by simp) (by simp [fg])
set_option maxHeartbeats 4000000 in
theorem uP (s : Rs) (sz : Nat) (R : List D) (j most : Nat) (hR : R[j]? = some (.list (some true) true [])) (hz : R.length = sz) (hm : most < 1000000) (hl : s.l.length ≤ 1099511627776) :
  az Try.prog 89 [.ptr 0 0 0 1, .ptr 2 0 j 1, .int .i64 most, .fn 90 [.ptr 3 0 0 1]] [Cr 1 s.cb, Rd s.l s.rb, Va sz R, Bx 0] (.tup [])
   [Cr 1 (aM jw most s).2.cb, Rd (aM jw most s).2.l (aM jw most s).2.rb, Va sz (R.set j (L (bh (aM jw most s).1))), Bx 0] := by
 refine aK Try.func89 low89 (by simp [c89]) ?_
 simp only [c89]
 have hn : az Try.prog 34 [.ptr 0 0 0 1, .ptr 2 0 0 1, .int .u64 most] [Cr 1 s.cb, Rd s.l s.rb, Va 1 [.int .u64 0]] (.tup []) [Cr 1 (aA most s).2.cb, Rd (aA most s).2.l (aA most s).2.rb, Va 1 [.int .u64 (aA most s).1]] := cr s.l s.rb s.cb 1 [.int .u64 0] 0 most rfl (by omega) (by omega) hl
 obtain ⟨X, hX⟩ : ∃ X, aM jw most s = X := ⟨_, rfl⟩
 rw [hX]
 unfold aM at hX
 obtain ⟨g1, g2⟩ := aH most (by omega) s
 generalize aA most s = q at hn hX g1 g2
 obtain ⟨n, s0⟩ := q
 dsimp only at hn hX g1 g2
 have hj : j < R.length := (List.getElem?_eq_some_iff.1 hR).1
 have z0 : (((0 : Nat) : Int)) = 0 := rfl
 refine cZ 2 rfl rfl fun hpt => ?_
 have hpt : ∀ x ∈ R, x.pt1 = true := fun x hx => hpt R (by simp) x hx
 have own1 : ∀ d : D, (R.set j d)[j]? = some d := fun d => by rw [List.getElem?_set_self hj]
 have own2 : ∀ d e : D, (R.set j d).take j ++ [e] ++ (R.set j d).drop (j + 1) = R.set j e := fun d e => by
  rw [dt (by rw [List.length_set]; exact hj), List.set_set]
 have pl5 : ∀ (σ : List Ob) (k n : Nat), bq (bk true [0, 1, 2, 3, 5] σ) (R.set j (.own 5 0 k n 3 none)) = some (R.set j (.own 4 0 k n 3 none)) := fun σ k n => bE hpt rfl
 have pl4 : ∀ (σ : List Ob) (k n : Nat), bq (bk true [0, 1, 2, 3, 4] σ) (R.set j (.own 4 0 k n 3 none)) = some (R.set j (.own 4 0 k n 3 none)) := fun σ k n => bE hpt rfl
 have plL : ∀ (σ : List Ob) (rows : List (List D)), bq (bk true [0, 1, 2, 3] σ) (R.set j (.list none false rows)) = some (R.set j (.list none false rows)) := fun σ rows => dB hpt rfl
 have allL : ∀ rows : List (List D), (R.set j (.list none false rows)).all D.pt1 = true := fun rows => dz hpt rfl
 have hz' : (j + 1 ≤ sz) = True := eq_true (by omega)
 repeat' ((first | apply ai | apply ah | apply am | apply au | refine aq rfl ?_ | apply al | apply aj | apply ae | apply ak mixed | apply ap mixed | (with_reducible first | refine af ?_ | refine ar (f := .c (.fn 34 [])) ?_ | refine ao ?_ | refine ab (hn) (by simp) ?_) | simp (disch := omega) only [aG] | ((first | refine ac ?_ ?_ | refine aa ?_ ?_) <;> intro hc <;> (try simp only [hc]) <;> try simp at hc) | (with_reducible refine ⟨?_, ?_⟩; (focus ((repeat' with_reducible refine ⟨?_, ?_⟩) <;> first | exact trivial | assumption | (simp; done) | (simp only [List.length_map] at *; omega) | omega | (simp [fs]; done) | exact ay))) | (with_reducible intro x hx) | omega) <;> (try simp only [hR, z0, Nat.reduceBEq, reduceIte, Nat.reduceEqDiff, Nat.reduceAdd, Nat.reduceSub, Nat.reduceLT, reduceCtorEq, cond_false, ne_eq, fw, fd]))
 refine aW (cO (l := 2) (j := 0) (i := j) (b := true) 3 true (by decide) rfl rfl rfl rfl hR) ?_
 refine aT (ι := {p : Nat × Rs × List (Int × Int × Int) // bz jw p.1 p.2.1 p.2.2 = X ∧ p.2.2.length + p.1 = n ∧ p.2.1.l.length ≤ s0.l.length}) (fun p => ([(0, .ptr 0 0 0 1), (1, .ptr 2 0 j 1), (3, .fn 90 [.ptr 3 0 0 1]), (42, .int .u64 n), (43, .int .u64 p.1.2.2.length)],
  [Cr 1 p.1.2.1.cb, Rd p.1.2.1.l p.1.2.1.rb, ⟨true, false, false, false, sz, [R.set j (.own 4 0 p.1.2.2.length p.1.2.2.length 3 none)], some 0⟩, Bx 0, aU true 3 true (bh p.1.2.2)])) (fun p => p.1.1) ⟨(n, s0, []), hX, by simp, Nat.le_refl _⟩ ?_ ?_
 ·simp only [List.length_nil, show bh [] = [] from rfl]
  refine aJ [0, 1, 2, 3, 5] (by rfl) (by simp) (by simp [pl5, fg]) (by simp [fg])
  skip
 rintro ⟨⟨k, s1, xs⟩, hk1, hk2, hk3⟩ hk
 dsimp only at hk1 hk2 hk3 hk ⊢
 have fin : ∀ (env : bv) (ys : List (Int × Int × Int)) (s2 : Rs) (ex : List Ob), fI [Cr 1 s.cb, Rd s.l s.rb, Va sz R, Bx 0] env (Cr 1 s2.cb :: Rd s2.l s2.rb :: ⟨true, false, false, false, sz, [R.set j (.own 4 0 ys.length ys.length 3 none)], some 0⟩ :: Bx 0 :: aU true 3 true (bh ys) :: ex) env
   (Cr 1 s2.cb :: Rd s2.l s2.rb :: ⟨true, false, false, false, sz, [R.set j (L (bh ys))], some 0⟩ :: Bx 0 :: { aU true 3 true (bh ys) with fz := true } :: ex) := fun env ys s2 ex => by
  refine fI.trans (ct 4) ?_
  have := cE (base := [Cr 1 s.cb, Rd s.l s.rb, Va sz R, Bx 0]) (env := env) (σ := Cr 1 s2.cb :: Rd s2.l s2.rb :: ⟨true, false, false, false, sz, [R.set j (.own 4 0 ys.length ys.length 3 none)], some 0⟩ :: Bx 0 :: { aU true 3 true (bh ys) with fz := true } :: ex) (l := 2) (j := 0) (i := j) (m := 4) (rows := bh ys) rfl rfl rfl rfl (own1 _) rfl rfl (by
   rw [bL]
   show eU (some _) _ _ _ = _
   rw [bK]
   simp [cn, cu, aQ, cm])
  simp only [List.set_cons_zero, List.set_cons_succ, List.set_set] at this
  exact this
 by_cases hlt : 0 < k
 ·obtain ⟨k, rfl⟩ : ∃ k', k = k' + 1 := ⟨k - 1, by omega⟩
  have c1 : (((xs.length : Nat) : Int) < ((n : Nat) : Int)) = True := by simp; omega
  have he := yb s1 (by omega)
  have hle := oO s1
  unfold bz at hk1
  generalize jw s1 = q at he hk1 hle
  obtain ⟨v, s2⟩ := q
  dsimp only at he hk1 hle
  have hcell : uQ v = [.int .i64 v.1, .int .i64 v.2.1, .int .i64 v.2.2] := rfl
  rw [hcell] at he
  by_cases hb : s2.rb = true ∨ s2.cb = true
  ·rw [if_pos hb] at hk1
   rw [← hk1]
   obtain ⟨l2, rb2, cb2⟩ := s2
   dsimp only at he hb ⊢
   cases rb2
   ·obtain rfl : cb2 = true := by simpa using hb
    repeat' ((first | apply ai | apply ah | apply am | apply au | refine aq rfl ?_ | apply aj | apply ae | apply ak mixed | apply ap mixed | (with_reducible first | refine af ?_ | refine ar (f := .t 45) ?_ | refine ao ?_ | refine ab (he) (by simp) ?_) | refine av (bw _ _) ?_ ?_ | simp (disch := omega) only [bf, aG, aN, aO, bp, Int.tdiv_eq_ediv_of_nonneg, Int.tmod_eq_emod_of_nonneg] | ((first | refine ac ?_ ?_ | refine aa ?_ ?_) <;> intro hc <;> (try simp only [hc]) <;> try simp at hc) | (with_reducible refine ⟨?_, ?_⟩; (focus ((repeat' with_reducible refine ⟨?_, ?_⟩) <;> first | exact trivial | assumption | (simp; done) | (simp only [List.length_map] at *; omega) | omega | (simp [fs]; done) | exact ay))) | (with_reducible intro x hx) | omega) <;> (try simp only [c1, Nat.reduceBEq, reduceIte, Nat.reduceEqDiff, Nat.reduceAdd, Nat.reduceSub, Nat.reduceLT, reduceCtorEq, cond_false, ne_eq, fw, fd]))
    refine aW (fin _ xs ⟨l2, false, true⟩ [Va 3 [.int .i64 v.1, .int .i64 v.2.1, .int .i64 v.2.2]]) ?_
    repeat' ((first | apply ai | apply ah | apply am | apply au | refine aq rfl ?_ | apply al | apply aj | apply ae | apply ak mixed | apply ap mixed | (with_reducible first | refine af ?_ | refine ao ?_) | simp (disch := omega) only [bf, aG, aN, aO, bp, Int.tdiv_eq_ediv_of_nonneg, Int.tmod_eq_emod_of_nonneg] | ((first | refine ac ?_ ?_ | refine aa ?_ ?_) <;> intro hc <;> (try simp only [hc]) <;> try simp at hc) | (with_reducible refine ⟨?_, ?_⟩; (focus ((repeat' with_reducible refine ⟨?_, ?_⟩) <;> first | exact trivial | assumption | (simp; done) | (simp only [List.length_map] at *; omega) | omega | (simp [fs]; done) | exact ay))) | (with_reducible intro x hx) | omega) <;> (try simp only [bg, fw]))
    refine aw [0, 1, 2, 3] (by rfl) (by simp) (by simp [plL, allL, fg])
   ·repeat' ((first | apply ai | apply ah | apply am | apply au | refine aq rfl ?_ | apply aj | apply ae | apply ak mixed | apply ap mixed | (with_reducible first | refine af ?_ | refine ar (f := .t 45) ?_ | refine ao ?_ | refine ab (he) (by simp) ?_) | refine av (bw _ _) ?_ ?_ | simp (disch := omega) only [bf, aG, aN, aO, bp, Int.tdiv_eq_ediv_of_nonneg, Int.tmod_eq_emod_of_nonneg] | ((first | refine ac ?_ ?_ | refine aa ?_ ?_) <;> intro hc <;> (try simp only [hc]) <;> try simp at hc) | (with_reducible refine ⟨?_, ?_⟩; (focus ((repeat' with_reducible refine ⟨?_, ?_⟩) <;> first | exact trivial | assumption | (simp; done) | (simp only [List.length_map] at *; omega) | omega | (simp [fs]; done) | exact ay))) | (with_reducible intro x hx) | omega) <;> (try simp only [c1, Nat.reduceBEq, reduceIte, Nat.reduceEqDiff, Nat.reduceAdd, Nat.reduceSub, Nat.reduceLT, reduceCtorEq, cond_true, ne_eq, fw, fd]))
    refine aW (fin _ xs ⟨l2, true, cb2⟩ [Va 3 [.int .i64 v.1, .int .i64 v.2.1, .int .i64 v.2.2]]) ?_
    repeat' ((first | apply ai | apply ah | apply am | apply au | refine aq rfl ?_ | apply al | apply aj | apply ae | apply ak mixed | apply ap mixed | (with_reducible first | refine af ?_ | refine ao ?_) | simp (disch := omega) only [bf, aG, aN, aO, bp, Int.tdiv_eq_ediv_of_nonneg, Int.tmod_eq_emod_of_nonneg] | ((first | refine ac ?_ ?_ | refine aa ?_ ?_) <;> intro hc <;> (try simp only [hc]) <;> try simp at hc) | (with_reducible refine ⟨?_, ?_⟩; (focus ((repeat' with_reducible refine ⟨?_, ?_⟩) <;> first | exact trivial | assumption | (simp; done) | (simp only [List.length_map] at *; omega) | omega | (simp [fs]; done) | exact ay))) | (with_reducible intro x hx) | omega) <;> (try simp only [bg, fw]))
    refine aw [0, 1, 2, 3] (by rfl) (by simp) (by simp [plL, allL, fg])
  ·rw [if_neg hb] at hk1
   obtain ⟨l2, rb2, cb2⟩ := s2
   dsimp only at he hb hle hk1 ⊢
   obtain ⟨rfl, rfl⟩ : rb2 = false ∧ cb2 = false := by simpa using hb
   have hu : bh xs ++ [[.int .i64 v.1, .int .i64 v.2.1, .int .i64 v.2.2]] = bh (xs ++ [v]) := by simp [bh]
   repeat' ((first | apply ai | apply ah | apply am | apply au | refine aq rfl ?_ | apply al | apply aj | apply ae | apply ak mixed | apply ap mixed | (with_reducible first | refine af ?_ | refine ar (f := .t 45) ?_ | refine ao ?_ | refine ab (he) (by simp) ?_) | refine av (bw _ _) ?_ ?_ | simp (disch := omega) only [aG] | ((first | refine ac ?_ ?_ | refine aa ?_ ?_) <;> intro hc <;> (try simp only [hc]) <;> try simp at hc) | (with_reducible refine ⟨?_, ?_⟩; (focus ((repeat' with_reducible refine ⟨?_, ?_⟩) <;> first | exact trivial | assumption | (simp; done) | omega | (simp [fs]; done) | exact ay))) | (with_reducible intro x hx) | omega) <;> (try simp only [aQ, c1, own1, own2, hz', hu, Nat.reduceBEq, reduceIte, Nat.reduceEqDiff, Nat.reduceAdd, Nat.reduceSub, Nat.reduceLT, Nat.reduceLeDiff, reduceCtorEq, cond_false, ne_eq, fw, fd]))
   refine hk ⟨(k, ⟨l2, false, false⟩, xs ++ [v]), hk1, by rw [List.length_append, List.length_cons, List.length_nil]; omega, by dsimp only; omega⟩ _ _ (by dsimp only; omega) ?_
   dsimp only
   simp only [List.length_append, List.length_cons, List.length_nil]
   refine aJ [0, 1, 2, 3, 4] (by rfl) (by simp) (by simp [pl4, fg]) (by simp [fg])
   skip
 ·obtain rfl : k = 0 := by omega
  have c1 : (((xs.length : Nat) : Int) < ((n : Nat) : Int)) = False := by simp; omega
  unfold bz at hk1
  rw [← hk1]
  dsimp only
  refine aW (fin _ xs s1 []) ?_
  repeat' ((first | apply ai | apply ah | apply am | apply au | refine aq rfl ?_ | apply al | apply aj | apply ae | apply ak mixed | apply ap mixed | (with_reducible first | refine af ?_ | refine ao ?_) | simp (disch := omega) only [bf, aG, aN, aO, bp, Int.tdiv_eq_ediv_of_nonneg, Int.tmod_eq_emod_of_nonneg] | ((first | refine ac ?_ ?_ | refine aa ?_ ?_) <;> intro hc <;> (try simp only [hc]) <;> try simp at hc) | (with_reducible refine ⟨?_, ?_⟩; (focus ((repeat' with_reducible refine ⟨?_, ?_⟩) <;> first | exact trivial | assumption | (simp; done) | (simp only [List.length_map] at *; omega) | omega | (simp [fs]; done) | exact ay))) | (with_reducible intro x hx) | omega) <;> (try simp only [c1, Nat.reduceBEq, reduceIte, de, aY, bg, fw]))
  refine aw [0, 1, 2, 3] (by rfl) (by simp) (by simp [plL, allL, fg])
  skip
def jm (s : Rs) : (Int) × Rs := (((aA 109937 s).1 : Int), (aA 109937 s).2)
theorem pg (s : Rs) : (jm s).2.l.length ≤ s.l.length := (aH _ (by omega) _).1
theorem wK (s : Rs) (hl : s.l.length ≤ 1099511627776) :
  az Try.prog 64 [.ptr 0 0 0 1, .ptr 1 0 0 1] [Va 1 [.int .i64 0], Bx 2, Cr 3 s.cb, Rd s.l s.rb] (.tup [])
   [Va 1 (xn (jm s).1), Bx 2, Cr 3 (jm s).2.cb, Rd (jm s).2.l (jm s).2.rb] := by
 refine aK Try.func64 low64 (by simp [c64]) ?_
 simp only [c64]
 unfold jm
 have g1 := (aH 109937 (by omega) s).1
 have h1 : az Try.prog 32 [.ptr 0 0 0 1, .ptr 2 0 0 1, .int .u64 109937] [Cr 1 s.cb, Rd s.l s.rb, Va 1 [.int .i64 0]] (.tup []) [Cr 1 (aA 109937 s).2.cb, Rd (aA 109937 s).2.l (aA 109937 s).2.rb, Va 1 [.int .i64 (aA 109937 s).1]] := bJ s.l s.rb s.cb 1 [.int .i64 0] 0 109937 rfl (by omega) (by omega) (by omega)
 generalize aA 109937 s = q1 at h1 g1 ⊢
 obtain ⟨v1, s1⟩ := q1
 dsimp only at h1 g1 ⊢
 have hc : xn (v1 : Int) = [.int .i64 v1] := rfl
 rw [hc]
 repeat' ((first | apply ai | apply al | apply aj | apply ak mixed | (with_reducible first | refine af ?_ | refine ar (f := .c (.fn 32 [])) ?_ | refine ao ?_ | refine ab (h1) (by simp) ?_) | (with_reducible refine ⟨?_, ?_⟩; (focus ((repeat' with_reducible refine ⟨?_, ?_⟩) <;> first | exact trivial | assumption | (simp; done) | (simp only [List.length_map] at *; omega) | omega | (simp [fs]; done) | exact ay))) | (with_reducible intro x hx) | omega) <;> (try simp only [Nat.reduceBEq, reduceIte, Nat.reduceEqDiff, Nat.reduceAdd, Nat.reduceSub, Nat.reduceLT, reduceCtorEq, fw, fd]))
 refine aw [0, 1, 2, 3] (by rfl) (by simp) (by simp [fg])
set_option maxHeartbeats 4000000 in
theorem ve (s : Rs) (sz : Nat) (R : List D) (j most : Nat) (hR : R[j]? = some (.list (some true) true [])) (hz : R.length = sz) (hm : most < 1000000) (hl : s.l.length ≤ 1099511627776) :
  az Try.prog 63 [.ptr 0 0 0 1, .ptr 2 0 j 1, .int .i64 most, .fn 64 [.ptr 3 0 0 1]] [Cr 1 s.cb, Rd s.l s.rb, Va sz R, Bx 0] (.tup [])
   [Cr 1 (aM jm most s).2.cb, Rd (aM jm most s).2.l (aM jm most s).2.rb, Va sz (R.set j (L (aI .i64 (aM jm most s).1))), Bx 0] := by
 refine aK Try.func63 low63 (by simp [c63]) ?_
 simp only [c63]
 have hn : az Try.prog 34 [.ptr 0 0 0 1, .ptr 2 0 0 1, .int .u64 most] [Cr 1 s.cb, Rd s.l s.rb, Va 1 [.int .u64 0]] (.tup []) [Cr 1 (aA most s).2.cb, Rd (aA most s).2.l (aA most s).2.rb, Va 1 [.int .u64 (aA most s).1]] := cr s.l s.rb s.cb 1 [.int .u64 0] 0 most rfl (by omega) (by omega) hl
 obtain ⟨X, hX⟩ : ∃ X, aM jm most s = X := ⟨_, rfl⟩
 rw [hX]
 unfold aM at hX
 obtain ⟨g1, g2⟩ := aH most (by omega) s
 generalize aA most s = q at hn hX g1 g2
 obtain ⟨n, s0⟩ := q
 dsimp only at hn hX g1 g2
 have hj : j < R.length := (List.getElem?_eq_some_iff.1 hR).1
 have z0 : (((0 : Nat) : Int)) = 0 := rfl
 refine cZ 2 rfl rfl fun hpt => ?_
 have hpt : ∀ x ∈ R, x.pt1 = true := fun x hx => hpt R (by simp) x hx
 have own1 : ∀ d : D, (R.set j d)[j]? = some d := fun d => by rw [List.getElem?_set_self hj]
 have own2 : ∀ d e : D, (R.set j d).take j ++ [e] ++ (R.set j d).drop (j + 1) = R.set j e := fun d e => by
  rw [dt (by rw [List.length_set]; exact hj), List.set_set]
 have pl5 : ∀ (σ : List Ob) (k n : Nat), bq (bk true [0, 1, 2, 3, 5] σ) (R.set j (.own 5 0 k n 1 none)) = some (R.set j (.own 4 0 k n 1 none)) := fun σ k n => bE hpt rfl
 have pl4 : ∀ (σ : List Ob) (k n : Nat), bq (bk true [0, 1, 2, 3, 4] σ) (R.set j (.own 4 0 k n 1 none)) = some (R.set j (.own 4 0 k n 1 none)) := fun σ k n => bE hpt rfl
 have plL : ∀ (σ : List Ob) (rows : List (List D)), bq (bk true [0, 1, 2, 3] σ) (R.set j (.list none false rows)) = some (R.set j (.list none false rows)) := fun σ rows => dB hpt rfl
 have allL : ∀ rows : List (List D), (R.set j (.list none false rows)).all D.pt1 = true := fun rows => dz hpt rfl
 have hz' : (j + 1 ≤ sz) = True := eq_true (by omega)
 repeat' ((first | apply ai | apply ah | apply am | apply au | refine aq rfl ?_ | apply al | apply aj | apply ae | apply ak mixed | apply ap mixed | (with_reducible first | refine af ?_ | refine ar (f := .c (.fn 34 [])) ?_ | refine ao ?_ | refine ab (hn) (by simp) ?_) | simp (disch := omega) only [aG] | ((first | refine ac ?_ ?_ | refine aa ?_ ?_) <;> intro hc <;> (try simp only [hc]) <;> try simp at hc) | (with_reducible refine ⟨?_, ?_⟩; (focus ((repeat' with_reducible refine ⟨?_, ?_⟩) <;> first | exact trivial | assumption | (simp; done) | (simp only [List.length_map] at *; omega) | omega | (simp [fs]; done) | exact ay))) | (with_reducible intro x hx) | omega) <;> (try simp only [hR, z0, Nat.reduceBEq, reduceIte, Nat.reduceEqDiff, Nat.reduceAdd, Nat.reduceSub, Nat.reduceLT, reduceCtorEq, cond_false, ne_eq, fw, fd]))
 refine aW (cO (l := 2) (j := 0) (i := j) (b := true) 1 true (by decide) rfl rfl rfl rfl hR) ?_
 refine aT (ι := {p : Nat × Rs × List Int // bz jm p.1 p.2.1 p.2.2 = X ∧ p.2.2.length + p.1 = n ∧ p.2.1.l.length ≤ s0.l.length}) (fun p => ([(0, .ptr 0 0 0 1), (1, .ptr 2 0 j 1), (3, .fn 64 [.ptr 3 0 0 1]), (42, .int .u64 n), (43, .int .u64 p.1.2.2.length)],
  [Cr 1 p.1.2.1.cb, Rd p.1.2.1.l p.1.2.1.rb, ⟨true, false, false, false, sz, [R.set j (.own 4 0 p.1.2.2.length p.1.2.2.length 1 none)], some 0⟩, Bx 0, aU true 1 true (aI .i64 p.1.2.2)])) (fun p => p.1.1) ⟨(n, s0, []), hX, by simp, Nat.le_refl _⟩ ?_ ?_
 ·simp only [List.length_nil, show aI .i64 [] = [] from rfl]
  refine aJ [0, 1, 2, 3, 5] (by rfl) (by simp) (by simp [pl5, fg]) (by simp [fg])
  skip
 rintro ⟨⟨k, s1, xs⟩, hk1, hk2, hk3⟩ hk
 dsimp only at hk1 hk2 hk3 hk ⊢
 have fin : ∀ (env : bv) (ys : List Int) (s2 : Rs) (ex : List Ob), fI [Cr 1 s.cb, Rd s.l s.rb, Va sz R, Bx 0] env (Cr 1 s2.cb :: Rd s2.l s2.rb :: ⟨true, false, false, false, sz, [R.set j (.own 4 0 ys.length ys.length 1 none)], some 0⟩ :: Bx 0 :: aU true 1 true (aI .i64 ys) :: ex) env
   (Cr 1 s2.cb :: Rd s2.l s2.rb :: ⟨true, false, false, false, sz, [R.set j (L (aI .i64 ys))], some 0⟩ :: Bx 0 :: { aU true 1 true (aI .i64 ys) with fz := true } :: ex) := fun env ys s2 ex => by
  refine fI.trans (ct 4) ?_
  have := cE (base := [Cr 1 s.cb, Rd s.l s.rb, Va sz R, Bx 0]) (env := env) (σ := Cr 1 s2.cb :: Rd s2.l s2.rb :: ⟨true, false, false, false, sz, [R.set j (.own 4 0 ys.length ys.length 1 none)], some 0⟩ :: Bx 0 :: { aU true 1 true (aI .i64 ys) with fz := true } :: ex) (l := 2) (j := 0) (i := j) (m := 4) (rows := aI .i64 ys) rfl rfl rfl rfl (own1 _) rfl rfl (by
   rw [bL]
   show eU (some _) _ _ _ = _
   rw [bK]
   simp [cn, cu, aE, cm])
  simp only [List.set_cons_zero, List.set_cons_succ, List.set_set] at this
  exact this
 by_cases hlt : 0 < k
 ·obtain ⟨k, rfl⟩ : ∃ k', k = k' + 1 := ⟨k - 1, by omega⟩
  have c1 : (((xs.length : Nat) : Int) < ((n : Nat) : Int)) = True := by simp; omega
  have he := wK s1 (by omega)
  have hle := pg s1
  unfold bz at hk1
  generalize jm s1 = q at he hk1 hle
  obtain ⟨v, s2⟩ := q
  dsimp only at he hk1 hle
  have hcell : xn v = [.int .i64 v] := rfl
  rw [hcell] at he
  by_cases hb : s2.rb = true ∨ s2.cb = true
  ·rw [if_pos hb] at hk1
   rw [← hk1]
   obtain ⟨l2, rb2, cb2⟩ := s2
   dsimp only at he hb ⊢
   cases rb2
   ·obtain rfl : cb2 = true := by simpa using hb
    repeat' ((first | apply ai | apply ah | apply am | apply au | refine aq rfl ?_ | apply aj | apply ae | apply ak mixed | apply ap mixed | (with_reducible first | refine af ?_ | refine ar (f := .t 45) ?_ | refine ao ?_ | refine ab (he) (by simp) ?_) | refine av (bw _ _) ?_ ?_ | simp (disch := omega) only [bf, aG, aN, aO, bp, Int.tdiv_eq_ediv_of_nonneg, Int.tmod_eq_emod_of_nonneg] | ((first | refine ac ?_ ?_ | refine aa ?_ ?_) <;> intro hc <;> (try simp only [hc]) <;> try simp at hc) | (with_reducible refine ⟨?_, ?_⟩; (focus ((repeat' with_reducible refine ⟨?_, ?_⟩) <;> first | exact trivial | assumption | (simp; done) | (simp only [List.length_map] at *; omega) | omega | (simp [fs]; done) | exact ay))) | (with_reducible intro x hx) | omega) <;> (try simp only [c1, Nat.reduceBEq, reduceIte, Nat.reduceEqDiff, Nat.reduceAdd, Nat.reduceSub, Nat.reduceLT, reduceCtorEq, cond_false, ne_eq, fw, fd]))
    refine aW (fin _ xs ⟨l2, false, true⟩ [Va 1 [.int .i64 v]]) ?_
    repeat' ((first | apply ai | apply ah | apply am | apply au | refine aq rfl ?_ | apply al | apply aj | apply ae | apply ak mixed | apply ap mixed | (with_reducible first | refine af ?_ | refine ao ?_) | simp (disch := omega) only [bf, aG, aN, aO, bp, Int.tdiv_eq_ediv_of_nonneg, Int.tmod_eq_emod_of_nonneg] | ((first | refine ac ?_ ?_ | refine aa ?_ ?_) <;> intro hc <;> (try simp only [hc]) <;> try simp at hc) | (with_reducible refine ⟨?_, ?_⟩; (focus ((repeat' with_reducible refine ⟨?_, ?_⟩) <;> first | exact trivial | assumption | (simp; done) | (simp only [List.length_map] at *; omega) | omega | (simp [fs]; done) | exact ay))) | (with_reducible intro x hx) | omega) <;> (try simp only [bg, fw]))
    refine aw [0, 1, 2, 3] (by rfl) (by simp) (by simp [plL, allL, fg])
   ·repeat' ((first | apply ai | apply ah | apply am | apply au | refine aq rfl ?_ | apply aj | apply ae | apply ak mixed | apply ap mixed | (with_reducible first | refine af ?_ | refine ar (f := .t 45) ?_ | refine ao ?_ | refine ab (he) (by simp) ?_) | refine av (bw _ _) ?_ ?_ | simp (disch := omega) only [bf, aG, aN, aO, bp, Int.tdiv_eq_ediv_of_nonneg, Int.tmod_eq_emod_of_nonneg] | ((first | refine ac ?_ ?_ | refine aa ?_ ?_) <;> intro hc <;> (try simp only [hc]) <;> try simp at hc) | (with_reducible refine ⟨?_, ?_⟩; (focus ((repeat' with_reducible refine ⟨?_, ?_⟩) <;> first | exact trivial | assumption | (simp; done) | (simp only [List.length_map] at *; omega) | omega | (simp [fs]; done) | exact ay))) | (with_reducible intro x hx) | omega) <;> (try simp only [c1, Nat.reduceBEq, reduceIte, Nat.reduceEqDiff, Nat.reduceAdd, Nat.reduceSub, Nat.reduceLT, reduceCtorEq, cond_true, ne_eq, fw, fd]))
    refine aW (fin _ xs ⟨l2, true, cb2⟩ [Va 1 [.int .i64 v]]) ?_
    repeat' ((first | apply ai | apply ah | apply am | apply au | refine aq rfl ?_ | apply al | apply aj | apply ae | apply ak mixed | apply ap mixed | (with_reducible first | refine af ?_ | refine ao ?_) | simp (disch := omega) only [bf, aG, aN, aO, bp, Int.tdiv_eq_ediv_of_nonneg, Int.tmod_eq_emod_of_nonneg] | ((first | refine ac ?_ ?_ | refine aa ?_ ?_) <;> intro hc <;> (try simp only [hc]) <;> try simp at hc) | (with_reducible refine ⟨?_, ?_⟩; (focus ((repeat' with_reducible refine ⟨?_, ?_⟩) <;> first | exact trivial | assumption | (simp; done) | (simp only [List.length_map] at *; omega) | omega | (simp [fs]; done) | exact ay))) | (with_reducible intro x hx) | omega) <;> (try simp only [bg, fw]))
    refine aw [0, 1, 2, 3] (by rfl) (by simp) (by simp [plL, allL, fg])
  ·rw [if_neg hb] at hk1
   obtain ⟨l2, rb2, cb2⟩ := s2
   dsimp only at he hb hle hk1 ⊢
   obtain ⟨rfl, rfl⟩ : rb2 = false ∧ cb2 = false := by simpa using hb
   have hu : aI .i64 xs ++ [[.int .i64 v]] = aI .i64 (xs ++ [v]) := by simp [aI]
   repeat' ((first | apply ai | apply ah | apply am | apply au | refine aq rfl ?_ | apply al | apply aj | apply ae | apply ak mixed | apply ap mixed | (with_reducible first | refine af ?_ | refine ar (f := .t 45) ?_ | refine ao ?_ | refine ab (he) (by simp) ?_) | refine av (bw _ _) ?_ ?_ | simp (disch := omega) only [aG] | ((first | refine ac ?_ ?_ | refine aa ?_ ?_) <;> intro hc <;> (try simp only [hc]) <;> try simp at hc) | (with_reducible refine ⟨?_, ?_⟩; (focus ((repeat' with_reducible refine ⟨?_, ?_⟩) <;> first | exact trivial | assumption | (simp; done) | omega | (simp [fs]; done) | exact ay))) | (with_reducible intro x hx) | omega) <;> (try simp only [aE, c1, own1, own2, hz', hu, Nat.reduceBEq, reduceIte, Nat.reduceEqDiff, Nat.reduceAdd, Nat.reduceSub, Nat.reduceLT, Nat.reduceLeDiff, reduceCtorEq, cond_false, ne_eq, fw, fd]))
   refine hk ⟨(k, ⟨l2, false, false⟩, xs ++ [v]), hk1, by rw [List.length_append, List.length_cons, List.length_nil]; omega, by dsimp only; omega⟩ _ _ (by dsimp only; omega) ?_
   dsimp only
   simp only [List.length_append, List.length_cons, List.length_nil]
   refine aJ [0, 1, 2, 3, 4] (by rfl) (by simp) (by simp [pl4, fg]) (by simp [fg])
   skip
 ·obtain rfl : k = 0 := by omega
  have c1 : (((xs.length : Nat) : Int) < ((n : Nat) : Int)) = False := by simp; omega
  unfold bz at hk1
  rw [← hk1]
  dsimp only
  refine aW (fin _ xs s1 []) ?_
  repeat' ((first | apply ai | apply ah | apply am | apply au | refine aq rfl ?_ | apply al | apply aj | apply ae | apply ak mixed | apply ap mixed | (with_reducible first | refine af ?_ | refine ao ?_) | simp (disch := omega) only [bf, aG, aN, aO, bp, Int.tdiv_eq_ediv_of_nonneg, Int.tmod_eq_emod_of_nonneg] | ((first | refine ac ?_ ?_ | refine aa ?_ ?_) <;> intro hc <;> (try simp only [hc]) <;> try simp at hc) | (with_reducible refine ⟨?_, ?_⟩; (focus ((repeat' with_reducible refine ⟨?_, ?_⟩) <;> first | exact trivial | assumption | (simp; done) | (simp only [List.length_map] at *; omega) | omega | (simp [fs]; done) | exact ay))) | (with_reducible intro x hx) | omega) <;> (try simp only [c1, Nat.reduceBEq, reduceIte, de, aY, bg, fw]))
  refine aw [0, 1, 2, 3] (by rfl) (by simp) (by simp [plL, allL, fg])
  skip
def jg (s : Rs) : (Int) × Rs := (((fL (-400) 400 s).1 : Int), (fL (-400) 400 s).2)
theorem oQ (s : Rs) : (jg s).2.l.length ≤ s.l.length := fO _ _ _
theorem xm (s : Rs) (hl : s.l.length ≤ 1099511627776) :
  az Try.prog 96 [.ptr 0 0 0 1, .ptr 1 0 0 1] [Va 1 [.int .i64 0], Bx 2, Cr 3 s.cb, Rd s.l s.rb] (.tup [])
   [Va 1 (xw (jg s).1), Bx 2, Cr 3 (jg s).2.cb, Rd (jg s).2.l (jg s).2.rb] := by
 refine aK Try.func96 low96 (by simp [c96]) ?_
 simp only [c96]
 unfold jg
 have g1 := fO (-400) 400 s
 have h1 : az Try.prog 86 [.ptr 0 0 0 1, .ptr 2 0 0 1, .int .i64 (-400), .int .i64 400] [Cr 1 s.cb, Rd s.l s.rb, Va 1 [.int .i64 0]] (.tup []) [Cr 1 (fL (-400) 400 s).2.cb, Rd (fL (-400) 400 s).2.l (fL (-400) 400 s).2.rb, Va 1 [.int .i64 (fL (-400) 400 s).1]] := mJ s.l s.rb s.cb 1 [.int .i64 0] 0 (-400) 400 rfl (by omega) (by omega)
 generalize fL (-400) 400 s = q1 at h1 g1 ⊢
 obtain ⟨v1, s1⟩ := q1
 dsimp only at h1 g1 ⊢
 have hc : xw (v1 : Int) = [.int .i64 v1] := rfl
 rw [hc]
 repeat' ((first | apply ai | apply al | apply aj | apply ak mixed | (with_reducible first | refine af ?_ | refine ar (f := .c (.fn 86 [])) ?_ | refine ao ?_ | refine ab (h1) (by simp) ?_) | (with_reducible refine ⟨?_, ?_⟩; (focus ((repeat' with_reducible refine ⟨?_, ?_⟩) <;> first | exact trivial | assumption | (simp; done) | (simp only [List.length_map] at *; omega) | omega | (simp [fs]; done) | exact ay))) | (with_reducible intro x hx) | omega) <;> (try simp only [Nat.reduceBEq, reduceIte, Nat.reduceEqDiff, Nat.reduceAdd, Nat.reduceSub, Nat.reduceLT, reduceCtorEq, Int.reduceNeg, fw, fd]))
 refine aw [0, 1, 2, 3] (by rfl) (by simp) (by simp [fg])
set_option maxHeartbeats 4000000 in
theorem uC (s : Rs) (sz : Nat) (R : List D) (j most : Nat) (hR : R[j]? = some (.list (some true) true [])) (hz : R.length = sz) (hm : most < 1000000) (hl : s.l.length ≤ 1099511627776) :
  az Try.prog 63 [.ptr 0 0 0 1, .ptr 2 0 j 1, .int .i64 most, .fn 96 [.ptr 3 0 0 1]] [Cr 1 s.cb, Rd s.l s.rb, Va sz R, Bx 0] (.tup [])
   [Cr 1 (aM jg most s).2.cb, Rd (aM jg most s).2.l (aM jg most s).2.rb, Va sz (R.set j (L (aI .i64 (aM jg most s).1))), Bx 0] := by
 refine aK Try.func63 low63 (by simp [c63]) ?_
 simp only [c63]
 have hn : az Try.prog 34 [.ptr 0 0 0 1, .ptr 2 0 0 1, .int .u64 most] [Cr 1 s.cb, Rd s.l s.rb, Va 1 [.int .u64 0]] (.tup []) [Cr 1 (aA most s).2.cb, Rd (aA most s).2.l (aA most s).2.rb, Va 1 [.int .u64 (aA most s).1]] := cr s.l s.rb s.cb 1 [.int .u64 0] 0 most rfl (by omega) (by omega) hl
 obtain ⟨X, hX⟩ : ∃ X, aM jg most s = X := ⟨_, rfl⟩
 rw [hX]
 unfold aM at hX
 obtain ⟨g1, g2⟩ := aH most (by omega) s
 generalize aA most s = q at hn hX g1 g2
 obtain ⟨n, s0⟩ := q
 dsimp only at hn hX g1 g2
 have hj : j < R.length := (List.getElem?_eq_some_iff.1 hR).1
 have z0 : (((0 : Nat) : Int)) = 0 := rfl
 refine cZ 2 rfl rfl fun hpt => ?_
 have hpt : ∀ x ∈ R, x.pt1 = true := fun x hx => hpt R (by simp) x hx
 have own1 : ∀ d : D, (R.set j d)[j]? = some d := fun d => by rw [List.getElem?_set_self hj]
 have own2 : ∀ d e : D, (R.set j d).take j ++ [e] ++ (R.set j d).drop (j + 1) = R.set j e := fun d e => by
  rw [dt (by rw [List.length_set]; exact hj), List.set_set]
 have pl5 : ∀ (σ : List Ob) (k n : Nat), bq (bk true [0, 1, 2, 3, 5] σ) (R.set j (.own 5 0 k n 1 none)) = some (R.set j (.own 4 0 k n 1 none)) := fun σ k n => bE hpt rfl
 have pl4 : ∀ (σ : List Ob) (k n : Nat), bq (bk true [0, 1, 2, 3, 4] σ) (R.set j (.own 4 0 k n 1 none)) = some (R.set j (.own 4 0 k n 1 none)) := fun σ k n => bE hpt rfl
 have plL : ∀ (σ : List Ob) (rows : List (List D)), bq (bk true [0, 1, 2, 3] σ) (R.set j (.list none false rows)) = some (R.set j (.list none false rows)) := fun σ rows => dB hpt rfl
 have allL : ∀ rows : List (List D), (R.set j (.list none false rows)).all D.pt1 = true := fun rows => dz hpt rfl
 have hz' : (j + 1 ≤ sz) = True := eq_true (by omega)
 repeat' ((first | apply ai | apply ah | apply am | apply au | refine aq rfl ?_ | apply al | apply aj | apply ae | apply ak mixed | apply ap mixed | (with_reducible first | refine af ?_ | refine ar (f := .c (.fn 34 [])) ?_ | refine ao ?_ | refine ab (hn) (by simp) ?_) | simp (disch := omega) only [aG] | ((first | refine ac ?_ ?_ | refine aa ?_ ?_) <;> intro hc <;> (try simp only [hc]) <;> try simp at hc) | (with_reducible refine ⟨?_, ?_⟩; (focus ((repeat' with_reducible refine ⟨?_, ?_⟩) <;> first | exact trivial | assumption | (simp; done) | (simp only [List.length_map] at *; omega) | omega | (simp [fs]; done) | exact ay))) | (with_reducible intro x hx) | omega) <;> (try simp only [hR, z0, Nat.reduceBEq, reduceIte, Nat.reduceEqDiff, Nat.reduceAdd, Nat.reduceSub, Nat.reduceLT, reduceCtorEq, cond_false, ne_eq, fw, fd]))
 refine aW (cO (l := 2) (j := 0) (i := j) (b := true) 1 true (by decide) rfl rfl rfl rfl hR) ?_
 refine aT (ι := {p : Nat × Rs × List Int // bz jg p.1 p.2.1 p.2.2 = X ∧ p.2.2.length + p.1 = n ∧ p.2.1.l.length ≤ s0.l.length}) (fun p => ([(0, .ptr 0 0 0 1), (1, .ptr 2 0 j 1), (3, .fn 96 [.ptr 3 0 0 1]), (42, .int .u64 n), (43, .int .u64 p.1.2.2.length)],
  [Cr 1 p.1.2.1.cb, Rd p.1.2.1.l p.1.2.1.rb, ⟨true, false, false, false, sz, [R.set j (.own 4 0 p.1.2.2.length p.1.2.2.length 1 none)], some 0⟩, Bx 0, aU true 1 true (aI .i64 p.1.2.2)])) (fun p => p.1.1) ⟨(n, s0, []), hX, by simp, Nat.le_refl _⟩ ?_ ?_
 ·simp only [List.length_nil, show aI .i64 [] = [] from rfl]
  refine aJ [0, 1, 2, 3, 5] (by rfl) (by simp) (by simp [pl5, fg]) (by simp [fg])
  skip
 rintro ⟨⟨k, s1, xs⟩, hk1, hk2, hk3⟩ hk
 dsimp only at hk1 hk2 hk3 hk ⊢
 have fin : ∀ (env : bv) (ys : List Int) (s2 : Rs) (ex : List Ob), fI [Cr 1 s.cb, Rd s.l s.rb, Va sz R, Bx 0] env (Cr 1 s2.cb :: Rd s2.l s2.rb :: ⟨true, false, false, false, sz, [R.set j (.own 4 0 ys.length ys.length 1 none)], some 0⟩ :: Bx 0 :: aU true 1 true (aI .i64 ys) :: ex) env
   (Cr 1 s2.cb :: Rd s2.l s2.rb :: ⟨true, false, false, false, sz, [R.set j (L (aI .i64 ys))], some 0⟩ :: Bx 0 :: { aU true 1 true (aI .i64 ys) with fz := true } :: ex) := fun env ys s2 ex => by
  refine fI.trans (ct 4) ?_
  have := cE (base := [Cr 1 s.cb, Rd s.l s.rb, Va sz R, Bx 0]) (env := env) (σ := Cr 1 s2.cb :: Rd s2.l s2.rb :: ⟨true, false, false, false, sz, [R.set j (.own 4 0 ys.length ys.length 1 none)], some 0⟩ :: Bx 0 :: { aU true 1 true (aI .i64 ys) with fz := true } :: ex) (l := 2) (j := 0) (i := j) (m := 4) (rows := aI .i64 ys) rfl rfl rfl rfl (own1 _) rfl rfl (by
   rw [bL]
   show eU (some _) _ _ _ = _
   rw [bK]
   simp [cn, cu, aE, cm])
  simp only [List.set_cons_zero, List.set_cons_succ, List.set_set] at this
  exact this
 by_cases hlt : 0 < k
 ·obtain ⟨k, rfl⟩ : ∃ k', k = k' + 1 := ⟨k - 1, by omega⟩
  have c1 : (((xs.length : Nat) : Int) < ((n : Nat) : Int)) = True := by simp; omega
  have he := xm s1 (by omega)
  have hle := oQ s1
  unfold bz at hk1
  generalize jg s1 = q at he hk1 hle
  obtain ⟨v, s2⟩ := q
  dsimp only at he hk1 hle
  have hcell : xw v = [.int .i64 v] := rfl
  rw [hcell] at he
  by_cases hb : s2.rb = true ∨ s2.cb = true
  ·rw [if_pos hb] at hk1
   rw [← hk1]
   obtain ⟨l2, rb2, cb2⟩ := s2
   dsimp only at he hb ⊢
   cases rb2
   ·obtain rfl : cb2 = true := by simpa using hb
    repeat' ((first | apply ai | apply ah | apply am | apply au | refine aq rfl ?_ | apply aj | apply ae | apply ak mixed | apply ap mixed | (with_reducible first | refine af ?_ | refine ar (f := .t 45) ?_ | refine ao ?_ | refine ab (he) (by simp) ?_) | refine av (bw _ _) ?_ ?_ | simp (disch := omega) only [bf, aG, aN, aO, bp, Int.tdiv_eq_ediv_of_nonneg, Int.tmod_eq_emod_of_nonneg] | ((first | refine ac ?_ ?_ | refine aa ?_ ?_) <;> intro hc <;> (try simp only [hc]) <;> try simp at hc) | (with_reducible refine ⟨?_, ?_⟩; (focus ((repeat' with_reducible refine ⟨?_, ?_⟩) <;> first | exact trivial | assumption | (simp; done) | (simp only [List.length_map] at *; omega) | omega | (simp [fs]; done) | exact ay))) | (with_reducible intro x hx) | omega) <;> (try simp only [c1, Nat.reduceBEq, reduceIte, Nat.reduceEqDiff, Nat.reduceAdd, Nat.reduceSub, Nat.reduceLT, reduceCtorEq, cond_false, ne_eq, fw, fd]))
    refine aW (fin _ xs ⟨l2, false, true⟩ [Va 1 [.int .i64 v]]) ?_
    repeat' ((first | apply ai | apply ah | apply am | apply au | refine aq rfl ?_ | apply al | apply aj | apply ae | apply ak mixed | apply ap mixed | (with_reducible first | refine af ?_ | refine ao ?_) | simp (disch := omega) only [bf, aG, aN, aO, bp, Int.tdiv_eq_ediv_of_nonneg, Int.tmod_eq_emod_of_nonneg] | ((first | refine ac ?_ ?_ | refine aa ?_ ?_) <;> intro hc <;> (try simp only [hc]) <;> try simp at hc) | (with_reducible refine ⟨?_, ?_⟩; (focus ((repeat' with_reducible refine ⟨?_, ?_⟩) <;> first | exact trivial | assumption | (simp; done) | (simp only [List.length_map] at *; omega) | omega | (simp [fs]; done) | exact ay))) | (with_reducible intro x hx) | omega) <;> (try simp only [bg, fw]))
    refine aw [0, 1, 2, 3] (by rfl) (by simp) (by simp [plL, allL, fg])
   ·repeat' ((first | apply ai | apply ah | apply am | apply au | refine aq rfl ?_ | apply aj | apply ae | apply ak mixed | apply ap mixed | (with_reducible first | refine af ?_ | refine ar (f := .t 45) ?_ | refine ao ?_ | refine ab (he) (by simp) ?_) | refine av (bw _ _) ?_ ?_ | simp (disch := omega) only [bf, aG, aN, aO, bp, Int.tdiv_eq_ediv_of_nonneg, Int.tmod_eq_emod_of_nonneg] | ((first | refine ac ?_ ?_ | refine aa ?_ ?_) <;> intro hc <;> (try simp only [hc]) <;> try simp at hc) | (with_reducible refine ⟨?_, ?_⟩; (focus ((repeat' with_reducible refine ⟨?_, ?_⟩) <;> first | exact trivial | assumption | (simp; done) | (simp only [List.length_map] at *; omega) | omega | (simp [fs]; done) | exact ay))) | (with_reducible intro x hx) | omega) <;> (try simp only [c1, Nat.reduceBEq, reduceIte, Nat.reduceEqDiff, Nat.reduceAdd, Nat.reduceSub, Nat.reduceLT, reduceCtorEq, cond_true, ne_eq, fw, fd]))
    refine aW (fin _ xs ⟨l2, true, cb2⟩ [Va 1 [.int .i64 v]]) ?_
    repeat' ((first | apply ai | apply ah | apply am | apply au | refine aq rfl ?_ | apply al | apply aj | apply ae | apply ak mixed | apply ap mixed | (with_reducible first | refine af ?_ | refine ao ?_) | simp (disch := omega) only [bf, aG, aN, aO, bp, Int.tdiv_eq_ediv_of_nonneg, Int.tmod_eq_emod_of_nonneg] | ((first | refine ac ?_ ?_ | refine aa ?_ ?_) <;> intro hc <;> (try simp only [hc]) <;> try simp at hc) | (with_reducible refine ⟨?_, ?_⟩; (focus ((repeat' with_reducible refine ⟨?_, ?_⟩) <;> first | exact trivial | assumption | (simp; done) | (simp only [List.length_map] at *; omega) | omega | (simp [fs]; done) | exact ay))) | (with_reducible intro x hx) | omega) <;> (try simp only [bg, fw]))
    refine aw [0, 1, 2, 3] (by rfl) (by simp) (by simp [plL, allL, fg])
  ·rw [if_neg hb] at hk1
   obtain ⟨l2, rb2, cb2⟩ := s2
   dsimp only at he hb hle hk1 ⊢
   obtain ⟨rfl, rfl⟩ : rb2 = false ∧ cb2 = false := by simpa using hb
   have hu : aI .i64 xs ++ [[.int .i64 v]] = aI .i64 (xs ++ [v]) := by simp [aI]
   repeat' ((first | apply ai | apply ah | apply am | apply au | refine aq rfl ?_ | apply al | apply aj | apply ae | apply ak mixed | apply ap mixed | (with_reducible first | refine af ?_ | refine ar (f := .t 45) ?_ | refine ao ?_ | refine ab (he) (by simp) ?_) | refine av (bw _ _) ?_ ?_ | simp (disch := omega) only [aG] | ((first | refine ac ?_ ?_ | refine aa ?_ ?_) <;> intro hc <;> (try simp only [hc]) <;> try simp at hc) | (with_reducible refine ⟨?_, ?_⟩; (focus ((repeat' with_reducible refine ⟨?_, ?_⟩) <;> first | exact trivial | assumption | (simp; done) | omega | (simp [fs]; done) | exact ay))) | (with_reducible intro x hx) | omega) <;> (try simp only [aE, c1, own1, own2, hz', hu, Nat.reduceBEq, reduceIte, Nat.reduceEqDiff, Nat.reduceAdd, Nat.reduceSub, Nat.reduceLT, Nat.reduceLeDiff, reduceCtorEq, cond_false, ne_eq, fw, fd]))
   refine hk ⟨(k, ⟨l2, false, false⟩, xs ++ [v]), hk1, by rw [List.length_append, List.length_cons, List.length_nil]; omega, by dsimp only; omega⟩ _ _ (by dsimp only; omega) ?_
   dsimp only
   simp only [List.length_append, List.length_cons, List.length_nil]
   refine aJ [0, 1, 2, 3, 4] (by rfl) (by simp) (by simp [pl4, fg]) (by simp [fg])
   skip
 ·obtain rfl : k = 0 := by omega
  have c1 : (((xs.length : Nat) : Int) < ((n : Nat) : Int)) = False := by simp; omega
  unfold bz at hk1
  rw [← hk1]
  dsimp only
  refine aW (fin _ xs s1 []) ?_
  repeat' ((first | apply ai | apply ah | apply am | apply au | refine aq rfl ?_ | apply al | apply aj | apply ae | apply ak mixed | apply ap mixed | (with_reducible first | refine af ?_ | refine ao ?_) | simp (disch := omega) only [bf, aG, aN, aO, bp, Int.tdiv_eq_ediv_of_nonneg, Int.tmod_eq_emod_of_nonneg] | ((first | refine ac ?_ ?_ | refine aa ?_ ?_) <;> intro hc <;> (try simp only [hc]) <;> try simp at hc) | (with_reducible refine ⟨?_, ?_⟩; (focus ((repeat' with_reducible refine ⟨?_, ?_⟩) <;> first | exact trivial | assumption | (simp; done) | (simp only [List.length_map] at *; omega) | omega | (simp [fs]; done) | exact ay))) | (with_reducible intro x hx) | omega) <;> (try simp only [c1, Nat.reduceBEq, reduceIte, de, aY, bg, fw]))
  refine aw [0, 1, 2, 3] (by rfl) (by simp) (by simp [plL, allL, fg])
  skip
def jn (s : Rs) : (Int × Int) × Rs := ((((fL (-5) 5 s).1 : Int), ((aA 6 (fL (-5) 5 s).2).1 : Int)), (aA 6 (fL (-5) 5 s).2).2)
theorem oE (s : Rs) : (jn s).2.l.length ≤ s.l.length := Nat.le_trans ((aH _ (by omega) _).1) (fO _ _ _)
theorem wn (s : Rs) (hl : s.l.length ≤ 1099511627776) :
  az Try.prog 93 [.ptr 0 0 0 1, .ptr 1 0 0 1] [Va 2 [.int .i64 0, .int .i64 0], Bx 2, Cr 3 s.cb, Rd s.l s.rb] (.tup [])
   [Va 2 (vA (jn s).1), Bx 2, Cr 3 (jn s).2.cb, Rd (jn s).2.l (jn s).2.rb] := by
 refine aK Try.func93 low93 (by simp [c93]) ?_
 simp only [c93]
 unfold jn
 have g1 := fO (-5) 5 s
 have h1 : az Try.prog 86 [.ptr 0 0 0 1, .ptr 2 0 0 1, .int .i64 (-5), .int .i64 5] [Cr 1 s.cb, Rd s.l s.rb, Va 2 [.int .i64 0, .int .i64 0]] (.tup []) [Cr 1 (fL (-5) 5 s).2.cb, Rd (fL (-5) 5 s).2.l (fL (-5) 5 s).2.rb, Va 2 [.int .i64 (fL (-5) 5 s).1, .int .i64 0]] := mJ s.l s.rb s.cb 2 [.int .i64 0, .int .i64 0] 0 (-5) 5 rfl (by omega) (by omega)
 generalize fL (-5) 5 s = q1 at h1 g1 ⊢
 obtain ⟨v1, s1⟩ := q1
 dsimp only at h1 g1 ⊢
 have g2 := (aH 6 (by omega) s1).1
 have h2 : az Try.prog 32 [.ptr 0 0 0 1, .ptr 2 0 1 1, .int .u64 6] [Cr 1 s1.cb, Rd s1.l s1.rb, Va 2 [.int .i64 v1, .int .i64 0]] (.tup []) [Cr 1 (aA 6 s1).2.cb, Rd (aA 6 s1).2.l (aA 6 s1).2.rb, Va 2 [.int .i64 v1, .int .i64 (aA 6 s1).1]] := bJ s1.l s1.rb s1.cb 2 [.int .i64 v1, .int .i64 0] 1 6 rfl (by omega) (by omega) (by omega)
 generalize aA 6 s1 = q2 at h2 g2 ⊢
 obtain ⟨v2, s2⟩ := q2
 dsimp only at h2 g2 ⊢
 have hc : vA ((v1 : Int), (v2 : Int)) = [.int .i64 v1, .int .i64 v2] := rfl
 rw [hc]
 repeat' ((first | apply ai | apply al | apply aj | apply ap mixed | (with_reducible first | refine af ?_ | refine aD (f := .c (.fn 86 [])) ?_ | refine aD (f := .c (.fn 32 [])) ?_ | refine aC ?_ | refine ab (h1) (by simp) ?_ | refine ab (h2) (by simp) ?_) | (with_reducible refine ⟨?_, ?_⟩; (focus ((repeat' with_reducible refine ⟨?_, ?_⟩) <;> first | exact trivial | assumption | (simp; done) | (simp only [List.length_map] at *; omega) | omega | (simp [fs]; done) | exact ay))) | (with_reducible intro x hx) | omega) <;> (try simp only [Nat.reduceBEq, reduceIte, Nat.reduceEqDiff, Nat.reduceAdd, Nat.reduceSub, Nat.reduceLT, reduceCtorEq, Int.reduceNeg, fw, fd]))
 refine aw [0, 1, 2, 3] (by rfl) (by simp) (by simp [fg])
set_option maxHeartbeats 4000000 in
theorem uY (s : Rs) (sz : Nat) (R : List D) (j most : Nat) (hR : R[j]? = some (.list (some true) true [])) (hz : R.length = sz) (hm : most < 1000000) (hl : s.l.length ≤ 1099511627776) :
  az Try.prog 92 [.ptr 0 0 0 1, .ptr 2 0 j 1, .int .i64 most, .fn 93 [.ptr 3 0 0 1]] [Cr 1 s.cb, Rd s.l s.rb, Va sz R, Bx 0] (.tup [])
   [Cr 1 (aM jn most s).2.cb, Rd (aM jn most s).2.l (aM jn most s).2.rb, Va sz (R.set j (L (aS .i64 .i64 (aM jn most s).1))), Bx 0] := by
 refine aK Try.func92 low92 (by simp [c92]) ?_
 simp only [c92]
 have hn : az Try.prog 34 [.ptr 0 0 0 1, .ptr 2 0 0 1, .int .u64 most] [Cr 1 s.cb, Rd s.l s.rb, Va 1 [.int .u64 0]] (.tup []) [Cr 1 (aA most s).2.cb, Rd (aA most s).2.l (aA most s).2.rb, Va 1 [.int .u64 (aA most s).1]] := cr s.l s.rb s.cb 1 [.int .u64 0] 0 most rfl (by omega) (by omega) hl
 obtain ⟨X, hX⟩ : ∃ X, aM jn most s = X := ⟨_, rfl⟩
 rw [hX]
 unfold aM at hX
 obtain ⟨g1, g2⟩ := aH most (by omega) s
 generalize aA most s = q at hn hX g1 g2
 obtain ⟨n, s0⟩ := q
 dsimp only at hn hX g1 g2
 have hj : j < R.length := (List.getElem?_eq_some_iff.1 hR).1
 have z0 : (((0 : Nat) : Int)) = 0 := rfl
 refine cZ 2 rfl rfl fun hpt => ?_
 have hpt : ∀ x ∈ R, x.pt1 = true := fun x hx => hpt R (by simp) x hx
 have own1 : ∀ d : D, (R.set j d)[j]? = some d := fun d => by rw [List.getElem?_set_self hj]
 have own2 : ∀ d e : D, (R.set j d).take j ++ [e] ++ (R.set j d).drop (j + 1) = R.set j e := fun d e => by
  rw [dt (by rw [List.length_set]; exact hj), List.set_set]
 have pl5 : ∀ (σ : List Ob) (k n : Nat), bq (bk true [0, 1, 2, 3, 5] σ) (R.set j (.own 5 0 k n 2 none)) = some (R.set j (.own 4 0 k n 2 none)) := fun σ k n => bE hpt rfl
 have pl4 : ∀ (σ : List Ob) (k n : Nat), bq (bk true [0, 1, 2, 3, 4] σ) (R.set j (.own 4 0 k n 2 none)) = some (R.set j (.own 4 0 k n 2 none)) := fun σ k n => bE hpt rfl
 have plL : ∀ (σ : List Ob) (rows : List (List D)), bq (bk true [0, 1, 2, 3] σ) (R.set j (.list none false rows)) = some (R.set j (.list none false rows)) := fun σ rows => dB hpt rfl
 have allL : ∀ rows : List (List D), (R.set j (.list none false rows)).all D.pt1 = true := fun rows => dz hpt rfl
 have hz' : (j + 1 ≤ sz) = True := eq_true (by omega)
 repeat' ((first | apply ai | apply ah | apply am | apply au | refine aq rfl ?_ | apply al | apply aj | apply ae | apply ak mixed | apply ap mixed | (with_reducible first | refine af ?_ | refine ar (f := .c (.fn 34 [])) ?_ | refine ao ?_ | refine ab (hn) (by simp) ?_) | simp (disch := omega) only [aG] | ((first | refine ac ?_ ?_ | refine aa ?_ ?_) <;> intro hc <;> (try simp only [hc]) <;> try simp at hc) | (with_reducible refine ⟨?_, ?_⟩; (focus ((repeat' with_reducible refine ⟨?_, ?_⟩) <;> first | exact trivial | assumption | (simp; done) | (simp only [List.length_map] at *; omega) | omega | (simp [fs]; done) | exact ay))) | (with_reducible intro x hx) | omega) <;> (try simp only [hR, z0, Nat.reduceBEq, reduceIte, Nat.reduceEqDiff, Nat.reduceAdd, Nat.reduceSub, Nat.reduceLT, reduceCtorEq, cond_false, ne_eq, fw, fd]))
 refine aW (cO (l := 2) (j := 0) (i := j) (b := true) 2 true (by decide) rfl rfl rfl rfl hR) ?_
 refine aT (ι := {p : Nat × Rs × List (Int × Int) // bz jn p.1 p.2.1 p.2.2 = X ∧ p.2.2.length + p.1 = n ∧ p.2.1.l.length ≤ s0.l.length}) (fun p => ([(0, .ptr 0 0 0 1), (1, .ptr 2 0 j 1), (3, .fn 93 [.ptr 3 0 0 1]), (42, .int .u64 n), (43, .int .u64 p.1.2.2.length)],
  [Cr 1 p.1.2.1.cb, Rd p.1.2.1.l p.1.2.1.rb, ⟨true, false, false, false, sz, [R.set j (.own 4 0 p.1.2.2.length p.1.2.2.length 2 none)], some 0⟩, Bx 0, aU true 2 true (aS .i64 .i64 p.1.2.2)])) (fun p => p.1.1) ⟨(n, s0, []), hX, by simp, Nat.le_refl _⟩ ?_ ?_
 ·simp only [List.length_nil, show aS .i64 .i64 [] = [] from rfl]
  refine aJ [0, 1, 2, 3, 5] (by rfl) (by simp) (by simp [pl5, fg]) (by simp [fg])
  skip
 rintro ⟨⟨k, s1, xs⟩, hk1, hk2, hk3⟩ hk
 dsimp only at hk1 hk2 hk3 hk ⊢
 have fin : ∀ (env : bv) (ys : List (Int × Int)) (s2 : Rs) (ex : List Ob), fI [Cr 1 s.cb, Rd s.l s.rb, Va sz R, Bx 0] env (Cr 1 s2.cb :: Rd s2.l s2.rb :: ⟨true, false, false, false, sz, [R.set j (.own 4 0 ys.length ys.length 2 none)], some 0⟩ :: Bx 0 :: aU true 2 true (aS .i64 .i64 ys) :: ex) env
   (Cr 1 s2.cb :: Rd s2.l s2.rb :: ⟨true, false, false, false, sz, [R.set j (L (aS .i64 .i64 ys))], some 0⟩ :: Bx 0 :: { aU true 2 true (aS .i64 .i64 ys) with fz := true } :: ex) := fun env ys s2 ex => by
  refine fI.trans (ct 4) ?_
  have := cE (base := [Cr 1 s.cb, Rd s.l s.rb, Va sz R, Bx 0]) (env := env) (σ := Cr 1 s2.cb :: Rd s2.l s2.rb :: ⟨true, false, false, false, sz, [R.set j (.own 4 0 ys.length ys.length 2 none)], some 0⟩ :: Bx 0 :: { aU true 2 true (aS .i64 .i64 ys) with fz := true } :: ex) (l := 2) (j := 0) (i := j) (m := 4) (rows := aS .i64 .i64 ys) rfl rfl rfl rfl (own1 _) rfl rfl (by
   rw [bL]
   show eU (some _) _ _ _ = _
   rw [bK]
   simp [cn, cu, aF, cm])
  simp only [List.set_cons_zero, List.set_cons_succ, List.set_set] at this
  exact this
 by_cases hlt : 0 < k
 ·obtain ⟨k, rfl⟩ : ∃ k', k = k' + 1 := ⟨k - 1, by omega⟩
  have c1 : (((xs.length : Nat) : Int) < ((n : Nat) : Int)) = True := by simp; omega
  have he := wn s1 (by omega)
  have hle := oE s1
  unfold bz at hk1
  generalize jn s1 = q at he hk1 hle
  obtain ⟨v, s2⟩ := q
  dsimp only at he hk1 hle
  have hcell : vA v = [.int .i64 v.1, .int .i64 v.2] := rfl
  rw [hcell] at he
  by_cases hb : s2.rb = true ∨ s2.cb = true
  ·rw [if_pos hb] at hk1
   rw [← hk1]
   obtain ⟨l2, rb2, cb2⟩ := s2
   dsimp only at he hb ⊢
   cases rb2
   ·obtain rfl : cb2 = true := by simpa using hb
    repeat' ((first | apply ai | apply ah | apply am | apply au | refine aq rfl ?_ | apply aj | apply ae | apply ak mixed | apply ap mixed | (with_reducible first | refine af ?_ | refine ar (f := .t 45) ?_ | refine ao ?_ | refine ab (he) (by simp) ?_) | refine av (bw _ _) ?_ ?_ | simp (disch := omega) only [bf, aG, aN, aO, bp, Int.tdiv_eq_ediv_of_nonneg, Int.tmod_eq_emod_of_nonneg] | ((first | refine ac ?_ ?_ | refine aa ?_ ?_) <;> intro hc <;> (try simp only [hc]) <;> try simp at hc) | (with_reducible refine ⟨?_, ?_⟩; (focus ((repeat' with_reducible refine ⟨?_, ?_⟩) <;> first | exact trivial | assumption | (simp; done) | (simp only [List.length_map] at *; omega) | omega | (simp [fs]; done) | exact ay))) | (with_reducible intro x hx) | omega) <;> (try simp only [c1, Nat.reduceBEq, reduceIte, Nat.reduceEqDiff, Nat.reduceAdd, Nat.reduceSub, Nat.reduceLT, reduceCtorEq, cond_false, ne_eq, fw, fd]))
    refine aW (fin _ xs ⟨l2, false, true⟩ [Va 2 [.int .i64 v.1, .int .i64 v.2]]) ?_
    repeat' ((first | apply ai | apply ah | apply am | apply au | refine aq rfl ?_ | apply al | apply aj | apply ae | apply ak mixed | apply ap mixed | (with_reducible first | refine af ?_ | refine ao ?_) | simp (disch := omega) only [bf, aG, aN, aO, bp, Int.tdiv_eq_ediv_of_nonneg, Int.tmod_eq_emod_of_nonneg] | ((first | refine ac ?_ ?_ | refine aa ?_ ?_) <;> intro hc <;> (try simp only [hc]) <;> try simp at hc) | (with_reducible refine ⟨?_, ?_⟩; (focus ((repeat' with_reducible refine ⟨?_, ?_⟩) <;> first | exact trivial | assumption | (simp; done) | (simp only [List.length_map] at *; omega) | omega | (simp [fs]; done) | exact ay))) | (with_reducible intro x hx) | omega) <;> (try simp only [bg, fw]))
    refine aw [0, 1, 2, 3] (by rfl) (by simp) (by simp [plL, allL, fg])
   ·repeat' ((first | apply ai | apply ah | apply am | apply au | refine aq rfl ?_ | apply aj | apply ae | apply ak mixed | apply ap mixed | (with_reducible first | refine af ?_ | refine ar (f := .t 45) ?_ | refine ao ?_ | refine ab (he) (by simp) ?_) | refine av (bw _ _) ?_ ?_ | simp (disch := omega) only [bf, aG, aN, aO, bp, Int.tdiv_eq_ediv_of_nonneg, Int.tmod_eq_emod_of_nonneg] | ((first | refine ac ?_ ?_ | refine aa ?_ ?_) <;> intro hc <;> (try simp only [hc]) <;> try simp at hc) | (with_reducible refine ⟨?_, ?_⟩; (focus ((repeat' with_reducible refine ⟨?_, ?_⟩) <;> first | exact trivial | assumption | (simp; done) | (simp only [List.length_map] at *; omega) | omega | (simp [fs]; done) | exact ay))) | (with_reducible intro x hx) | omega) <;> (try simp only [c1, Nat.reduceBEq, reduceIte, Nat.reduceEqDiff, Nat.reduceAdd, Nat.reduceSub, Nat.reduceLT, reduceCtorEq, cond_true, ne_eq, fw, fd]))
    refine aW (fin _ xs ⟨l2, true, cb2⟩ [Va 2 [.int .i64 v.1, .int .i64 v.2]]) ?_
    repeat' ((first | apply ai | apply ah | apply am | apply au | refine aq rfl ?_ | apply al | apply aj | apply ae | apply ak mixed | apply ap mixed | (with_reducible first | refine af ?_ | refine ao ?_) | simp (disch := omega) only [bf, aG, aN, aO, bp, Int.tdiv_eq_ediv_of_nonneg, Int.tmod_eq_emod_of_nonneg] | ((first | refine ac ?_ ?_ | refine aa ?_ ?_) <;> intro hc <;> (try simp only [hc]) <;> try simp at hc) | (with_reducible refine ⟨?_, ?_⟩; (focus ((repeat' with_reducible refine ⟨?_, ?_⟩) <;> first | exact trivial | assumption | (simp; done) | (simp only [List.length_map] at *; omega) | omega | (simp [fs]; done) | exact ay))) | (with_reducible intro x hx) | omega) <;> (try simp only [bg, fw]))
    refine aw [0, 1, 2, 3] (by rfl) (by simp) (by simp [plL, allL, fg])
  ·rw [if_neg hb] at hk1
   obtain ⟨l2, rb2, cb2⟩ := s2
   dsimp only at he hb hle hk1 ⊢
   obtain ⟨rfl, rfl⟩ : rb2 = false ∧ cb2 = false := by simpa using hb
   have hu : aS .i64 .i64 xs ++ [[.int .i64 v.1, .int .i64 v.2]] = aS .i64 .i64 (xs ++ [v]) := by simp [aS]
   repeat' ((first | apply ai | apply ah | apply am | apply au | refine aq rfl ?_ | apply al | apply aj | apply ae | apply ak mixed | apply ap mixed | (with_reducible first | refine af ?_ | refine ar (f := .t 45) ?_ | refine ao ?_ | refine ab (he) (by simp) ?_) | refine av (bw _ _) ?_ ?_ | simp (disch := omega) only [aG] | ((first | refine ac ?_ ?_ | refine aa ?_ ?_) <;> intro hc <;> (try simp only [hc]) <;> try simp at hc) | (with_reducible refine ⟨?_, ?_⟩; (focus ((repeat' with_reducible refine ⟨?_, ?_⟩) <;> first | exact trivial | assumption | (simp; done) | omega | (simp [fs]; done) | exact ay))) | (with_reducible intro x hx) | omega) <;> (try simp only [aF, c1, own1, own2, hz', hu, Nat.reduceBEq, reduceIte, Nat.reduceEqDiff, Nat.reduceAdd, Nat.reduceSub, Nat.reduceLT, Nat.reduceLeDiff, reduceCtorEq, cond_false, ne_eq, fw, fd]))
   refine hk ⟨(k, ⟨l2, false, false⟩, xs ++ [v]), hk1, by rw [List.length_append, List.length_cons, List.length_nil]; omega, by dsimp only; omega⟩ _ _ (by dsimp only; omega) ?_
   dsimp only
   simp only [List.length_append, List.length_cons, List.length_nil]
   refine aJ [0, 1, 2, 3, 4] (by rfl) (by simp) (by simp [pl4, fg]) (by simp [fg])
   skip
 ·obtain rfl : k = 0 := by omega
  have c1 : (((xs.length : Nat) : Int) < ((n : Nat) : Int)) = False := by simp; omega
  unfold bz at hk1
  rw [← hk1]
  dsimp only
  refine aW (fin _ xs s1 []) ?_
  repeat' ((first | apply ai | apply ah | apply am | apply au | refine aq rfl ?_ | apply al | apply aj | apply ae | apply ak mixed | apply ap mixed | (with_reducible first | refine af ?_ | refine ao ?_) | simp (disch := omega) only [bf, aG, aN, aO, bp, Int.tdiv_eq_ediv_of_nonneg, Int.tmod_eq_emod_of_nonneg] | ((first | refine ac ?_ ?_ | refine aa ?_ ?_) <;> intro hc <;> (try simp only [hc]) <;> try simp at hc) | (with_reducible refine ⟨?_, ?_⟩; (focus ((repeat' with_reducible refine ⟨?_, ?_⟩) <;> first | exact trivial | assumption | (simp; done) | (simp only [List.length_map] at *; omega) | omega | (simp [fs]; done) | exact ay))) | (with_reducible intro x hx) | omega) <;> (try simp only [c1, Nat.reduceBEq, reduceIte, de, aY, bg, fw]))
  refine aw [0, 1, 2, 3] (by rfl) (by simp) (by simp [plL, allL, fg])
  skip
def iX (s : Rs) : (Int) × Rs := (((cw s).1 : Int), (cw s).2)
theorem pj (s : Rs) : (iX s).2.l.length ≤ s.l.length := cG _
theorem wH (s : Rs) (hl : s.l.length ≤ 1099511627776) :
  az Try.prog 67 [.ptr 0 0 0 1, .ptr 1 0 0 1] [Va 1 [.int .i64 0], Bx 2, Cr 3 s.cb, Rd s.l s.rb] (.tup [])
   [Va 1 (wm (iX s).1), Bx 2, Cr 3 (iX s).2.cb, Rd (iX s).2.l (iX s).2.rb] := by
 refine aK Try.func67 low67 (by simp [c67]) ?_
 simp only [c67]
 unfold iX
 have g1 := cG s
 have h1 : az Try.prog 39 [.ptr 0 0 0 1, .ptr 2 0 0 1] [Cr 1 s.cb, Rd s.l s.rb, Va 1 [.int .i64 0]] (.tup []) [Cr 1 (cw s).2.cb, Rd (cw s).2.l (cw s).2.rb, Va 1 [.int .i64 (cw s).1]] := cF s.l s.rb s.cb 1 [.int .i64 0] 0 rfl (by omega) (by omega)
 generalize cw s = q1 at h1 g1 ⊢
 obtain ⟨v1, s1⟩ := q1
 dsimp only at h1 g1 ⊢
 have hc : wm (v1 : Int) = [.int .i64 v1] := rfl
 rw [hc]
 repeat' ((first | apply ai | apply al | apply aj | apply ak mixed | (with_reducible first | refine af ?_ | refine ar (f := .c (.fn 39 [])) ?_ | refine ao ?_ | refine ab (h1) (by simp) ?_) | (with_reducible refine ⟨?_, ?_⟩; (focus ((repeat' with_reducible refine ⟨?_, ?_⟩) <;> first | exact trivial | assumption | (simp; done) | (simp only [List.length_map] at *; omega) | omega | (simp [fs]; done) | exact ay))) | (with_reducible intro x hx) | omega) <;> (try simp only [Nat.reduceBEq, reduceIte, Nat.reduceEqDiff, Nat.reduceAdd, Nat.reduceSub, Nat.reduceLT, reduceCtorEq, fw, fd]))
 refine aw [0, 1, 2, 3] (by rfl) (by simp) (by simp [fg])
set_option maxHeartbeats 4000000 in
theorem ud (s : Rs) (sz : Nat) (R : List D) (j most : Nat) (hR : R[j]? = some (.list (some true) true [])) (hz : R.length = sz) (hm : most < 1000000) (hl : s.l.length ≤ 1099511627776) :
  az Try.prog 66 [.ptr 0 0 0 1, .ptr 2 0 j 1, .int .i64 most, .fn 67 [.ptr 3 0 0 1]] [Cr 1 s.cb, Rd s.l s.rb, Va sz R, Bx 0] (.tup [])
   [Cr 1 (aM iX most s).2.cb, Rd (aM iX most s).2.l (aM iX most s).2.rb, Va sz (R.set j (L (aI .i64 (aM iX most s).1))), Bx 0] := by
 refine aK Try.func66 low66 (by simp [c66]) ?_
 simp only [c66]
 have hn : az Try.prog 34 [.ptr 0 0 0 1, .ptr 2 0 0 1, .int .u64 most] [Cr 1 s.cb, Rd s.l s.rb, Va 1 [.int .u64 0]] (.tup []) [Cr 1 (aA most s).2.cb, Rd (aA most s).2.l (aA most s).2.rb, Va 1 [.int .u64 (aA most s).1]] := cr s.l s.rb s.cb 1 [.int .u64 0] 0 most rfl (by omega) (by omega) hl
 obtain ⟨X, hX⟩ : ∃ X, aM iX most s = X := ⟨_, rfl⟩
 rw [hX]
 unfold aM at hX
 obtain ⟨g1, g2⟩ := aH most (by omega) s
 generalize aA most s = q at hn hX g1 g2
 obtain ⟨n, s0⟩ := q
 dsimp only at hn hX g1 g2
 have hj : j < R.length := (List.getElem?_eq_some_iff.1 hR).1
 have z0 : (((0 : Nat) : Int)) = 0 := rfl
 refine cZ 2 rfl rfl fun hpt => ?_
 have hpt : ∀ x ∈ R, x.pt1 = true := fun x hx => hpt R (by simp) x hx
 have own1 : ∀ d : D, (R.set j d)[j]? = some d := fun d => by rw [List.getElem?_set_self hj]
 have own2 : ∀ d e : D, (R.set j d).take j ++ [e] ++ (R.set j d).drop (j + 1) = R.set j e := fun d e => by
  rw [dt (by rw [List.length_set]; exact hj), List.set_set]
 have pl5 : ∀ (σ : List Ob) (k n : Nat), bq (bk true [0, 1, 2, 3, 5] σ) (R.set j (.own 5 0 k n 1 none)) = some (R.set j (.own 4 0 k n 1 none)) := fun σ k n => bE hpt rfl
 have pl4 : ∀ (σ : List Ob) (k n : Nat), bq (bk true [0, 1, 2, 3, 4] σ) (R.set j (.own 4 0 k n 1 none)) = some (R.set j (.own 4 0 k n 1 none)) := fun σ k n => bE hpt rfl
 have plL : ∀ (σ : List Ob) (rows : List (List D)), bq (bk true [0, 1, 2, 3] σ) (R.set j (.list none false rows)) = some (R.set j (.list none false rows)) := fun σ rows => dB hpt rfl
 have allL : ∀ rows : List (List D), (R.set j (.list none false rows)).all D.pt1 = true := fun rows => dz hpt rfl
 have hz' : (j + 1 ≤ sz) = True := eq_true (by omega)
 repeat' ((first | apply ai | apply ah | apply am | apply au | refine aq rfl ?_ | apply al | apply aj | apply ae | apply ak mixed | apply ap mixed | (with_reducible first | refine af ?_ | refine ar (f := .c (.fn 34 [])) ?_ | refine ao ?_ | refine ab (hn) (by simp) ?_) | simp (disch := omega) only [aG] | ((first | refine ac ?_ ?_ | refine aa ?_ ?_) <;> intro hc <;> (try simp only [hc]) <;> try simp at hc) | (with_reducible refine ⟨?_, ?_⟩; (focus ((repeat' with_reducible refine ⟨?_, ?_⟩) <;> first | exact trivial | assumption | (simp; done) | (simp only [List.length_map] at *; omega) | omega | (simp [fs]; done) | exact ay))) | (with_reducible intro x hx) | omega) <;> (try simp only [hR, z0, Nat.reduceBEq, reduceIte, Nat.reduceEqDiff, Nat.reduceAdd, Nat.reduceSub, Nat.reduceLT, reduceCtorEq, cond_false, ne_eq, fw, fd]))
 refine aW (cO (l := 2) (j := 0) (i := j) (b := true) 1 true (by decide) rfl rfl rfl rfl hR) ?_
 refine aT (ι := {p : Nat × Rs × List Int // bz iX p.1 p.2.1 p.2.2 = X ∧ p.2.2.length + p.1 = n ∧ p.2.1.l.length ≤ s0.l.length}) (fun p => ([(0, .ptr 0 0 0 1), (1, .ptr 2 0 j 1), (3, .fn 67 [.ptr 3 0 0 1]), (42, .int .u64 n), (43, .int .u64 p.1.2.2.length)],
  [Cr 1 p.1.2.1.cb, Rd p.1.2.1.l p.1.2.1.rb, ⟨true, false, false, false, sz, [R.set j (.own 4 0 p.1.2.2.length p.1.2.2.length 1 none)], some 0⟩, Bx 0, aU true 1 true (aI .i64 p.1.2.2)])) (fun p => p.1.1) ⟨(n, s0, []), hX, by simp, Nat.le_refl _⟩ ?_ ?_
 ·simp only [List.length_nil, show aI .i64 [] = [] from rfl]
  refine aJ [0, 1, 2, 3, 5] (by rfl) (by simp) (by simp [pl5, fg]) (by simp [fg])
  skip
 rintro ⟨⟨k, s1, xs⟩, hk1, hk2, hk3⟩ hk
 dsimp only at hk1 hk2 hk3 hk ⊢
 have fin : ∀ (env : bv) (ys : List Int) (s2 : Rs) (ex : List Ob), fI [Cr 1 s.cb, Rd s.l s.rb, Va sz R, Bx 0] env (Cr 1 s2.cb :: Rd s2.l s2.rb :: ⟨true, false, false, false, sz, [R.set j (.own 4 0 ys.length ys.length 1 none)], some 0⟩ :: Bx 0 :: aU true 1 true (aI .i64 ys) :: ex) env
   (Cr 1 s2.cb :: Rd s2.l s2.rb :: ⟨true, false, false, false, sz, [R.set j (L (aI .i64 ys))], some 0⟩ :: Bx 0 :: { aU true 1 true (aI .i64 ys) with fz := true } :: ex) := fun env ys s2 ex => by
  refine fI.trans (ct 4) ?_
  have := cE (base := [Cr 1 s.cb, Rd s.l s.rb, Va sz R, Bx 0]) (env := env) (σ := Cr 1 s2.cb :: Rd s2.l s2.rb :: ⟨true, false, false, false, sz, [R.set j (.own 4 0 ys.length ys.length 1 none)], some 0⟩ :: Bx 0 :: { aU true 1 true (aI .i64 ys) with fz := true } :: ex) (l := 2) (j := 0) (i := j) (m := 4) (rows := aI .i64 ys) rfl rfl rfl rfl (own1 _) rfl rfl (by
   rw [bL]
   show eU (some _) _ _ _ = _
   rw [bK]
   simp [cn, cu, aE, cm])
  simp only [List.set_cons_zero, List.set_cons_succ, List.set_set] at this
  exact this
 by_cases hlt : 0 < k
 ·obtain ⟨k, rfl⟩ : ∃ k', k = k' + 1 := ⟨k - 1, by omega⟩
  have c1 : (((xs.length : Nat) : Int) < ((n : Nat) : Int)) = True := by simp; omega
  have he := wH s1 (by omega)
  have hle := pj s1
  unfold bz at hk1
  generalize iX s1 = q at he hk1 hle
  obtain ⟨v, s2⟩ := q
  dsimp only at he hk1 hle
  have hcell : wm v = [.int .i64 v] := rfl
  rw [hcell] at he
  by_cases hb : s2.rb = true ∨ s2.cb = true
  ·rw [if_pos hb] at hk1
   rw [← hk1]
   obtain ⟨l2, rb2, cb2⟩ := s2
   dsimp only at he hb ⊢
   cases rb2
   ·obtain rfl : cb2 = true := by simpa using hb
    repeat' ((first | apply ai | apply ah | apply am | apply au | refine aq rfl ?_ | apply aj | apply ae | apply ak mixed | apply ap mixed | (with_reducible first | refine af ?_ | refine ar (f := .t 45) ?_ | refine ao ?_ | refine ab (he) (by simp) ?_) | refine av (bw _ _) ?_ ?_ | simp (disch := omega) only [bf, aG, aN, aO, bp, Int.tdiv_eq_ediv_of_nonneg, Int.tmod_eq_emod_of_nonneg] | ((first | refine ac ?_ ?_ | refine aa ?_ ?_) <;> intro hc <;> (try simp only [hc]) <;> try simp at hc) | (with_reducible refine ⟨?_, ?_⟩; (focus ((repeat' with_reducible refine ⟨?_, ?_⟩) <;> first | exact trivial | assumption | (simp; done) | (simp only [List.length_map] at *; omega) | omega | (simp [fs]; done) | exact ay))) | (with_reducible intro x hx) | omega) <;> (try simp only [c1, Nat.reduceBEq, reduceIte, Nat.reduceEqDiff, Nat.reduceAdd, Nat.reduceSub, Nat.reduceLT, reduceCtorEq, cond_false, ne_eq, fw, fd]))
    refine aW (fin _ xs ⟨l2, false, true⟩ [Va 1 [.int .i64 v]]) ?_
    repeat' ((first | apply ai | apply ah | apply am | apply au | refine aq rfl ?_ | apply al | apply aj | apply ae | apply ak mixed | apply ap mixed | (with_reducible first | refine af ?_ | refine ao ?_) | simp (disch := omega) only [bf, aG, aN, aO, bp, Int.tdiv_eq_ediv_of_nonneg, Int.tmod_eq_emod_of_nonneg] | ((first | refine ac ?_ ?_ | refine aa ?_ ?_) <;> intro hc <;> (try simp only [hc]) <;> try simp at hc) | (with_reducible refine ⟨?_, ?_⟩; (focus ((repeat' with_reducible refine ⟨?_, ?_⟩) <;> first | exact trivial | assumption | (simp; done) | (simp only [List.length_map] at *; omega) | omega | (simp [fs]; done) | exact ay))) | (with_reducible intro x hx) | omega) <;> (try simp only [bg, fw]))
    refine aw [0, 1, 2, 3] (by rfl) (by simp) (by simp [plL, allL, fg])
   ·repeat' ((first | apply ai | apply ah | apply am | apply au | refine aq rfl ?_ | apply aj | apply ae | apply ak mixed | apply ap mixed | (with_reducible first | refine af ?_ | refine ar (f := .t 45) ?_ | refine ao ?_ | refine ab (he) (by simp) ?_) | refine av (bw _ _) ?_ ?_ | simp (disch := omega) only [bf, aG, aN, aO, bp, Int.tdiv_eq_ediv_of_nonneg, Int.tmod_eq_emod_of_nonneg] | ((first | refine ac ?_ ?_ | refine aa ?_ ?_) <;> intro hc <;> (try simp only [hc]) <;> try simp at hc) | (with_reducible refine ⟨?_, ?_⟩; (focus ((repeat' with_reducible refine ⟨?_, ?_⟩) <;> first | exact trivial | assumption | (simp; done) | (simp only [List.length_map] at *; omega) | omega | (simp [fs]; done) | exact ay))) | (with_reducible intro x hx) | omega) <;> (try simp only [c1, Nat.reduceBEq, reduceIte, Nat.reduceEqDiff, Nat.reduceAdd, Nat.reduceSub, Nat.reduceLT, reduceCtorEq, cond_true, ne_eq, fw, fd]))
    refine aW (fin _ xs ⟨l2, true, cb2⟩ [Va 1 [.int .i64 v]]) ?_
    repeat' ((first | apply ai | apply ah | apply am | apply au | refine aq rfl ?_ | apply al | apply aj | apply ae | apply ak mixed | apply ap mixed | (with_reducible first | refine af ?_ | refine ao ?_) | simp (disch := omega) only [bf, aG, aN, aO, bp, Int.tdiv_eq_ediv_of_nonneg, Int.tmod_eq_emod_of_nonneg] | ((first | refine ac ?_ ?_ | refine aa ?_ ?_) <;> intro hc <;> (try simp only [hc]) <;> try simp at hc) | (with_reducible refine ⟨?_, ?_⟩; (focus ((repeat' with_reducible refine ⟨?_, ?_⟩) <;> first | exact trivial | assumption | (simp; done) | (simp only [List.length_map] at *; omega) | omega | (simp [fs]; done) | exact ay))) | (with_reducible intro x hx) | omega) <;> (try simp only [bg, fw]))
    refine aw [0, 1, 2, 3] (by rfl) (by simp) (by simp [plL, allL, fg])
  ·rw [if_neg hb] at hk1
   obtain ⟨l2, rb2, cb2⟩ := s2
   dsimp only at he hb hle hk1 ⊢
   obtain ⟨rfl, rfl⟩ : rb2 = false ∧ cb2 = false := by simpa using hb
   have hu : aI .i64 xs ++ [[.int .i64 v]] = aI .i64 (xs ++ [v]) := by simp [aI]
   repeat' ((first | apply ai | apply ah | apply am | apply au | refine aq rfl ?_ | apply al | apply aj | apply ae | apply ak mixed | apply ap mixed | (with_reducible first | refine af ?_ | refine ar (f := .t 45) ?_ | refine ao ?_ | refine ab (he) (by simp) ?_) | refine av (bw _ _) ?_ ?_ | simp (disch := omega) only [aG] | ((first | refine ac ?_ ?_ | refine aa ?_ ?_) <;> intro hc <;> (try simp only [hc]) <;> try simp at hc) | (with_reducible refine ⟨?_, ?_⟩; (focus ((repeat' with_reducible refine ⟨?_, ?_⟩) <;> first | exact trivial | assumption | (simp; done) | omega | (simp [fs]; done) | exact ay))) | (with_reducible intro x hx) | omega) <;> (try simp only [aE, c1, own1, own2, hz', hu, Nat.reduceBEq, reduceIte, Nat.reduceEqDiff, Nat.reduceAdd, Nat.reduceSub, Nat.reduceLT, Nat.reduceLeDiff, reduceCtorEq, cond_false, ne_eq, fw, fd]))
   refine hk ⟨(k, ⟨l2, false, false⟩, xs ++ [v]), hk1, by rw [List.length_append, List.length_cons, List.length_nil]; omega, by dsimp only; omega⟩ _ _ (by dsimp only; omega) ?_
   dsimp only
   simp only [List.length_append, List.length_cons, List.length_nil]
   refine aJ [0, 1, 2, 3, 4] (by rfl) (by simp) (by simp [pl4, fg]) (by simp [fg])
   skip
 ·obtain rfl : k = 0 := by omega
  have c1 : (((xs.length : Nat) : Int) < ((n : Nat) : Int)) = False := by simp; omega
  unfold bz at hk1
  rw [← hk1]
  dsimp only
  refine aW (fin _ xs s1 []) ?_
  repeat' ((first | apply ai | apply ah | apply am | apply au | refine aq rfl ?_ | apply al | apply aj | apply ae | apply ak mixed | apply ap mixed | (with_reducible first | refine af ?_ | refine ao ?_) | simp (disch := omega) only [bf, aG, aN, aO, bp, Int.tdiv_eq_ediv_of_nonneg, Int.tmod_eq_emod_of_nonneg] | ((first | refine ac ?_ ?_ | refine aa ?_ ?_) <;> intro hc <;> (try simp only [hc]) <;> try simp at hc) | (with_reducible refine ⟨?_, ?_⟩; (focus ((repeat' with_reducible refine ⟨?_, ?_⟩) <;> first | exact trivial | assumption | (simp; done) | (simp only [List.length_map] at *; omega) | omega | (simp [fs]; done) | exact ay))) | (with_reducible intro x hx) | omega) <;> (try simp only [c1, Nat.reduceBEq, reduceIte, de, aY, bg, fw]))
  refine aw [0, 1, 2, 3] (by rfl) (by simp) (by simp [plL, allL, fg])
  skip
def i5 (s : Rs) : (Int) × Rs := (((cw s).1 : Int), (cw s).2)
theorem o5 (s : Rs) : (i5 s).2.l.length ≤ s.l.length := cG _
theorem wW (s : Rs) (hl : s.l.length ≤ 1099511627776) :
  az Try.prog 68 [.ptr 0 0 0 1, .ptr 1 0 0 1] [Va 1 [.int .i64 0], Bx 2, Cr 3 s.cb, Rd s.l s.rb] (.tup [])
   [Va 1 (wJ (i5 s).1), Bx 2, Cr 3 (i5 s).2.cb, Rd (i5 s).2.l (i5 s).2.rb] := by
 refine aK Try.func68 low68 (by simp [c68]) ?_
 simp only [c68]
 unfold i5
 have g1 := cG s
 have h1 : az Try.prog 39 [.ptr 0 0 0 1, .ptr 2 0 0 1] [Cr 1 s.cb, Rd s.l s.rb, Va 1 [.int .i64 0]] (.tup []) [Cr 1 (cw s).2.cb, Rd (cw s).2.l (cw s).2.rb, Va 1 [.int .i64 (cw s).1]] := cF s.l s.rb s.cb 1 [.int .i64 0] 0 rfl (by omega) (by omega)
 generalize cw s = q1 at h1 g1 ⊢
 obtain ⟨v1, s1⟩ := q1
 dsimp only at h1 g1 ⊢
 have hc : wJ (v1 : Int) = [.int .i64 v1] := rfl
 rw [hc]
 repeat' ((first | apply ai | apply al | apply aj | apply ak mixed | (with_reducible first | refine af ?_ | refine ar (f := .c (.fn 39 [])) ?_ | refine ao ?_ | refine ab (h1) (by simp) ?_) | (with_reducible refine ⟨?_, ?_⟩; (focus ((repeat' with_reducible refine ⟨?_, ?_⟩) <;> first | exact trivial | assumption | (simp; done) | (simp only [List.length_map] at *; omega) | omega | (simp [fs]; done) | exact ay))) | (with_reducible intro x hx) | omega) <;> (try simp only [Nat.reduceBEq, reduceIte, Nat.reduceEqDiff, Nat.reduceAdd, Nat.reduceSub, Nat.reduceLT, reduceCtorEq, fw, fd]))
 refine aw [0, 1, 2, 3] (by rfl) (by simp) (by simp [fg])
set_option maxHeartbeats 4000000 in
theorem uL (s : Rs) (sz : Nat) (R : List D) (j most : Nat) (hR : R[j]? = some (.list (some true) true [])) (hz : R.length = sz) (hm : most < 1000000) (hl : s.l.length ≤ 1099511627776) :
  az Try.prog 66 [.ptr 0 0 0 1, .ptr 2 0 j 1, .int .i64 most, .fn 68 [.ptr 3 0 0 1]] [Cr 1 s.cb, Rd s.l s.rb, Va sz R, Bx 0] (.tup [])
   [Cr 1 (aM i5 most s).2.cb, Rd (aM i5 most s).2.l (aM i5 most s).2.rb, Va sz (R.set j (L (aI .i64 (aM i5 most s).1))), Bx 0] := by
 refine aK Try.func66 low66 (by simp [c66]) ?_
 simp only [c66]
 have hn : az Try.prog 34 [.ptr 0 0 0 1, .ptr 2 0 0 1, .int .u64 most] [Cr 1 s.cb, Rd s.l s.rb, Va 1 [.int .u64 0]] (.tup []) [Cr 1 (aA most s).2.cb, Rd (aA most s).2.l (aA most s).2.rb, Va 1 [.int .u64 (aA most s).1]] := cr s.l s.rb s.cb 1 [.int .u64 0] 0 most rfl (by omega) (by omega) hl
 obtain ⟨X, hX⟩ : ∃ X, aM i5 most s = X := ⟨_, rfl⟩
 rw [hX]
 unfold aM at hX
 obtain ⟨g1, g2⟩ := aH most (by omega) s
 generalize aA most s = q at hn hX g1 g2
 obtain ⟨n, s0⟩ := q
 dsimp only at hn hX g1 g2
 have hj : j < R.length := (List.getElem?_eq_some_iff.1 hR).1
 have z0 : (((0 : Nat) : Int)) = 0 := rfl
 refine cZ 2 rfl rfl fun hpt => ?_
 have hpt : ∀ x ∈ R, x.pt1 = true := fun x hx => hpt R (by simp) x hx
 have own1 : ∀ d : D, (R.set j d)[j]? = some d := fun d => by rw [List.getElem?_set_self hj]
 have own2 : ∀ d e : D, (R.set j d).take j ++ [e] ++ (R.set j d).drop (j + 1) = R.set j e := fun d e => by
  rw [dt (by rw [List.length_set]; exact hj), List.set_set]
 have pl5 : ∀ (σ : List Ob) (k n : Nat), bq (bk true [0, 1, 2, 3, 5] σ) (R.set j (.own 5 0 k n 1 none)) = some (R.set j (.own 4 0 k n 1 none)) := fun σ k n => bE hpt rfl
 have pl4 : ∀ (σ : List Ob) (k n : Nat), bq (bk true [0, 1, 2, 3, 4] σ) (R.set j (.own 4 0 k n 1 none)) = some (R.set j (.own 4 0 k n 1 none)) := fun σ k n => bE hpt rfl
 have plL : ∀ (σ : List Ob) (rows : List (List D)), bq (bk true [0, 1, 2, 3] σ) (R.set j (.list none false rows)) = some (R.set j (.list none false rows)) := fun σ rows => dB hpt rfl
 have allL : ∀ rows : List (List D), (R.set j (.list none false rows)).all D.pt1 = true := fun rows => dz hpt rfl
 have hz' : (j + 1 ≤ sz) = True := eq_true (by omega)
 repeat' ((first | apply ai | apply ah | apply am | apply au | refine aq rfl ?_ | apply al | apply aj | apply ae | apply ak mixed | apply ap mixed | (with_reducible first | refine af ?_ | refine ar (f := .c (.fn 34 [])) ?_ | refine ao ?_ | refine ab (hn) (by simp) ?_) | simp (disch := omega) only [aG] | ((first | refine ac ?_ ?_ | refine aa ?_ ?_) <;> intro hc <;> (try simp only [hc]) <;> try simp at hc) | (with_reducible refine ⟨?_, ?_⟩; (focus ((repeat' with_reducible refine ⟨?_, ?_⟩) <;> first | exact trivial | assumption | (simp; done) | (simp only [List.length_map] at *; omega) | omega | (simp [fs]; done) | exact ay))) | (with_reducible intro x hx) | omega) <;> (try simp only [hR, z0, Nat.reduceBEq, reduceIte, Nat.reduceEqDiff, Nat.reduceAdd, Nat.reduceSub, Nat.reduceLT, reduceCtorEq, cond_false, ne_eq, fw, fd]))
 refine aW (cO (l := 2) (j := 0) (i := j) (b := true) 1 true (by decide) rfl rfl rfl rfl hR) ?_
 refine aT (ι := {p : Nat × Rs × List Int // bz i5 p.1 p.2.1 p.2.2 = X ∧ p.2.2.length + p.1 = n ∧ p.2.1.l.length ≤ s0.l.length}) (fun p => ([(0, .ptr 0 0 0 1), (1, .ptr 2 0 j 1), (3, .fn 68 [.ptr 3 0 0 1]), (42, .int .u64 n), (43, .int .u64 p.1.2.2.length)],
  [Cr 1 p.1.2.1.cb, Rd p.1.2.1.l p.1.2.1.rb, ⟨true, false, false, false, sz, [R.set j (.own 4 0 p.1.2.2.length p.1.2.2.length 1 none)], some 0⟩, Bx 0, aU true 1 true (aI .i64 p.1.2.2)])) (fun p => p.1.1) ⟨(n, s0, []), hX, by simp, Nat.le_refl _⟩ ?_ ?_
 ·simp only [List.length_nil, show aI .i64 [] = [] from rfl]
  refine aJ [0, 1, 2, 3, 5] (by rfl) (by simp) (by simp [pl5, fg]) (by simp [fg])
  skip
 rintro ⟨⟨k, s1, xs⟩, hk1, hk2, hk3⟩ hk
 dsimp only at hk1 hk2 hk3 hk ⊢
 have fin : ∀ (env : bv) (ys : List Int) (s2 : Rs) (ex : List Ob), fI [Cr 1 s.cb, Rd s.l s.rb, Va sz R, Bx 0] env (Cr 1 s2.cb :: Rd s2.l s2.rb :: ⟨true, false, false, false, sz, [R.set j (.own 4 0 ys.length ys.length 1 none)], some 0⟩ :: Bx 0 :: aU true 1 true (aI .i64 ys) :: ex) env
   (Cr 1 s2.cb :: Rd s2.l s2.rb :: ⟨true, false, false, false, sz, [R.set j (L (aI .i64 ys))], some 0⟩ :: Bx 0 :: { aU true 1 true (aI .i64 ys) with fz := true } :: ex) := fun env ys s2 ex => by
  refine fI.trans (ct 4) ?_
  have := cE (base := [Cr 1 s.cb, Rd s.l s.rb, Va sz R, Bx 0]) (env := env) (σ := Cr 1 s2.cb :: Rd s2.l s2.rb :: ⟨true, false, false, false, sz, [R.set j (.own 4 0 ys.length ys.length 1 none)], some 0⟩ :: Bx 0 :: { aU true 1 true (aI .i64 ys) with fz := true } :: ex) (l := 2) (j := 0) (i := j) (m := 4) (rows := aI .i64 ys) rfl rfl rfl rfl (own1 _) rfl rfl (by
   rw [bL]
   show eU (some _) _ _ _ = _
   rw [bK]
   simp [cn, cu, aE, cm])
  simp only [List.set_cons_zero, List.set_cons_succ, List.set_set] at this
  exact this
 by_cases hlt : 0 < k
 ·obtain ⟨k, rfl⟩ : ∃ k', k = k' + 1 := ⟨k - 1, by omega⟩
  have c1 : (((xs.length : Nat) : Int) < ((n : Nat) : Int)) = True := by simp; omega
  have he := wW s1 (by omega)
  have hle := o5 s1
  unfold bz at hk1
  generalize i5 s1 = q at he hk1 hle
  obtain ⟨v, s2⟩ := q
  dsimp only at he hk1 hle
  have hcell : wJ v = [.int .i64 v] := rfl
  rw [hcell] at he
  by_cases hb : s2.rb = true ∨ s2.cb = true
  ·rw [if_pos hb] at hk1
   rw [← hk1]
   obtain ⟨l2, rb2, cb2⟩ := s2
   dsimp only at he hb ⊢
   cases rb2
   ·obtain rfl : cb2 = true := by simpa using hb
    repeat' ((first | apply ai | apply ah | apply am | apply au | refine aq rfl ?_ | apply aj | apply ae | apply ak mixed | apply ap mixed | (with_reducible first | refine af ?_ | refine ar (f := .t 45) ?_ | refine ao ?_ | refine ab (he) (by simp) ?_) | refine av (bw _ _) ?_ ?_ | simp (disch := omega) only [bf, aG, aN, aO, bp, Int.tdiv_eq_ediv_of_nonneg, Int.tmod_eq_emod_of_nonneg] | ((first | refine ac ?_ ?_ | refine aa ?_ ?_) <;> intro hc <;> (try simp only [hc]) <;> try simp at hc) | (with_reducible refine ⟨?_, ?_⟩; (focus ((repeat' with_reducible refine ⟨?_, ?_⟩) <;> first | exact trivial | assumption | (simp; done) | (simp only [List.length_map] at *; omega) | omega | (simp [fs]; done) | exact ay))) | (with_reducible intro x hx) | omega) <;> (try simp only [c1, Nat.reduceBEq, reduceIte, Nat.reduceEqDiff, Nat.reduceAdd, Nat.reduceSub, Nat.reduceLT, reduceCtorEq, cond_false, ne_eq, fw, fd]))
    refine aW (fin _ xs ⟨l2, false, true⟩ [Va 1 [.int .i64 v]]) ?_
    repeat' ((first | apply ai | apply ah | apply am | apply au | refine aq rfl ?_ | apply al | apply aj | apply ae | apply ak mixed | apply ap mixed | (with_reducible first | refine af ?_ | refine ao ?_) | simp (disch := omega) only [bf, aG, aN, aO, bp, Int.tdiv_eq_ediv_of_nonneg, Int.tmod_eq_emod_of_nonneg] | ((first | refine ac ?_ ?_ | refine aa ?_ ?_) <;> intro hc <;> (try simp only [hc]) <;> try simp at hc) | (with_reducible refine ⟨?_, ?_⟩; (focus ((repeat' with_reducible refine ⟨?_, ?_⟩) <;> first | exact trivial | assumption | (simp; done) | (simp only [List.length_map] at *; omega) | omega | (simp [fs]; done) | exact ay))) | (with_reducible intro x hx) | omega) <;> (try simp only [bg, fw]))
    refine aw [0, 1, 2, 3] (by rfl) (by simp) (by simp [plL, allL, fg])
   ·repeat' ((first | apply ai | apply ah | apply am | apply au | refine aq rfl ?_ | apply aj | apply ae | apply ak mixed | apply ap mixed | (with_reducible first | refine af ?_ | refine ar (f := .t 45) ?_ | refine ao ?_ | refine ab (he) (by simp) ?_) | refine av (bw _ _) ?_ ?_ | simp (disch := omega) only [bf, aG, aN, aO, bp, Int.tdiv_eq_ediv_of_nonneg, Int.tmod_eq_emod_of_nonneg] | ((first | refine ac ?_ ?_ | refine aa ?_ ?_) <;> intro hc <;> (try simp only [hc]) <;> try simp at hc) | (with_reducible refine ⟨?_, ?_⟩; (focus ((repeat' with_reducible refine ⟨?_, ?_⟩) <;> first | exact trivial | assumption | (simp; done) | (simp only [List.length_map] at *; omega) | omega | (simp [fs]; done) | exact ay))) | (with_reducible intro x hx) | omega) <;> (try simp only [c1, Nat.reduceBEq, reduceIte, Nat.reduceEqDiff, Nat.reduceAdd, Nat.reduceSub, Nat.reduceLT, reduceCtorEq, cond_true, ne_eq, fw, fd]))
    refine aW (fin _ xs ⟨l2, true, cb2⟩ [Va 1 [.int .i64 v]]) ?_
    repeat' ((first | apply ai | apply ah | apply am | apply au | refine aq rfl ?_ | apply al | apply aj | apply ae | apply ak mixed | apply ap mixed | (with_reducible first | refine af ?_ | refine ao ?_) | simp (disch := omega) only [bf, aG, aN, aO, bp, Int.tdiv_eq_ediv_of_nonneg, Int.tmod_eq_emod_of_nonneg] | ((first | refine ac ?_ ?_ | refine aa ?_ ?_) <;> intro hc <;> (try simp only [hc]) <;> try simp at hc) | (with_reducible refine ⟨?_, ?_⟩; (focus ((repeat' with_reducible refine ⟨?_, ?_⟩) <;> first | exact trivial | assumption | (simp; done) | (simp only [List.length_map] at *; omega) | omega | (simp [fs]; done) | exact ay))) | (with_reducible intro x hx) | omega) <;> (try simp only [bg, fw]))
    refine aw [0, 1, 2, 3] (by rfl) (by simp) (by simp [plL, allL, fg])
  ·rw [if_neg hb] at hk1
   obtain ⟨l2, rb2, cb2⟩ := s2
   dsimp only at he hb hle hk1 ⊢
   obtain ⟨rfl, rfl⟩ : rb2 = false ∧ cb2 = false := by simpa using hb
   have hu : aI .i64 xs ++ [[.int .i64 v]] = aI .i64 (xs ++ [v]) := by simp [aI]
   repeat' ((first | apply ai | apply ah | apply am | apply au | refine aq rfl ?_ | apply al | apply aj | apply ae | apply ak mixed | apply ap mixed | (with_reducible first | refine af ?_ | refine ar (f := .t 45) ?_ | refine ao ?_ | refine ab (he) (by simp) ?_) | refine av (bw _ _) ?_ ?_ | simp (disch := omega) only [aG] | ((first | refine ac ?_ ?_ | refine aa ?_ ?_) <;> intro hc <;> (try simp only [hc]) <;> try simp at hc) | (with_reducible refine ⟨?_, ?_⟩; (focus ((repeat' with_reducible refine ⟨?_, ?_⟩) <;> first | exact trivial | assumption | (simp; done) | omega | (simp [fs]; done) | exact ay))) | (with_reducible intro x hx) | omega) <;> (try simp only [aE, c1, own1, own2, hz', hu, Nat.reduceBEq, reduceIte, Nat.reduceEqDiff, Nat.reduceAdd, Nat.reduceSub, Nat.reduceLT, Nat.reduceLeDiff, reduceCtorEq, cond_false, ne_eq, fw, fd]))
   refine hk ⟨(k, ⟨l2, false, false⟩, xs ++ [v]), hk1, by rw [List.length_append, List.length_cons, List.length_nil]; omega, by dsimp only; omega⟩ _ _ (by dsimp only; omega) ?_
   dsimp only
   simp only [List.length_append, List.length_cons, List.length_nil]
   refine aJ [0, 1, 2, 3, 4] (by rfl) (by simp) (by simp [pl4, fg]) (by simp [fg])
   skip
 ·obtain rfl : k = 0 := by omega
  have c1 : (((xs.length : Nat) : Int) < ((n : Nat) : Int)) = False := by simp; omega
  unfold bz at hk1
  rw [← hk1]
  dsimp only
  refine aW (fin _ xs s1 []) ?_
  repeat' ((first | apply ai | apply ah | apply am | apply au | refine aq rfl ?_ | apply al | apply aj | apply ae | apply ak mixed | apply ap mixed | (with_reducible first | refine af ?_ | refine ao ?_) | simp (disch := omega) only [bf, aG, aN, aO, bp, Int.tdiv_eq_ediv_of_nonneg, Int.tmod_eq_emod_of_nonneg] | ((first | refine ac ?_ ?_ | refine aa ?_ ?_) <;> intro hc <;> (try simp only [hc]) <;> try simp at hc) | (with_reducible refine ⟨?_, ?_⟩; (focus ((repeat' with_reducible refine ⟨?_, ?_⟩) <;> first | exact trivial | assumption | (simp; done) | (simp only [List.length_map] at *; omega) | omega | (simp [fs]; done) | exact ay))) | (with_reducible intro x hx) | omega) <;> (try simp only [c1, Nat.reduceBEq, reduceIte, de, aY, bg, fw]))
  refine aw [0, 1, 2, 3] (by rfl) (by simp) (by simp [plL, allL, fg])
  skip
def jd (s : Rs) : (Int × Int × Int) × Rs := ((((cw s).1 : Int), ((cw (cw s).2).1 : Int), ((aA 10080 (cw (cw s).2).2).1 : Int)), (aA 10080 (cw (cw s).2).2).2)
theorem oW (s : Rs) : (jd s).2.l.length ≤ s.l.length := Nat.le_trans (Nat.le_trans ((aH _ (by omega) _).1) (cG _)) (cG _)
theorem xe (s : Rs) (hl : s.l.length ≤ 1099511627776) :
  az Try.prog 70 [.ptr 0 0 0 1, .ptr 1 0 0 1] [Va 3 [.int .i64 0, .int .i64 0, .int .i64 0], Bx 2, Cr 3 s.cb, Rd s.l s.rb] (.tup [])
   [Va 3 (uh (jd s).1), Bx 2, Cr 3 (jd s).2.cb, Rd (jd s).2.l (jd s).2.rb] := by
 refine aK Try.func70 low70 (by simp [c70]) ?_
 simp only [c70]
 unfold jd
 have g1 := cG s
 have h1 : az Try.prog 39 [.ptr 0 0 0 1, .ptr 2 0 0 1] [Cr 1 s.cb, Rd s.l s.rb, Va 3 [.int .i64 0, .int .i64 0, .int .i64 0]] (.tup []) [Cr 1 (cw s).2.cb, Rd (cw s).2.l (cw s).2.rb, Va 3 [.int .i64 (cw s).1, .int .i64 0, .int .i64 0]] := cF s.l s.rb s.cb 3 [.int .i64 0, .int .i64 0, .int .i64 0] 0 rfl (by omega) (by omega)
 generalize cw s = q1 at h1 g1 ⊢
 obtain ⟨v1, s1⟩ := q1
 dsimp only at h1 g1 ⊢
 have g2 := cG s1
 have h2 : az Try.prog 39 [.ptr 0 0 0 1, .ptr 2 0 1 1] [Cr 1 s1.cb, Rd s1.l s1.rb, Va 3 [.int .i64 v1, .int .i64 0, .int .i64 0]] (.tup []) [Cr 1 (cw s1).2.cb, Rd (cw s1).2.l (cw s1).2.rb, Va 3 [.int .i64 v1, .int .i64 (cw s1).1, .int .i64 0]] := cF s1.l s1.rb s1.cb 3 [.int .i64 v1, .int .i64 0, .int .i64 0] 1 rfl (by omega) (by omega)
 generalize cw s1 = q2 at h2 g2 ⊢
 obtain ⟨v2, s2⟩ := q2
 dsimp only at h2 g2 ⊢
 have g3 := (aH 10080 (by omega) s2).1
 have h3 : az Try.prog 32 [.ptr 0 0 0 1, .ptr 2 0 2 1, .int .u64 10080] [Cr 1 s2.cb, Rd s2.l s2.rb, Va 3 [.int .i64 v1, .int .i64 v2, .int .i64 0]] (.tup []) [Cr 1 (aA 10080 s2).2.cb, Rd (aA 10080 s2).2.l (aA 10080 s2).2.rb, Va 3 [.int .i64 v1, .int .i64 v2, .int .i64 (aA 10080 s2).1]] := bJ s2.l s2.rb s2.cb 3 [.int .i64 v1, .int .i64 v2, .int .i64 0] 2 10080 rfl (by omega) (by omega) (by omega)
 generalize aA 10080 s2 = q3 at h3 g3 ⊢
 obtain ⟨v3, s3⟩ := q3
 dsimp only at h3 g3 ⊢
 have hc : uh ((v1 : Int), (v2 : Int), (v3 : Int)) = [.int .i64 v1, .int .i64 v2, .int .i64 v3] := rfl
 rw [hc]
 repeat' ((first | apply ai | apply al | apply aj | apply ap mixed | (with_reducible first | refine af ?_ | refine aD (f := .c (.fn 39 [])) ?_ | refine aD (f := .c (.fn 32 [])) ?_ | refine aC ?_ | refine ab (h1) (by simp) ?_ | refine ab (h2) (by simp) ?_ | refine ab (h3) (by simp) ?_) | (with_reducible refine ⟨?_, ?_⟩; (focus ((repeat' with_reducible refine ⟨?_, ?_⟩) <;> first | exact trivial | assumption | (simp; done) | (simp only [List.length_map] at *; omega) | omega | (simp [fs]; done) | exact ay))) | (with_reducible intro x hx) | omega) <;> (try simp only [Nat.reduceBEq, reduceIte, Nat.reduceEqDiff, Nat.reduceAdd, Nat.reduceSub, Nat.reduceLT, reduceCtorEq, fw, fd]))
 refine aw [0, 1, 2, 3] (by rfl) (by simp) (by simp [fg])
set_option maxHeartbeats 4000000 in
theorem vc (s : Rs) (sz : Nat) (R : List D) (j most : Nat) (hR : R[j]? = some (.list (some true) true [])) (hz : R.length = sz) (hm : most < 1000000) (hl : s.l.length ≤ 1099511627776) :
  az Try.prog 69 [.ptr 0 0 0 1, .ptr 2 0 j 1, .int .i64 most, .fn 70 [.ptr 3 0 0 1]] [Cr 1 s.cb, Rd s.l s.rb, Va sz R, Bx 0] (.tup [])
   [Cr 1 (aM jd most s).2.cb, Rd (aM jd most s).2.l (aM jd most s).2.rb, Va sz (R.set j (L (bh (aM jd most s).1))), Bx 0] := by
 refine aK Try.func69 low69 (by simp [c69]) ?_
 simp only [c69]
 have hn : az Try.prog 34 [.ptr 0 0 0 1, .ptr 2 0 0 1, .int .u64 most] [Cr 1 s.cb, Rd s.l s.rb, Va 1 [.int .u64 0]] (.tup []) [Cr 1 (aA most s).2.cb, Rd (aA most s).2.l (aA most s).2.rb, Va 1 [.int .u64 (aA most s).1]] := cr s.l s.rb s.cb 1 [.int .u64 0] 0 most rfl (by omega) (by omega) hl
 obtain ⟨X, hX⟩ : ∃ X, aM jd most s = X := ⟨_, rfl⟩
 rw [hX]
 unfold aM at hX
 obtain ⟨g1, g2⟩ := aH most (by omega) s
 generalize aA most s = q at hn hX g1 g2
 obtain ⟨n, s0⟩ := q
 dsimp only at hn hX g1 g2
 have hj : j < R.length := (List.getElem?_eq_some_iff.1 hR).1
 have z0 : (((0 : Nat) : Int)) = 0 := rfl
 refine cZ 2 rfl rfl fun hpt => ?_
 have hpt : ∀ x ∈ R, x.pt1 = true := fun x hx => hpt R (by simp) x hx
 have own1 : ∀ d : D, (R.set j d)[j]? = some d := fun d => by rw [List.getElem?_set_self hj]
 have own2 : ∀ d e : D, (R.set j d).take j ++ [e] ++ (R.set j d).drop (j + 1) = R.set j e := fun d e => by
  rw [dt (by rw [List.length_set]; exact hj), List.set_set]
 have pl5 : ∀ (σ : List Ob) (k n : Nat), bq (bk true [0, 1, 2, 3, 5] σ) (R.set j (.own 5 0 k n 3 none)) = some (R.set j (.own 4 0 k n 3 none)) := fun σ k n => bE hpt rfl
 have pl4 : ∀ (σ : List Ob) (k n : Nat), bq (bk true [0, 1, 2, 3, 4] σ) (R.set j (.own 4 0 k n 3 none)) = some (R.set j (.own 4 0 k n 3 none)) := fun σ k n => bE hpt rfl
 have plL : ∀ (σ : List Ob) (rows : List (List D)), bq (bk true [0, 1, 2, 3] σ) (R.set j (.list none false rows)) = some (R.set j (.list none false rows)) := fun σ rows => dB hpt rfl
 have allL : ∀ rows : List (List D), (R.set j (.list none false rows)).all D.pt1 = true := fun rows => dz hpt rfl
 have hz' : (j + 1 ≤ sz) = True := eq_true (by omega)
 repeat' ((first | apply ai | apply ah | apply am | apply au | refine aq rfl ?_ | apply al | apply aj | apply ae | apply ak mixed | apply ap mixed | (with_reducible first | refine af ?_ | refine ar (f := .c (.fn 34 [])) ?_ | refine ao ?_ | refine ab (hn) (by simp) ?_) | simp (disch := omega) only [aG] | ((first | refine ac ?_ ?_ | refine aa ?_ ?_) <;> intro hc <;> (try simp only [hc]) <;> try simp at hc) | (with_reducible refine ⟨?_, ?_⟩; (focus ((repeat' with_reducible refine ⟨?_, ?_⟩) <;> first | exact trivial | assumption | (simp; done) | (simp only [List.length_map] at *; omega) | omega | (simp [fs]; done) | exact ay))) | (with_reducible intro x hx) | omega) <;> (try simp only [hR, z0, Nat.reduceBEq, reduceIte, Nat.reduceEqDiff, Nat.reduceAdd, Nat.reduceSub, Nat.reduceLT, reduceCtorEq, cond_false, ne_eq, fw, fd]))
 refine aW (cO (l := 2) (j := 0) (i := j) (b := true) 3 true (by decide) rfl rfl rfl rfl hR) ?_
 refine aT (ι := {p : Nat × Rs × List (Int × Int × Int) // bz jd p.1 p.2.1 p.2.2 = X ∧ p.2.2.length + p.1 = n ∧ p.2.1.l.length ≤ s0.l.length}) (fun p => ([(0, .ptr 0 0 0 1), (1, .ptr 2 0 j 1), (3, .fn 70 [.ptr 3 0 0 1]), (42, .int .u64 n), (43, .int .u64 p.1.2.2.length)],
  [Cr 1 p.1.2.1.cb, Rd p.1.2.1.l p.1.2.1.rb, ⟨true, false, false, false, sz, [R.set j (.own 4 0 p.1.2.2.length p.1.2.2.length 3 none)], some 0⟩, Bx 0, aU true 3 true (bh p.1.2.2)])) (fun p => p.1.1) ⟨(n, s0, []), hX, by simp, Nat.le_refl _⟩ ?_ ?_
 ·simp only [List.length_nil, show bh [] = [] from rfl]
  refine aJ [0, 1, 2, 3, 5] (by rfl) (by simp) (by simp [pl5, fg]) (by simp [fg])
  skip
 rintro ⟨⟨k, s1, xs⟩, hk1, hk2, hk3⟩ hk
 dsimp only at hk1 hk2 hk3 hk ⊢
 have fin : ∀ (env : bv) (ys : List (Int × Int × Int)) (s2 : Rs) (ex : List Ob), fI [Cr 1 s.cb, Rd s.l s.rb, Va sz R, Bx 0] env (Cr 1 s2.cb :: Rd s2.l s2.rb :: ⟨true, false, false, false, sz, [R.set j (.own 4 0 ys.length ys.length 3 none)], some 0⟩ :: Bx 0 :: aU true 3 true (bh ys) :: ex) env
   (Cr 1 s2.cb :: Rd s2.l s2.rb :: ⟨true, false, false, false, sz, [R.set j (L (bh ys))], some 0⟩ :: Bx 0 :: { aU true 3 true (bh ys) with fz := true } :: ex) := fun env ys s2 ex => by
  refine fI.trans (ct 4) ?_
  have := cE (base := [Cr 1 s.cb, Rd s.l s.rb, Va sz R, Bx 0]) (env := env) (σ := Cr 1 s2.cb :: Rd s2.l s2.rb :: ⟨true, false, false, false, sz, [R.set j (.own 4 0 ys.length ys.length 3 none)], some 0⟩ :: Bx 0 :: { aU true 3 true (bh ys) with fz := true } :: ex) (l := 2) (j := 0) (i := j) (m := 4) (rows := bh ys) rfl rfl rfl rfl (own1 _) rfl rfl (by
   rw [bL]
   show eU (some _) _ _ _ = _
   rw [bK]
   simp [cn, cu, aQ, cm])
  simp only [List.set_cons_zero, List.set_cons_succ, List.set_set] at this
  exact this
 by_cases hlt : 0 < k
 ·obtain ⟨k, rfl⟩ : ∃ k', k = k' + 1 := ⟨k - 1, by omega⟩
  have c1 : (((xs.length : Nat) : Int) < ((n : Nat) : Int)) = True := by simp; omega
  have he := xe s1 (by omega)
  have hle := oW s1
  unfold bz at hk1
  generalize jd s1 = q at he hk1 hle
  obtain ⟨v, s2⟩ := q
  dsimp only at he hk1 hle
  have hcell : uh v = [.int .i64 v.1, .int .i64 v.2.1, .int .i64 v.2.2] := rfl
  rw [hcell] at he
  by_cases hb : s2.rb = true ∨ s2.cb = true
  ·rw [if_pos hb] at hk1
   rw [← hk1]
   obtain ⟨l2, rb2, cb2⟩ := s2
   dsimp only at he hb ⊢
   cases rb2
   ·obtain rfl : cb2 = true := by simpa using hb
    repeat' ((first | apply ai | apply ah | apply am | apply au | refine aq rfl ?_ | apply aj | apply ae | apply ak mixed | apply ap mixed | (with_reducible first | refine af ?_ | refine ar (f := .t 45) ?_ | refine ao ?_ | refine ab (he) (by simp) ?_) | refine av (bw _ _) ?_ ?_ | simp (disch := omega) only [bf, aG, aN, aO, bp, Int.tdiv_eq_ediv_of_nonneg, Int.tmod_eq_emod_of_nonneg] | ((first | refine ac ?_ ?_ | refine aa ?_ ?_) <;> intro hc <;> (try simp only [hc]) <;> try simp at hc) | (with_reducible refine ⟨?_, ?_⟩; (focus ((repeat' with_reducible refine ⟨?_, ?_⟩) <;> first | exact trivial | assumption | (simp; done) | (simp only [List.length_map] at *; omega) | omega | (simp [fs]; done) | exact ay))) | (with_reducible intro x hx) | omega) <;> (try simp only [c1, Nat.reduceBEq, reduceIte, Nat.reduceEqDiff, Nat.reduceAdd, Nat.reduceSub, Nat.reduceLT, reduceCtorEq, cond_false, ne_eq, fw, fd]))
    refine aW (fin _ xs ⟨l2, false, true⟩ [Va 3 [.int .i64 v.1, .int .i64 v.2.1, .int .i64 v.2.2]]) ?_
    repeat' ((first | apply ai | apply ah | apply am | apply au | refine aq rfl ?_ | apply al | apply aj | apply ae | apply ak mixed | apply ap mixed | (with_reducible first | refine af ?_ | refine ao ?_) | simp (disch := omega) only [bf, aG, aN, aO, bp, Int.tdiv_eq_ediv_of_nonneg, Int.tmod_eq_emod_of_nonneg] | ((first | refine ac ?_ ?_ | refine aa ?_ ?_) <;> intro hc <;> (try simp only [hc]) <;> try simp at hc) | (with_reducible refine ⟨?_, ?_⟩; (focus ((repeat' with_reducible refine ⟨?_, ?_⟩) <;> first | exact trivial | assumption | (simp; done) | (simp only [List.length_map] at *; omega) | omega | (simp [fs]; done) | exact ay))) | (with_reducible intro x hx) | omega) <;> (try simp only [bg, fw]))
    refine aw [0, 1, 2, 3] (by rfl) (by simp) (by simp [plL, allL, fg])
   ·repeat' ((first | apply ai | apply ah | apply am | apply au | refine aq rfl ?_ | apply aj | apply ae | apply ak mixed | apply ap mixed | (with_reducible first | refine af ?_ | refine ar (f := .t 45) ?_ | refine ao ?_ | refine ab (he) (by simp) ?_) | refine av (bw _ _) ?_ ?_ | simp (disch := omega) only [bf, aG, aN, aO, bp, Int.tdiv_eq_ediv_of_nonneg, Int.tmod_eq_emod_of_nonneg] | ((first | refine ac ?_ ?_ | refine aa ?_ ?_) <;> intro hc <;> (try simp only [hc]) <;> try simp at hc) | (with_reducible refine ⟨?_, ?_⟩; (focus ((repeat' with_reducible refine ⟨?_, ?_⟩) <;> first | exact trivial | assumption | (simp; done) | (simp only [List.length_map] at *; omega) | omega | (simp [fs]; done) | exact ay))) | (with_reducible intro x hx) | omega) <;> (try simp only [c1, Nat.reduceBEq, reduceIte, Nat.reduceEqDiff, Nat.reduceAdd, Nat.reduceSub, Nat.reduceLT, reduceCtorEq, cond_true, ne_eq, fw, fd]))
    refine aW (fin _ xs ⟨l2, true, cb2⟩ [Va 3 [.int .i64 v.1, .int .i64 v.2.1, .int .i64 v.2.2]]) ?_
    repeat' ((first | apply ai | apply ah | apply am | apply au | refine aq rfl ?_ | apply al | apply aj | apply ae | apply ak mixed | apply ap mixed | (with_reducible first | refine af ?_ | refine ao ?_) | simp (disch := omega) only [bf, aG, aN, aO, bp, Int.tdiv_eq_ediv_of_nonneg, Int.tmod_eq_emod_of_nonneg] | ((first | refine ac ?_ ?_ | refine aa ?_ ?_) <;> intro hc <;> (try simp only [hc]) <;> try simp at hc) | (with_reducible refine ⟨?_, ?_⟩; (focus ((repeat' with_reducible refine ⟨?_, ?_⟩) <;> first | exact trivial | assumption | (simp; done) | (simp only [List.length_map] at *; omega) | omega | (simp [fs]; done) | exact ay))) | (with_reducible intro x hx) | omega) <;> (try simp only [bg, fw]))
    refine aw [0, 1, 2, 3] (by rfl) (by simp) (by simp [plL, allL, fg])
  ·rw [if_neg hb] at hk1
   obtain ⟨l2, rb2, cb2⟩ := s2
   dsimp only at he hb hle hk1 ⊢
   obtain ⟨rfl, rfl⟩ : rb2 = false ∧ cb2 = false := by simpa using hb
   have hu : bh xs ++ [[.int .i64 v.1, .int .i64 v.2.1, .int .i64 v.2.2]] = bh (xs ++ [v]) := by simp [bh]
   repeat' ((first | apply ai | apply ah | apply am | apply au | refine aq rfl ?_ | apply al | apply aj | apply ae | apply ak mixed | apply ap mixed | (with_reducible first | refine af ?_ | refine ar (f := .t 45) ?_ | refine ao ?_ | refine ab (he) (by simp) ?_) | refine av (bw _ _) ?_ ?_ | simp (disch := omega) only [aG] | ((first | refine ac ?_ ?_ | refine aa ?_ ?_) <;> intro hc <;> (try simp only [hc]) <;> try simp at hc) | (with_reducible refine ⟨?_, ?_⟩; (focus ((repeat' with_reducible refine ⟨?_, ?_⟩) <;> first | exact trivial | assumption | (simp; done) | omega | (simp [fs]; done) | exact ay))) | (with_reducible intro x hx) | omega) <;> (try simp only [aQ, c1, own1, own2, hz', hu, Nat.reduceBEq, reduceIte, Nat.reduceEqDiff, Nat.reduceAdd, Nat.reduceSub, Nat.reduceLT, Nat.reduceLeDiff, reduceCtorEq, cond_false, ne_eq, fw, fd]))
   refine hk ⟨(k, ⟨l2, false, false⟩, xs ++ [v]), hk1, by rw [List.length_append, List.length_cons, List.length_nil]; omega, by dsimp only; omega⟩ _ _ (by dsimp only; omega) ?_
   dsimp only
   simp only [List.length_append, List.length_cons, List.length_nil]
   refine aJ [0, 1, 2, 3, 4] (by rfl) (by simp) (by simp [pl4, fg]) (by simp [fg])
   skip
 ·obtain rfl : k = 0 := by omega
  have c1 : (((xs.length : Nat) : Int) < ((n : Nat) : Int)) = False := by simp; omega
  unfold bz at hk1
  rw [← hk1]
  dsimp only
  refine aW (fin _ xs s1 []) ?_
  repeat' ((first | apply ai | apply ah | apply am | apply au | refine aq rfl ?_ | apply al | apply aj | apply ae | apply ak mixed | apply ap mixed | (with_reducible first | refine af ?_ | refine ao ?_) | simp (disch := omega) only [bf, aG, aN, aO, bp, Int.tdiv_eq_ediv_of_nonneg, Int.tmod_eq_emod_of_nonneg] | ((first | refine ac ?_ ?_ | refine aa ?_ ?_) <;> intro hc <;> (try simp only [hc]) <;> try simp at hc) | (with_reducible refine ⟨?_, ?_⟩; (focus ((repeat' with_reducible refine ⟨?_, ?_⟩) <;> first | exact trivial | assumption | (simp; done) | (simp only [List.length_map] at *; omega) | omega | (simp [fs]; done) | exact ay))) | (with_reducible intro x hx) | omega) <;> (try simp only [c1, Nat.reduceBEq, reduceIte, de, aY, bg, fw]))
  refine aw [0, 1, 2, 3] (by rfl) (by simp) (by simp [plL, allL, fg])
  skip
def jx (s : Rs) : (Int) × Rs := (((aA 4294967295 s).1 : Int), (aA 4294967295 s).2)
theorem pf (s : Rs) : (jx s).2.l.length ≤ s.l.length := (aH _ (by omega) _).1
theorem wh (s : Rs) (hl : s.l.length ≤ 1099511627776) :
  az Try.prog 72 [.ptr 0 0 0 1, .ptr 1 0 0 1] [Va 1 [.int .u32 0], Bx 2, Cr 3 s.cb, Rd s.l s.rb] (.tup [])
   [Va 1 (xJ (jx s).1), Bx 2, Cr 3 (jx s).2.cb, Rd (jx s).2.l (jx s).2.rb] := by
 refine aK Try.func72 low72 (by simp [c72]) ?_
 simp only [c72]
 unfold jx
 have g1 := (aH 4294967295 (by omega) s).1
 have h1 : az Try.prog 33 [.ptr 0 0 0 1, .ptr 2 0 0 1] [Cr 1 s.cb, Rd s.l s.rb, Va 1 [.int .u32 0]] (.tup []) [Cr 1 (aA 4294967295 s).2.cb, Rd (aA 4294967295 s).2.l (aA 4294967295 s).2.rb, Va 1 [.int .u32 (aA 4294967295 s).1]] := cf s.l s.rb s.cb 1 [.int .u32 0] 0 rfl (by omega) (by omega)
 generalize aA 4294967295 s = q1 at h1 g1 ⊢
 obtain ⟨v1, s1⟩ := q1
 dsimp only at h1 g1 ⊢
 have hc : xJ (v1 : Int) = [.int .u32 v1] := rfl
 rw [hc]
 repeat' ((first | apply ai | apply al | apply aj | apply ak mixed | (with_reducible first | refine af ?_ | refine ar (f := .c (.fn 33 [])) ?_ | refine ao ?_ | refine ab (h1) (by simp) ?_) | (with_reducible refine ⟨?_, ?_⟩; (focus ((repeat' with_reducible refine ⟨?_, ?_⟩) <;> first | exact trivial | assumption | (simp; done) | (simp only [List.length_map] at *; omega) | omega | (simp [fs]; done) | exact ay))) | (with_reducible intro x hx) | omega) <;> (try simp only [Nat.reduceBEq, reduceIte, Nat.reduceEqDiff, Nat.reduceAdd, Nat.reduceSub, Nat.reduceLT, reduceCtorEq, fw, fd]))
 refine aw [0, 1, 2, 3] (by rfl) (by simp) (by simp [fg])
set_option maxHeartbeats 4000000 in
theorem ul (s : Rs) (sz : Nat) (R : List D) (j most : Nat) (hR : R[j]? = some (.list (some true) true [])) (hz : R.length = sz) (hm : most < 1000000) (hl : s.l.length ≤ 1099511627776) :
  az Try.prog 71 [.ptr 0 0 0 1, .ptr 2 0 j 1, .int .i64 most, .fn 72 [.ptr 3 0 0 1]] [Cr 1 s.cb, Rd s.l s.rb, Va sz R, Bx 0] (.tup [])
   [Cr 1 (aM jx most s).2.cb, Rd (aM jx most s).2.l (aM jx most s).2.rb, Va sz (R.set j (L (aI .u32 (aM jx most s).1))), Bx 0] := by
 refine aK Try.func71 low71 (by simp [c71]) ?_
 simp only [c71]
 have hn : az Try.prog 34 [.ptr 0 0 0 1, .ptr 2 0 0 1, .int .u64 most] [Cr 1 s.cb, Rd s.l s.rb, Va 1 [.int .u64 0]] (.tup []) [Cr 1 (aA most s).2.cb, Rd (aA most s).2.l (aA most s).2.rb, Va 1 [.int .u64 (aA most s).1]] := cr s.l s.rb s.cb 1 [.int .u64 0] 0 most rfl (by omega) (by omega) hl
 obtain ⟨X, hX⟩ : ∃ X, aM jx most s = X := ⟨_, rfl⟩
 rw [hX]
 unfold aM at hX
 obtain ⟨g1, g2⟩ := aH most (by omega) s
 generalize aA most s = q at hn hX g1 g2
 obtain ⟨n, s0⟩ := q
 dsimp only at hn hX g1 g2
 have hj : j < R.length := (List.getElem?_eq_some_iff.1 hR).1
 have z0 : (((0 : Nat) : Int)) = 0 := rfl
 refine cZ 2 rfl rfl fun hpt => ?_
 have hpt : ∀ x ∈ R, x.pt1 = true := fun x hx => hpt R (by simp) x hx
 have own1 : ∀ d : D, (R.set j d)[j]? = some d := fun d => by rw [List.getElem?_set_self hj]
 have own2 : ∀ d e : D, (R.set j d).take j ++ [e] ++ (R.set j d).drop (j + 1) = R.set j e := fun d e => by
  rw [dt (by rw [List.length_set]; exact hj), List.set_set]
 have pl5 : ∀ (σ : List Ob) (k n : Nat), bq (bk true [0, 1, 2, 3, 5] σ) (R.set j (.own 5 0 k n 1 none)) = some (R.set j (.own 4 0 k n 1 none)) := fun σ k n => bE hpt rfl
 have pl4 : ∀ (σ : List Ob) (k n : Nat), bq (bk true [0, 1, 2, 3, 4] σ) (R.set j (.own 4 0 k n 1 none)) = some (R.set j (.own 4 0 k n 1 none)) := fun σ k n => bE hpt rfl
 have plL : ∀ (σ : List Ob) (rows : List (List D)), bq (bk true [0, 1, 2, 3] σ) (R.set j (.list none false rows)) = some (R.set j (.list none false rows)) := fun σ rows => dB hpt rfl
 have allL : ∀ rows : List (List D), (R.set j (.list none false rows)).all D.pt1 = true := fun rows => dz hpt rfl
 have hz' : (j + 1 ≤ sz) = True := eq_true (by omega)
 repeat' ((first | apply ai | apply ah | apply am | apply au | refine aq rfl ?_ | apply al | apply aj | apply ae | apply ak mixed | apply ap mixed | (with_reducible first | refine af ?_ | refine ar (f := .c (.fn 34 [])) ?_ | refine ao ?_ | refine ab (hn) (by simp) ?_) | simp (disch := omega) only [aG] | ((first | refine ac ?_ ?_ | refine aa ?_ ?_) <;> intro hc <;> (try simp only [hc]) <;> try simp at hc) | (with_reducible refine ⟨?_, ?_⟩; (focus ((repeat' with_reducible refine ⟨?_, ?_⟩) <;> first | exact trivial | assumption | (simp; done) | (simp only [List.length_map] at *; omega) | omega | (simp [fs]; done) | exact ay))) | (with_reducible intro x hx) | omega) <;> (try simp only [hR, z0, Nat.reduceBEq, reduceIte, Nat.reduceEqDiff, Nat.reduceAdd, Nat.reduceSub, Nat.reduceLT, reduceCtorEq, cond_false, ne_eq, fw, fd]))
 refine aW (cO (l := 2) (j := 0) (i := j) (b := true) 1 true (by decide) rfl rfl rfl rfl hR) ?_
 refine aT (ι := {p : Nat × Rs × List Int // bz jx p.1 p.2.1 p.2.2 = X ∧ p.2.2.length + p.1 = n ∧ p.2.1.l.length ≤ s0.l.length}) (fun p => ([(0, .ptr 0 0 0 1), (1, .ptr 2 0 j 1), (3, .fn 72 [.ptr 3 0 0 1]), (42, .int .u64 n), (43, .int .u64 p.1.2.2.length)],
  [Cr 1 p.1.2.1.cb, Rd p.1.2.1.l p.1.2.1.rb, ⟨true, false, false, false, sz, [R.set j (.own 4 0 p.1.2.2.length p.1.2.2.length 1 none)], some 0⟩, Bx 0, aU true 1 true (aI .u32 p.1.2.2)])) (fun p => p.1.1) ⟨(n, s0, []), hX, by simp, Nat.le_refl _⟩ ?_ ?_
 ·simp only [List.length_nil, show aI .u32 [] = [] from rfl]
  refine aJ [0, 1, 2, 3, 5] (by rfl) (by simp) (by simp [pl5, fg]) (by simp [fg])
  skip
 rintro ⟨⟨k, s1, xs⟩, hk1, hk2, hk3⟩ hk
 dsimp only at hk1 hk2 hk3 hk ⊢
 have fin : ∀ (env : bv) (ys : List Int) (s2 : Rs) (ex : List Ob), fI [Cr 1 s.cb, Rd s.l s.rb, Va sz R, Bx 0] env (Cr 1 s2.cb :: Rd s2.l s2.rb :: ⟨true, false, false, false, sz, [R.set j (.own 4 0 ys.length ys.length 1 none)], some 0⟩ :: Bx 0 :: aU true 1 true (aI .u32 ys) :: ex) env
   (Cr 1 s2.cb :: Rd s2.l s2.rb :: ⟨true, false, false, false, sz, [R.set j (L (aI .u32 ys))], some 0⟩ :: Bx 0 :: { aU true 1 true (aI .u32 ys) with fz := true } :: ex) := fun env ys s2 ex => by
  refine fI.trans (ct 4) ?_
  have := cE (base := [Cr 1 s.cb, Rd s.l s.rb, Va sz R, Bx 0]) (env := env) (σ := Cr 1 s2.cb :: Rd s2.l s2.rb :: ⟨true, false, false, false, sz, [R.set j (.own 4 0 ys.length ys.length 1 none)], some 0⟩ :: Bx 0 :: { aU true 1 true (aI .u32 ys) with fz := true } :: ex) (l := 2) (j := 0) (i := j) (m := 4) (rows := aI .u32 ys) rfl rfl rfl rfl (own1 _) rfl rfl (by
   rw [bL]
   show eU (some _) _ _ _ = _
   rw [bK]
   simp [cn, cu, aE, cm])
  simp only [List.set_cons_zero, List.set_cons_succ, List.set_set] at this
  exact this
 by_cases hlt : 0 < k
 ·obtain ⟨k, rfl⟩ : ∃ k', k = k' + 1 := ⟨k - 1, by omega⟩
  have c1 : (((xs.length : Nat) : Int) < ((n : Nat) : Int)) = True := by simp; omega
  have he := wh s1 (by omega)
  have hle := pf s1
  unfold bz at hk1
  generalize jx s1 = q at he hk1 hle
  obtain ⟨v, s2⟩ := q
  dsimp only at he hk1 hle
  have hcell : xJ v = [.int .u32 v] := rfl
  rw [hcell] at he
  by_cases hb : s2.rb = true ∨ s2.cb = true
  ·rw [if_pos hb] at hk1
   rw [← hk1]
   obtain ⟨l2, rb2, cb2⟩ := s2
   dsimp only at he hb ⊢
   cases rb2
   ·obtain rfl : cb2 = true := by simpa using hb
    repeat' ((first | apply ai | apply ah | apply am | apply au | refine aq rfl ?_ | apply aj | apply ae | apply ak mixed | apply ap mixed | (with_reducible first | refine af ?_ | refine ar (f := .t 45) ?_ | refine ao ?_ | refine ab (he) (by simp) ?_) | refine av (bw _ _) ?_ ?_ | simp (disch := omega) only [bf, aG, aN, aO, bp, Int.tdiv_eq_ediv_of_nonneg, Int.tmod_eq_emod_of_nonneg] | ((first | refine ac ?_ ?_ | refine aa ?_ ?_) <;> intro hc <;> (try simp only [hc]) <;> try simp at hc) | (with_reducible refine ⟨?_, ?_⟩; (focus ((repeat' with_reducible refine ⟨?_, ?_⟩) <;> first | exact trivial | assumption | (simp; done) | (simp only [List.length_map] at *; omega) | omega | (simp [fs]; done) | exact ay))) | (with_reducible intro x hx) | omega) <;> (try simp only [c1, Nat.reduceBEq, reduceIte, Nat.reduceEqDiff, Nat.reduceAdd, Nat.reduceSub, Nat.reduceLT, reduceCtorEq, cond_false, ne_eq, fw, fd]))
    refine aW (fin _ xs ⟨l2, false, true⟩ [Va 1 [.int .u32 v]]) ?_
    repeat' ((first | apply ai | apply ah | apply am | apply au | refine aq rfl ?_ | apply al | apply aj | apply ae | apply ak mixed | apply ap mixed | (with_reducible first | refine af ?_ | refine ao ?_) | simp (disch := omega) only [bf, aG, aN, aO, bp, Int.tdiv_eq_ediv_of_nonneg, Int.tmod_eq_emod_of_nonneg] | ((first | refine ac ?_ ?_ | refine aa ?_ ?_) <;> intro hc <;> (try simp only [hc]) <;> try simp at hc) | (with_reducible refine ⟨?_, ?_⟩; (focus ((repeat' with_reducible refine ⟨?_, ?_⟩) <;> first | exact trivial | assumption | (simp; done) | (simp only [List.length_map] at *; omega) | omega | (simp [fs]; done) | exact ay))) | (with_reducible intro x hx) | omega) <;> (try simp only [bg, fw]))
    refine aw [0, 1, 2, 3] (by rfl) (by simp) (by simp [plL, allL, fg])
   ·repeat' ((first | apply ai | apply ah | apply am | apply au | refine aq rfl ?_ | apply aj | apply ae | apply ak mixed | apply ap mixed | (with_reducible first | refine af ?_ | refine ar (f := .t 45) ?_ | refine ao ?_ | refine ab (he) (by simp) ?_) | refine av (bw _ _) ?_ ?_ | simp (disch := omega) only [bf, aG, aN, aO, bp, Int.tdiv_eq_ediv_of_nonneg, Int.tmod_eq_emod_of_nonneg] | ((first | refine ac ?_ ?_ | refine aa ?_ ?_) <;> intro hc <;> (try simp only [hc]) <;> try simp at hc) | (with_reducible refine ⟨?_, ?_⟩; (focus ((repeat' with_reducible refine ⟨?_, ?_⟩) <;> first | exact trivial | assumption | (simp; done) | (simp only [List.length_map] at *; omega) | omega | (simp [fs]; done) | exact ay))) | (with_reducible intro x hx) | omega) <;> (try simp only [c1, Nat.reduceBEq, reduceIte, Nat.reduceEqDiff, Nat.reduceAdd, Nat.reduceSub, Nat.reduceLT, reduceCtorEq, cond_true, ne_eq, fw, fd]))
    refine aW (fin _ xs ⟨l2, true, cb2⟩ [Va 1 [.int .u32 v]]) ?_
    repeat' ((first | apply ai | apply ah | apply am | apply au | refine aq rfl ?_ | apply al | apply aj | apply ae | apply ak mixed | apply ap mixed | (with_reducible first | refine af ?_ | refine ao ?_) | simp (disch := omega) only [bf, aG, aN, aO, bp, Int.tdiv_eq_ediv_of_nonneg, Int.tmod_eq_emod_of_nonneg] | ((first | refine ac ?_ ?_ | refine aa ?_ ?_) <;> intro hc <;> (try simp only [hc]) <;> try simp at hc) | (with_reducible refine ⟨?_, ?_⟩; (focus ((repeat' with_reducible refine ⟨?_, ?_⟩) <;> first | exact trivial | assumption | (simp; done) | (simp only [List.length_map] at *; omega) | omega | (simp [fs]; done) | exact ay))) | (with_reducible intro x hx) | omega) <;> (try simp only [bg, fw]))
    refine aw [0, 1, 2, 3] (by rfl) (by simp) (by simp [plL, allL, fg])
  ·rw [if_neg hb] at hk1
   obtain ⟨l2, rb2, cb2⟩ := s2
   dsimp only at he hb hle hk1 ⊢
   obtain ⟨rfl, rfl⟩ : rb2 = false ∧ cb2 = false := by simpa using hb
   have hu : aI .u32 xs ++ [[.int .u32 v]] = aI .u32 (xs ++ [v]) := by simp [aI]
   repeat' ((first | apply ai | apply ah | apply am | apply au | refine aq rfl ?_ | apply al | apply aj | apply ae | apply ak mixed | apply ap mixed | (with_reducible first | refine af ?_ | refine ar (f := .t 45) ?_ | refine ao ?_ | refine ab (he) (by simp) ?_) | refine av (bw _ _) ?_ ?_ | simp (disch := omega) only [aG] | ((first | refine ac ?_ ?_ | refine aa ?_ ?_) <;> intro hc <;> (try simp only [hc]) <;> try simp at hc) | (with_reducible refine ⟨?_, ?_⟩; (focus ((repeat' with_reducible refine ⟨?_, ?_⟩) <;> first | exact trivial | assumption | (simp; done) | omega | (simp [fs]; done) | exact ay))) | (with_reducible intro x hx) | omega) <;> (try simp only [aE, c1, own1, own2, hz', hu, Nat.reduceBEq, reduceIte, Nat.reduceEqDiff, Nat.reduceAdd, Nat.reduceSub, Nat.reduceLT, Nat.reduceLeDiff, reduceCtorEq, cond_false, ne_eq, fw, fd]))
   refine hk ⟨(k, ⟨l2, false, false⟩, xs ++ [v]), hk1, by rw [List.length_append, List.length_cons, List.length_nil]; omega, by dsimp only; omega⟩ _ _ (by dsimp only; omega) ?_
   dsimp only
   simp only [List.length_append, List.length_cons, List.length_nil]
   refine aJ [0, 1, 2, 3, 4] (by rfl) (by simp) (by simp [pl4, fg]) (by simp [fg])
   skip
 ·obtain rfl : k = 0 := by omega
  have c1 : (((xs.length : Nat) : Int) < ((n : Nat) : Int)) = False := by simp; omega
  unfold bz at hk1
  rw [← hk1]
  dsimp only
  refine aW (fin _ xs s1 []) ?_
  repeat' ((first | apply ai | apply ah | apply am | apply au | refine aq rfl ?_ | apply al | apply aj | apply ae | apply ak mixed | apply ap mixed | (with_reducible first | refine af ?_ | refine ao ?_) | simp (disch := omega) only [bf, aG, aN, aO, bp, Int.tdiv_eq_ediv_of_nonneg, Int.tmod_eq_emod_of_nonneg] | ((first | refine ac ?_ ?_ | refine aa ?_ ?_) <;> intro hc <;> (try simp only [hc]) <;> try simp at hc) | (with_reducible refine ⟨?_, ?_⟩; (focus ((repeat' with_reducible refine ⟨?_, ?_⟩) <;> first | exact trivial | assumption | (simp; done) | (simp only [List.length_map] at *; omega) | omega | (simp [fs]; done) | exact ay))) | (with_reducible intro x hx) | omega) <;> (try simp only [c1, Nat.reduceBEq, reduceIte, de, aY, bg, fw]))
  refine aw [0, 1, 2, 3] (by rfl) (by simp) (by simp [plL, allL, fg])
  skip
def jr (s : Rs) : (Int × Int) × Rs := ((((aA 4294967295 s).1 : Int), ((aA 1000 (aA 4294967295 s).2).1 : Int)), (aA 1000 (aA 4294967295 s).2).2)
theorem oU (s : Rs) : (jr s).2.l.length ≤ s.l.length := Nat.le_trans ((aH _ (by omega) _).1) ((aH _ (by omega) _).1)
theorem x0 (s : Rs) (hl : s.l.length ≤ 1099511627776) :
  az Try.prog 74 [.ptr 0 0 0 1, .ptr 1 0 0 1] [Va 2 [.int .u32 0, .int .i64 0], Bx 2, Cr 3 s.cb, Rd s.l s.rb] (.tup [])
   [Va 2 (vP (jr s).1), Bx 2, Cr 3 (jr s).2.cb, Rd (jr s).2.l (jr s).2.rb] := by
 refine aK Try.func74 low74 (by simp [c74]) ?_
 simp only [c74]
 unfold jr
 have g1 := (aH 4294967295 (by omega) s).1
 have h1 : az Try.prog 33 [.ptr 0 0 0 1, .ptr 2 0 0 1] [Cr 1 s.cb, Rd s.l s.rb, Va 2 [.int .u32 0, .int .i64 0]] (.tup []) [Cr 1 (aA 4294967295 s).2.cb, Rd (aA 4294967295 s).2.l (aA 4294967295 s).2.rb, Va 2 [.int .u32 (aA 4294967295 s).1, .int .i64 0]] := cf s.l s.rb s.cb 2 [.int .u32 0, .int .i64 0] 0 rfl (by omega) (by omega)
 generalize aA 4294967295 s = q1 at h1 g1 ⊢
 obtain ⟨v1, s1⟩ := q1
 dsimp only at h1 g1 ⊢
 have g2 := (aH 1000 (by omega) s1).1
 have h2 : az Try.prog 32 [.ptr 0 0 0 1, .ptr 2 0 1 1, .int .u64 1000] [Cr 1 s1.cb, Rd s1.l s1.rb, Va 2 [.int .u32 v1, .int .i64 0]] (.tup []) [Cr 1 (aA 1000 s1).2.cb, Rd (aA 1000 s1).2.l (aA 1000 s1).2.rb, Va 2 [.int .u32 v1, .int .i64 (aA 1000 s1).1]] := bJ s1.l s1.rb s1.cb 2 [.int .u32 v1, .int .i64 0] 1 1000 rfl (by omega) (by omega) (by omega)
 generalize aA 1000 s1 = q2 at h2 g2 ⊢
 obtain ⟨v2, s2⟩ := q2
 dsimp only at h2 g2 ⊢
 have hc : vP ((v1 : Int), (v2 : Int)) = [.int .u32 v1, .int .i64 v2] := rfl
 rw [hc]
 repeat' ((first | apply ai | apply al | apply aj | apply ap mixed | (with_reducible first | refine af ?_ | refine aD (f := .c (.fn 33 [])) ?_ | refine aD (f := .c (.fn 32 [])) ?_ | refine aC ?_ | refine ab (h1) (by simp) ?_ | refine ab (h2) (by simp) ?_) | (with_reducible refine ⟨?_, ?_⟩; (focus ((repeat' with_reducible refine ⟨?_, ?_⟩) <;> first | exact trivial | assumption | (simp; done) | (simp only [List.length_map] at *; omega) | omega | (simp [fs]; done) | exact ay))) | (with_reducible intro x hx) | omega) <;> (try simp only [Nat.reduceBEq, reduceIte, Nat.reduceEqDiff, Nat.reduceAdd, Nat.reduceSub, Nat.reduceLT, reduceCtorEq, fw, fd]))
 refine aw [0, 1, 2, 3] (by rfl) (by simp) (by simp [fg])
set_option maxHeartbeats 4000000 in
theorem uG (s : Rs) (sz : Nat) (R : List D) (j most : Nat) (hR : R[j]? = some (.list (some true) true [])) (hz : R.length = sz) (hm : most < 1000000) (hl : s.l.length ≤ 1099511627776) :
  az Try.prog 73 [.ptr 0 0 0 1, .ptr 2 0 j 1, .int .i64 most, .fn 74 [.ptr 3 0 0 1]] [Cr 1 s.cb, Rd s.l s.rb, Va sz R, Bx 0] (.tup [])
   [Cr 1 (aM jr most s).2.cb, Rd (aM jr most s).2.l (aM jr most s).2.rb, Va sz (R.set j (L (aS .u32 .i64 (aM jr most s).1))), Bx 0] := by
 refine aK Try.func73 low73 (by simp [c73]) ?_
 simp only [c73]
 have hn : az Try.prog 34 [.ptr 0 0 0 1, .ptr 2 0 0 1, .int .u64 most] [Cr 1 s.cb, Rd s.l s.rb, Va 1 [.int .u64 0]] (.tup []) [Cr 1 (aA most s).2.cb, Rd (aA most s).2.l (aA most s).2.rb, Va 1 [.int .u64 (aA most s).1]] := cr s.l s.rb s.cb 1 [.int .u64 0] 0 most rfl (by omega) (by omega) hl
 obtain ⟨X, hX⟩ : ∃ X, aM jr most s = X := ⟨_, rfl⟩
 rw [hX]
 unfold aM at hX
 obtain ⟨g1, g2⟩ := aH most (by omega) s
 generalize aA most s = q at hn hX g1 g2
 obtain ⟨n, s0⟩ := q
 dsimp only at hn hX g1 g2
 have hj : j < R.length := (List.getElem?_eq_some_iff.1 hR).1
 have z0 : (((0 : Nat) : Int)) = 0 := rfl
 refine cZ 2 rfl rfl fun hpt => ?_
 have hpt : ∀ x ∈ R, x.pt1 = true := fun x hx => hpt R (by simp) x hx
 have own1 : ∀ d : D, (R.set j d)[j]? = some d := fun d => by rw [List.getElem?_set_self hj]
 have own2 : ∀ d e : D, (R.set j d).take j ++ [e] ++ (R.set j d).drop (j + 1) = R.set j e := fun d e => by
  rw [dt (by rw [List.length_set]; exact hj), List.set_set]
 have pl5 : ∀ (σ : List Ob) (k n : Nat), bq (bk true [0, 1, 2, 3, 5] σ) (R.set j (.own 5 0 k n 2 none)) = some (R.set j (.own 4 0 k n 2 none)) := fun σ k n => bE hpt rfl
 have pl4 : ∀ (σ : List Ob) (k n : Nat), bq (bk true [0, 1, 2, 3, 4] σ) (R.set j (.own 4 0 k n 2 none)) = some (R.set j (.own 4 0 k n 2 none)) := fun σ k n => bE hpt rfl
 have plL : ∀ (σ : List Ob) (rows : List (List D)), bq (bk true [0, 1, 2, 3] σ) (R.set j (.list none false rows)) = some (R.set j (.list none false rows)) := fun σ rows => dB hpt rfl
 have allL : ∀ rows : List (List D), (R.set j (.list none false rows)).all D.pt1 = true := fun rows => dz hpt rfl
 have hz' : (j + 1 ≤ sz) = True := eq_true (by omega)
 repeat' ((first | apply ai | apply ah | apply am | apply au | refine aq rfl ?_ | apply al | apply aj | apply ae | apply ak mixed | apply ap mixed | (with_reducible first | refine af ?_ | refine ar (f := .c (.fn 34 [])) ?_ | refine ao ?_ | refine ab (hn) (by simp) ?_) | simp (disch := omega) only [aG] | ((first | refine ac ?_ ?_ | refine aa ?_ ?_) <;> intro hc <;> (try simp only [hc]) <;> try simp at hc) | (with_reducible refine ⟨?_, ?_⟩; (focus ((repeat' with_reducible refine ⟨?_, ?_⟩) <;> first | exact trivial | assumption | (simp; done) | (simp only [List.length_map] at *; omega) | omega | (simp [fs]; done) | exact ay))) | (with_reducible intro x hx) | omega) <;> (try simp only [hR, z0, Nat.reduceBEq, reduceIte, Nat.reduceEqDiff, Nat.reduceAdd, Nat.reduceSub, Nat.reduceLT, reduceCtorEq, cond_false, ne_eq, fw, fd]))
 refine aW (cO (l := 2) (j := 0) (i := j) (b := true) 2 true (by decide) rfl rfl rfl rfl hR) ?_
 refine aT (ι := {p : Nat × Rs × List (Int × Int) // bz jr p.1 p.2.1 p.2.2 = X ∧ p.2.2.length + p.1 = n ∧ p.2.1.l.length ≤ s0.l.length}) (fun p => ([(0, .ptr 0 0 0 1), (1, .ptr 2 0 j 1), (3, .fn 74 [.ptr 3 0 0 1]), (42, .int .u64 n), (43, .int .u64 p.1.2.2.length)],
  [Cr 1 p.1.2.1.cb, Rd p.1.2.1.l p.1.2.1.rb, ⟨true, false, false, false, sz, [R.set j (.own 4 0 p.1.2.2.length p.1.2.2.length 2 none)], some 0⟩, Bx 0, aU true 2 true (aS .u32 .i64 p.1.2.2)])) (fun p => p.1.1) ⟨(n, s0, []), hX, by simp, Nat.le_refl _⟩ ?_ ?_
 ·simp only [List.length_nil, show aS .u32 .i64 [] = [] from rfl]
  refine aJ [0, 1, 2, 3, 5] (by rfl) (by simp) (by simp [pl5, fg]) (by simp [fg])
  skip
 rintro ⟨⟨k, s1, xs⟩, hk1, hk2, hk3⟩ hk
 dsimp only at hk1 hk2 hk3 hk ⊢
 have fin : ∀ (env : bv) (ys : List (Int × Int)) (s2 : Rs) (ex : List Ob), fI [Cr 1 s.cb, Rd s.l s.rb, Va sz R, Bx 0] env (Cr 1 s2.cb :: Rd s2.l s2.rb :: ⟨true, false, false, false, sz, [R.set j (.own 4 0 ys.length ys.length 2 none)], some 0⟩ :: Bx 0 :: aU true 2 true (aS .u32 .i64 ys) :: ex) env
   (Cr 1 s2.cb :: Rd s2.l s2.rb :: ⟨true, false, false, false, sz, [R.set j (L (aS .u32 .i64 ys))], some 0⟩ :: Bx 0 :: { aU true 2 true (aS .u32 .i64 ys) with fz := true } :: ex) := fun env ys s2 ex => by
  refine fI.trans (ct 4) ?_
  have := cE (base := [Cr 1 s.cb, Rd s.l s.rb, Va sz R, Bx 0]) (env := env) (σ := Cr 1 s2.cb :: Rd s2.l s2.rb :: ⟨true, false, false, false, sz, [R.set j (.own 4 0 ys.length ys.length 2 none)], some 0⟩ :: Bx 0 :: { aU true 2 true (aS .u32 .i64 ys) with fz := true } :: ex) (l := 2) (j := 0) (i := j) (m := 4) (rows := aS .u32 .i64 ys) rfl rfl rfl rfl (own1 _) rfl rfl (by
   rw [bL]
   show eU (some _) _ _ _ = _
   rw [bK]
   simp [cn, cu, aF, cm])
  simp only [List.set_cons_zero, List.set_cons_succ, List.set_set] at this
  exact this
 by_cases hlt : 0 < k
 ·obtain ⟨k, rfl⟩ : ∃ k', k = k' + 1 := ⟨k - 1, by omega⟩
  have c1 : (((xs.length : Nat) : Int) < ((n : Nat) : Int)) = True := by simp; omega
  have he := x0 s1 (by omega)
  have hle := oU s1
  unfold bz at hk1
  generalize jr s1 = q at he hk1 hle
  obtain ⟨v, s2⟩ := q
  dsimp only at he hk1 hle
  have hcell : vP v = [.int .u32 v.1, .int .i64 v.2] := rfl
  rw [hcell] at he
  by_cases hb : s2.rb = true ∨ s2.cb = true
  ·rw [if_pos hb] at hk1
   rw [← hk1]
   obtain ⟨l2, rb2, cb2⟩ := s2
   dsimp only at he hb ⊢
   cases rb2
   ·obtain rfl : cb2 = true := by simpa using hb
    repeat' ((first | apply ai | apply ah | apply am | apply au | refine aq rfl ?_ | apply aj | apply ae | apply ak mixed | apply ap mixed | (with_reducible first | refine af ?_ | refine ar (f := .t 45) ?_ | refine ao ?_ | refine ab (he) (by simp) ?_) | refine av (bw _ _) ?_ ?_ | simp (disch := omega) only [bf, aG, aN, aO, bp, Int.tdiv_eq_ediv_of_nonneg, Int.tmod_eq_emod_of_nonneg] | ((first | refine ac ?_ ?_ | refine aa ?_ ?_) <;> intro hc <;> (try simp only [hc]) <;> try simp at hc) | (with_reducible refine ⟨?_, ?_⟩; (focus ((repeat' with_reducible refine ⟨?_, ?_⟩) <;> first | exact trivial | assumption | (simp; done) | (simp only [List.length_map] at *; omega) | omega | (simp [fs]; done) | exact ay))) | (with_reducible intro x hx) | omega) <;> (try simp only [c1, Nat.reduceBEq, reduceIte, Nat.reduceEqDiff, Nat.reduceAdd, Nat.reduceSub, Nat.reduceLT, reduceCtorEq, cond_false, ne_eq, fw, fd]))
    refine aW (fin _ xs ⟨l2, false, true⟩ [Va 2 [.int .u32 v.1, .int .i64 v.2]]) ?_
    repeat' ((first | apply ai | apply ah | apply am | apply au | refine aq rfl ?_ | apply al | apply aj | apply ae | apply ak mixed | apply ap mixed | (with_reducible first | refine af ?_ | refine ao ?_) | simp (disch := omega) only [bf, aG, aN, aO, bp, Int.tdiv_eq_ediv_of_nonneg, Int.tmod_eq_emod_of_nonneg] | ((first | refine ac ?_ ?_ | refine aa ?_ ?_) <;> intro hc <;> (try simp only [hc]) <;> try simp at hc) | (with_reducible refine ⟨?_, ?_⟩; (focus ((repeat' with_reducible refine ⟨?_, ?_⟩) <;> first | exact trivial | assumption | (simp; done) | (simp only [List.length_map] at *; omega) | omega | (simp [fs]; done) | exact ay))) | (with_reducible intro x hx) | omega) <;> (try simp only [bg, fw]))
    refine aw [0, 1, 2, 3] (by rfl) (by simp) (by simp [plL, allL, fg])
   ·repeat' ((first | apply ai | apply ah | apply am | apply au | refine aq rfl ?_ | apply aj | apply ae | apply ak mixed | apply ap mixed | (with_reducible first | refine af ?_ | refine ar (f := .t 45) ?_ | refine ao ?_ | refine ab (he) (by simp) ?_) | refine av (bw _ _) ?_ ?_ | simp (disch := omega) only [bf, aG, aN, aO, bp, Int.tdiv_eq_ediv_of_nonneg, Int.tmod_eq_emod_of_nonneg] | ((first | refine ac ?_ ?_ | refine aa ?_ ?_) <;> intro hc <;> (try simp only [hc]) <;> try simp at hc) | (with_reducible refine ⟨?_, ?_⟩; (focus ((repeat' with_reducible refine ⟨?_, ?_⟩) <;> first | exact trivial | assumption | (simp; done) | (simp only [List.length_map] at *; omega) | omega | (simp [fs]; done) | exact ay))) | (with_reducible intro x hx) | omega) <;> (try simp only [c1, Nat.reduceBEq, reduceIte, Nat.reduceEqDiff, Nat.reduceAdd, Nat.reduceSub, Nat.reduceLT, reduceCtorEq, cond_true, ne_eq, fw, fd]))
    refine aW (fin _ xs ⟨l2, true, cb2⟩ [Va 2 [.int .u32 v.1, .int .i64 v.2]]) ?_
    repeat' ((first | apply ai | apply ah | apply am | apply au | refine aq rfl ?_ | apply al | apply aj | apply ae | apply ak mixed | apply ap mixed | (with_reducible first | refine af ?_ | refine ao ?_) | simp (disch := omega) only [bf, aG, aN, aO, bp, Int.tdiv_eq_ediv_of_nonneg, Int.tmod_eq_emod_of_nonneg] | ((first | refine ac ?_ ?_ | refine aa ?_ ?_) <;> intro hc <;> (try simp only [hc]) <;> try simp at hc) | (with_reducible refine ⟨?_, ?_⟩; (focus ((repeat' with_reducible refine ⟨?_, ?_⟩) <;> first | exact trivial | assumption | (simp; done) | (simp only [List.length_map] at *; omega) | omega | (simp [fs]; done) | exact ay))) | (with_reducible intro x hx) | omega) <;> (try simp only [bg, fw]))
    refine aw [0, 1, 2, 3] (by rfl) (by simp) (by simp [plL, allL, fg])
  ·rw [if_neg hb] at hk1
   obtain ⟨l2, rb2, cb2⟩ := s2
   dsimp only at he hb hle hk1 ⊢
   obtain ⟨rfl, rfl⟩ : rb2 = false ∧ cb2 = false := by simpa using hb
   have hu : aS .u32 .i64 xs ++ [[.int .u32 v.1, .int .i64 v.2]] = aS .u32 .i64 (xs ++ [v]) := by simp [aS]
   repeat' ((first | apply ai | apply ah | apply am | apply au | refine aq rfl ?_ | apply al | apply aj | apply ae | apply ak mixed | apply ap mixed | (with_reducible first | refine af ?_ | refine ar (f := .t 45) ?_ | refine ao ?_ | refine ab (he) (by simp) ?_) | refine av (bw _ _) ?_ ?_ | simp (disch := omega) only [aG] | ((first | refine ac ?_ ?_ | refine aa ?_ ?_) <;> intro hc <;> (try simp only [hc]) <;> try simp at hc) | (with_reducible refine ⟨?_, ?_⟩; (focus ((repeat' with_reducible refine ⟨?_, ?_⟩) <;> first | exact trivial | assumption | (simp; done) | omega | (simp [fs]; done) | exact ay))) | (with_reducible intro x hx) | omega) <;> (try simp only [aF, c1, own1, own2, hz', hu, Nat.reduceBEq, reduceIte, Nat.reduceEqDiff, Nat.reduceAdd, Nat.reduceSub, Nat.reduceLT, Nat.reduceLeDiff, reduceCtorEq, cond_false, ne_eq, fw, fd]))
   refine hk ⟨(k, ⟨l2, false, false⟩, xs ++ [v]), hk1, by rw [List.length_append, List.length_cons, List.length_nil]; omega, by dsimp only; omega⟩ _ _ (by dsimp only; omega) ?_
   dsimp only
   simp only [List.length_append, List.length_cons, List.length_nil]
   refine aJ [0, 1, 2, 3, 4] (by rfl) (by simp) (by simp [pl4, fg]) (by simp [fg])
   skip
 ·obtain rfl : k = 0 := by omega
  have c1 : (((xs.length : Nat) : Int) < ((n : Nat) : Int)) = False := by simp; omega
  unfold bz at hk1
  rw [← hk1]
  dsimp only
  refine aW (fin _ xs s1 []) ?_
  repeat' ((first | apply ai | apply ah | apply am | apply au | refine aq rfl ?_ | apply al | apply aj | apply ae | apply ak mixed | apply ap mixed | (with_reducible first | refine af ?_ | refine ao ?_) | simp (disch := omega) only [bf, aG, aN, aO, bp, Int.tdiv_eq_ediv_of_nonneg, Int.tmod_eq_emod_of_nonneg] | ((first | refine ac ?_ ?_ | refine aa ?_ ?_) <;> intro hc <;> (try simp only [hc]) <;> try simp at hc) | (with_reducible refine ⟨?_, ?_⟩; (focus ((repeat' with_reducible refine ⟨?_, ?_⟩) <;> first | exact trivial | assumption | (simp; done) | (simp only [List.length_map] at *; omega) | omega | (simp [fs]; done) | exact ay))) | (with_reducible intro x hx) | omega) <;> (try simp only [c1, Nat.reduceBEq, reduceIte, de, aY, bg, fw]))
  refine aw [0, 1, 2, 3] (by rfl) (by simp) (by simp [plL, allL, fg])
  skip
def jl (s : Rs) : (Int × Int) × Rs := ((((aA 4294967295 s).1 : Int), ((aA 4294967295 (aA 4294967295 s).2).1 : Int)), (aA 4294967295 (aA 4294967295 s).2).2)
theorem o4 (s : Rs) : (jl s).2.l.length ≤ s.l.length := Nat.le_trans ((aH _ (by omega) _).1) ((aH _ (by omega) _).1)
theorem wO (s : Rs) (hl : s.l.length ≤ 1099511627776) :
  az Try.prog 76 [.ptr 0 0 0 1, .ptr 1 0 0 1] [Va 2 [.int .u32 0, .int .u32 0], Bx 2, Cr 3 s.cb, Rd s.l s.rb] (.tup [])
   [Va 2 (vC (jl s).1), Bx 2, Cr 3 (jl s).2.cb, Rd (jl s).2.l (jl s).2.rb] := by
 refine aK Try.func76 low76 (by simp [c76]) ?_
 simp only [c76]
 unfold jl
 have g1 := (aH 4294967295 (by omega) s).1
 have h1 : az Try.prog 33 [.ptr 0 0 0 1, .ptr 2 0 0 1] [Cr 1 s.cb, Rd s.l s.rb, Va 2 [.int .u32 0, .int .u32 0]] (.tup []) [Cr 1 (aA 4294967295 s).2.cb, Rd (aA 4294967295 s).2.l (aA 4294967295 s).2.rb, Va 2 [.int .u32 (aA 4294967295 s).1, .int .u32 0]] := cf s.l s.rb s.cb 2 [.int .u32 0, .int .u32 0] 0 rfl (by omega) (by omega)
 generalize aA 4294967295 s = q1 at h1 g1 ⊢
 obtain ⟨v1, s1⟩ := q1
 dsimp only at h1 g1 ⊢
 have g2 := (aH 4294967295 (by omega) s1).1
 have h2 : az Try.prog 33 [.ptr 0 0 0 1, .ptr 2 0 1 1] [Cr 1 s1.cb, Rd s1.l s1.rb, Va 2 [.int .u32 v1, .int .u32 0]] (.tup []) [Cr 1 (aA 4294967295 s1).2.cb, Rd (aA 4294967295 s1).2.l (aA 4294967295 s1).2.rb, Va 2 [.int .u32 v1, .int .u32 (aA 4294967295 s1).1]] := cf s1.l s1.rb s1.cb 2 [.int .u32 v1, .int .u32 0] 1 rfl (by omega) (by omega)
 generalize aA 4294967295 s1 = q2 at h2 g2 ⊢
 obtain ⟨v2, s2⟩ := q2
 dsimp only at h2 g2 ⊢
 have hc : vC ((v1 : Int), (v2 : Int)) = [.int .u32 v1, .int .u32 v2] := rfl
 rw [hc]
 repeat' ((first | apply ai | apply al | apply aj | apply ap mixed | (with_reducible first | refine af ?_ | refine aD (f := .c (.fn 33 [])) ?_ | refine aC ?_ | refine ab (h1) (by simp) ?_ | refine ab (h2) (by simp) ?_) | (with_reducible refine ⟨?_, ?_⟩; (focus ((repeat' with_reducible refine ⟨?_, ?_⟩) <;> first | exact trivial | assumption | (simp; done) | (simp only [List.length_map] at *; omega) | omega | (simp [fs]; done) | exact ay))) | (with_reducible intro x hx) | omega) <;> (try simp only [Nat.reduceBEq, reduceIte, Nat.reduceEqDiff, Nat.reduceAdd, Nat.reduceSub, Nat.reduceLT, reduceCtorEq, fw, fd]))
 refine aw [0, 1, 2, 3] (by rfl) (by simp) (by simp [fg])
set_option maxHeartbeats 4000000 in
theorem uR (s : Rs) (sz : Nat) (R : List D) (j most : Nat) (hR : R[j]? = some (.list (some true) true [])) (hz : R.length = sz) (hm : most < 1000000) (hl : s.l.length ≤ 1099511627776) :
  az Try.prog 75 [.ptr 0 0 0 1, .ptr 2 0 j 1, .int .i64 most, .fn 76 [.ptr 3 0 0 1]] [Cr 1 s.cb, Rd s.l s.rb, Va sz R, Bx 0] (.tup [])
   [Cr 1 (aM jl most s).2.cb, Rd (aM jl most s).2.l (aM jl most s).2.rb, Va sz (R.set j (L (aS .u32 .u32 (aM jl most s).1))), Bx 0] := by
 refine aK Try.func75 low75 (by simp [c75]) ?_
 simp only [c75]
 have hn : az Try.prog 34 [.ptr 0 0 0 1, .ptr 2 0 0 1, .int .u64 most] [Cr 1 s.cb, Rd s.l s.rb, Va 1 [.int .u64 0]] (.tup []) [Cr 1 (aA most s).2.cb, Rd (aA most s).2.l (aA most s).2.rb, Va 1 [.int .u64 (aA most s).1]] := cr s.l s.rb s.cb 1 [.int .u64 0] 0 most rfl (by omega) (by omega) hl
 obtain ⟨X, hX⟩ : ∃ X, aM jl most s = X := ⟨_, rfl⟩
 rw [hX]
 unfold aM at hX
 obtain ⟨g1, g2⟩ := aH most (by omega) s
 generalize aA most s = q at hn hX g1 g2
 obtain ⟨n, s0⟩ := q
 dsimp only at hn hX g1 g2
 have hj : j < R.length := (List.getElem?_eq_some_iff.1 hR).1
 have z0 : (((0 : Nat) : Int)) = 0 := rfl
 refine cZ 2 rfl rfl fun hpt => ?_
 have hpt : ∀ x ∈ R, x.pt1 = true := fun x hx => hpt R (by simp) x hx
 have own1 : ∀ d : D, (R.set j d)[j]? = some d := fun d => by rw [List.getElem?_set_self hj]
 have own2 : ∀ d e : D, (R.set j d).take j ++ [e] ++ (R.set j d).drop (j + 1) = R.set j e := fun d e => by
  rw [dt (by rw [List.length_set]; exact hj), List.set_set]
 have pl5 : ∀ (σ : List Ob) (k n : Nat), bq (bk true [0, 1, 2, 3, 5] σ) (R.set j (.own 5 0 k n 2 none)) = some (R.set j (.own 4 0 k n 2 none)) := fun σ k n => bE hpt rfl
 have pl4 : ∀ (σ : List Ob) (k n : Nat), bq (bk true [0, 1, 2, 3, 4] σ) (R.set j (.own 4 0 k n 2 none)) = some (R.set j (.own 4 0 k n 2 none)) := fun σ k n => bE hpt rfl
 have plL : ∀ (σ : List Ob) (rows : List (List D)), bq (bk true [0, 1, 2, 3] σ) (R.set j (.list none false rows)) = some (R.set j (.list none false rows)) := fun σ rows => dB hpt rfl
 have allL : ∀ rows : List (List D), (R.set j (.list none false rows)).all D.pt1 = true := fun rows => dz hpt rfl
 have hz' : (j + 1 ≤ sz) = True := eq_true (by omega)
 repeat' ((first | apply ai | apply ah | apply am | apply au | refine aq rfl ?_ | apply al | apply aj | apply ae | apply ak mixed | apply ap mixed | (with_reducible first | refine af ?_ | refine ar (f := .c (.fn 34 [])) ?_ | refine ao ?_ | refine ab (hn) (by simp) ?_) | simp (disch := omega) only [aG] | ((first | refine ac ?_ ?_ | refine aa ?_ ?_) <;> intro hc <;> (try simp only [hc]) <;> try simp at hc) | (with_reducible refine ⟨?_, ?_⟩; (focus ((repeat' with_reducible refine ⟨?_, ?_⟩) <;> first | exact trivial | assumption | (simp; done) | (simp only [List.length_map] at *; omega) | omega | (simp [fs]; done) | exact ay))) | (with_reducible intro x hx) | omega) <;> (try simp only [hR, z0, Nat.reduceBEq, reduceIte, Nat.reduceEqDiff, Nat.reduceAdd, Nat.reduceSub, Nat.reduceLT, reduceCtorEq, cond_false, ne_eq, fw, fd]))
 refine aW (cO (l := 2) (j := 0) (i := j) (b := true) 2 true (by decide) rfl rfl rfl rfl hR) ?_
 refine aT (ι := {p : Nat × Rs × List (Int × Int) // bz jl p.1 p.2.1 p.2.2 = X ∧ p.2.2.length + p.1 = n ∧ p.2.1.l.length ≤ s0.l.length}) (fun p => ([(0, .ptr 0 0 0 1), (1, .ptr 2 0 j 1), (3, .fn 76 [.ptr 3 0 0 1]), (42, .int .u64 n), (43, .int .u64 p.1.2.2.length)],
  [Cr 1 p.1.2.1.cb, Rd p.1.2.1.l p.1.2.1.rb, ⟨true, false, false, false, sz, [R.set j (.own 4 0 p.1.2.2.length p.1.2.2.length 2 none)], some 0⟩, Bx 0, aU true 2 true (aS .u32 .u32 p.1.2.2)])) (fun p => p.1.1) ⟨(n, s0, []), hX, by simp, Nat.le_refl _⟩ ?_ ?_
 ·simp only [List.length_nil, show aS .u32 .u32 [] = [] from rfl]
  refine aJ [0, 1, 2, 3, 5] (by rfl) (by simp) (by simp [pl5, fg]) (by simp [fg])
  skip
 rintro ⟨⟨k, s1, xs⟩, hk1, hk2, hk3⟩ hk
 dsimp only at hk1 hk2 hk3 hk ⊢
 have fin : ∀ (env : bv) (ys : List (Int × Int)) (s2 : Rs) (ex : List Ob), fI [Cr 1 s.cb, Rd s.l s.rb, Va sz R, Bx 0] env (Cr 1 s2.cb :: Rd s2.l s2.rb :: ⟨true, false, false, false, sz, [R.set j (.own 4 0 ys.length ys.length 2 none)], some 0⟩ :: Bx 0 :: aU true 2 true (aS .u32 .u32 ys) :: ex) env
   (Cr 1 s2.cb :: Rd s2.l s2.rb :: ⟨true, false, false, false, sz, [R.set j (L (aS .u32 .u32 ys))], some 0⟩ :: Bx 0 :: { aU true 2 true (aS .u32 .u32 ys) with fz := true } :: ex) := fun env ys s2 ex => by
  refine fI.trans (ct 4) ?_
  have := cE (base := [Cr 1 s.cb, Rd s.l s.rb, Va sz R, Bx 0]) (env := env) (σ := Cr 1 s2.cb :: Rd s2.l s2.rb :: ⟨true, false, false, false, sz, [R.set j (.own 4 0 ys.length ys.length 2 none)], some 0⟩ :: Bx 0 :: { aU true 2 true (aS .u32 .u32 ys) with fz := true } :: ex) (l := 2) (j := 0) (i := j) (m := 4) (rows := aS .u32 .u32 ys) rfl rfl rfl rfl (own1 _) rfl rfl (by
   rw [bL]
   show eU (some _) _ _ _ = _
   rw [bK]
   simp [cn, cu, aF, cm])
  simp only [List.set_cons_zero, List.set_cons_succ, List.set_set] at this
  exact this
 by_cases hlt : 0 < k
 ·obtain ⟨k, rfl⟩ : ∃ k', k = k' + 1 := ⟨k - 1, by omega⟩
  have c1 : (((xs.length : Nat) : Int) < ((n : Nat) : Int)) = True := by simp; omega
  have he := wO s1 (by omega)
  have hle := o4 s1
  unfold bz at hk1
  generalize jl s1 = q at he hk1 hle
  obtain ⟨v, s2⟩ := q
  dsimp only at he hk1 hle
  have hcell : vC v = [.int .u32 v.1, .int .u32 v.2] := rfl
  rw [hcell] at he
  by_cases hb : s2.rb = true ∨ s2.cb = true
  ·rw [if_pos hb] at hk1
   rw [← hk1]
   obtain ⟨l2, rb2, cb2⟩ := s2
   dsimp only at he hb ⊢
   cases rb2
   ·obtain rfl : cb2 = true := by simpa using hb
    repeat' ((first | apply ai | apply ah | apply am | apply au | refine aq rfl ?_ | apply aj | apply ae | apply ak mixed | apply ap mixed | (with_reducible first | refine af ?_ | refine ar (f := .t 45) ?_ | refine ao ?_ | refine ab (he) (by simp) ?_) | refine av (bw _ _) ?_ ?_ | simp (disch := omega) only [bf, aG, aN, aO, bp, Int.tdiv_eq_ediv_of_nonneg, Int.tmod_eq_emod_of_nonneg] | ((first | refine ac ?_ ?_ | refine aa ?_ ?_) <;> intro hc <;> (try simp only [hc]) <;> try simp at hc) | (with_reducible refine ⟨?_, ?_⟩; (focus ((repeat' with_reducible refine ⟨?_, ?_⟩) <;> first | exact trivial | assumption | (simp; done) | (simp only [List.length_map] at *; omega) | omega | (simp [fs]; done) | exact ay))) | (with_reducible intro x hx) | omega) <;> (try simp only [c1, Nat.reduceBEq, reduceIte, Nat.reduceEqDiff, Nat.reduceAdd, Nat.reduceSub, Nat.reduceLT, reduceCtorEq, cond_false, ne_eq, fw, fd]))
    refine aW (fin _ xs ⟨l2, false, true⟩ [Va 2 [.int .u32 v.1, .int .u32 v.2]]) ?_
    repeat' ((first | apply ai | apply ah | apply am | apply au | refine aq rfl ?_ | apply al | apply aj | apply ae | apply ak mixed | apply ap mixed | (with_reducible first | refine af ?_ | refine ao ?_) | simp (disch := omega) only [bf, aG, aN, aO, bp, Int.tdiv_eq_ediv_of_nonneg, Int.tmod_eq_emod_of_nonneg] | ((first | refine ac ?_ ?_ | refine aa ?_ ?_) <;> intro hc <;> (try simp only [hc]) <;> try simp at hc) | (with_reducible refine ⟨?_, ?_⟩; (focus ((repeat' with_reducible refine ⟨?_, ?_⟩) <;> first | exact trivial | assumption | (simp; done) | (simp only [List.length_map] at *; omega) | omega | (simp [fs]; done) | exact ay))) | (with_reducible intro x hx) | omega) <;> (try simp only [bg, fw]))
    refine aw [0, 1, 2, 3] (by rfl) (by simp) (by simp [plL, allL, fg])
   ·repeat' ((first | apply ai | apply ah | apply am | apply au | refine aq rfl ?_ | apply aj | apply ae | apply ak mixed | apply ap mixed | (with_reducible first | refine af ?_ | refine ar (f := .t 45) ?_ | refine ao ?_ | refine ab (he) (by simp) ?_) | refine av (bw _ _) ?_ ?_ | simp (disch := omega) only [bf, aG, aN, aO, bp, Int.tdiv_eq_ediv_of_nonneg, Int.tmod_eq_emod_of_nonneg] | ((first | refine ac ?_ ?_ | refine aa ?_ ?_) <;> intro hc <;> (try simp only [hc]) <;> try simp at hc) | (with_reducible refine ⟨?_, ?_⟩; (focus ((repeat' with_reducible refine ⟨?_, ?_⟩) <;> first | exact trivial | assumption | (simp; done) | (simp only [List.length_map] at *; omega) | omega | (simp [fs]; done) | exact ay))) | (with_reducible intro x hx) | omega) <;> (try simp only [c1, Nat.reduceBEq, reduceIte, Nat.reduceEqDiff, Nat.reduceAdd, Nat.reduceSub, Nat.reduceLT, reduceCtorEq, cond_true, ne_eq, fw, fd]))
    refine aW (fin _ xs ⟨l2, true, cb2⟩ [Va 2 [.int .u32 v.1, .int .u32 v.2]]) ?_
    repeat' ((first | apply ai | apply ah | apply am | apply au | refine aq rfl ?_ | apply al | apply aj | apply ae | apply ak mixed | apply ap mixed | (with_reducible first | refine af ?_ | refine ao ?_) | simp (disch := omega) only [bf, aG, aN, aO, bp, Int.tdiv_eq_ediv_of_nonneg, Int.tmod_eq_emod_of_nonneg] | ((first | refine ac ?_ ?_ | refine aa ?_ ?_) <;> intro hc <;> (try simp only [hc]) <;> try simp at hc) | (with_reducible refine ⟨?_, ?_⟩; (focus ((repeat' with_reducible refine ⟨?_, ?_⟩) <;> first | exact trivial | assumption | (simp; done) | (simp only [List.length_map] at *; omega) | omega | (simp [fs]; done) | exact ay))) | (with_reducible intro x hx) | omega) <;> (try simp only [bg, fw]))
    refine aw [0, 1, 2, 3] (by rfl) (by simp) (by simp [plL, allL, fg])
  ·rw [if_neg hb] at hk1
   obtain ⟨l2, rb2, cb2⟩ := s2
   dsimp only at he hb hle hk1 ⊢
   obtain ⟨rfl, rfl⟩ : rb2 = false ∧ cb2 = false := by simpa using hb
   have hu : aS .u32 .u32 xs ++ [[.int .u32 v.1, .int .u32 v.2]] = aS .u32 .u32 (xs ++ [v]) := by simp [aS]
   repeat' ((first | apply ai | apply ah | apply am | apply au | refine aq rfl ?_ | apply al | apply aj | apply ae | apply ak mixed | apply ap mixed | (with_reducible first | refine af ?_ | refine ar (f := .t 45) ?_ | refine ao ?_ | refine ab (he) (by simp) ?_) | refine av (bw _ _) ?_ ?_ | simp (disch := omega) only [aG] | ((first | refine ac ?_ ?_ | refine aa ?_ ?_) <;> intro hc <;> (try simp only [hc]) <;> try simp at hc) | (with_reducible refine ⟨?_, ?_⟩; (focus ((repeat' with_reducible refine ⟨?_, ?_⟩) <;> first | exact trivial | assumption | (simp; done) | omega | (simp [fs]; done) | exact ay))) | (with_reducible intro x hx) | omega) <;> (try simp only [aF, c1, own1, own2, hz', hu, Nat.reduceBEq, reduceIte, Nat.reduceEqDiff, Nat.reduceAdd, Nat.reduceSub, Nat.reduceLT, Nat.reduceLeDiff, reduceCtorEq, cond_false, ne_eq, fw, fd]))
   refine hk ⟨(k, ⟨l2, false, false⟩, xs ++ [v]), hk1, by rw [List.length_append, List.length_cons, List.length_nil]; omega, by dsimp only; omega⟩ _ _ (by dsimp only; omega) ?_
   dsimp only
   simp only [List.length_append, List.length_cons, List.length_nil]
   refine aJ [0, 1, 2, 3, 4] (by rfl) (by simp) (by simp [pl4, fg]) (by simp [fg])
   skip
 ·obtain rfl : k = 0 := by omega
  have c1 : (((xs.length : Nat) : Int) < ((n : Nat) : Int)) = False := by simp; omega
  unfold bz at hk1
  rw [← hk1]
  dsimp only
  refine aW (fin _ xs s1 []) ?_
  repeat' ((first | apply ai | apply ah | apply am | apply au | refine aq rfl ?_ | apply al | apply aj | apply ae | apply ak mixed | apply ap mixed | (with_reducible first | refine af ?_ | refine ao ?_) | simp (disch := omega) only [bf, aG, aN, aO, bp, Int.tdiv_eq_ediv_of_nonneg, Int.tmod_eq_emod_of_nonneg] | ((first | refine ac ?_ ?_ | refine aa ?_ ?_) <;> intro hc <;> (try simp only [hc]) <;> try simp at hc) | (with_reducible refine ⟨?_, ?_⟩; (focus ((repeat' with_reducible refine ⟨?_, ?_⟩) <;> first | exact trivial | assumption | (simp; done) | (simp only [List.length_map] at *; omega) | omega | (simp [fs]; done) | exact ay))) | (with_reducible intro x hx) | omega) <;> (try simp only [c1, Nat.reduceBEq, reduceIte, de, aY, bg, fw]))
  refine aw [0, 1, 2, 3] (by rfl) (by simp) (by simp [plL, allL, fg])
  skip
end Go.Proofs.Ytgefljdclekadaa
