import Derived.Test.YtgefljdclekadaaGreatWMJ
import Derived.Test.YtgefljdclekadaaGreatWMK
import Derived.Test.YtgefljdclekadaaGreatWML
set_option linter.unusedVariables false
set_option linter.unusedSimpArgs false
set_option linter.unnecessarySimpa false
namespace Go.Proofs.YtgefljdclekadaaGreat
open Go Go.Vi

theorem lenTs (x : Int) (h : fTs x) : (eTs x).length ≤ 30 := by
 have h1 := z10 h
 simp only [eTs]; omega
theorem lenVo (x : Int × Int) (h : fVo x) : (eVo x).length ≤ 30 := by
 have h1 := n10 x.1; have h2 := n10 x.2
 simp only [eVo, List.length_append]; omega
theorem lenSl (x : Int × Int × Int) (h : fSl x) : (eSl x).length ≤ 30 := by
 have h1 := z10 h.1; have h2 := n10 x.2.1; have h3 := n10 x.2.2
 simp only [eSl, List.length_append]; omega
theorem lenPo {s : Po} (h : fPo s) (g : s.great = false) : (ePo s).length ≤ 200000 := by
 simp only [Po.great, Bool.or_eq_false_iff, decide_eq_false_iff_not] at g
 obtain ⟨h1, h2, h3, ⟨h4, h5⟩, ⟨h6, h7⟩, h8, h9, h10⟩ := h
 have a1 := n10 s.id
 have a2 := n10 s.owner
 have a3 := lenQu h3 g.1.1
 have a4 := row30 lenTs s.slots 80 (by omega) (by omega) h5
 have a5 := row30 lenVo s.votes 300 (by omega) (by omega) h7
 have a6 := z10 h8
 have a7 := n10 s.state
 have a8 := n10 s.winner
 simp only [ePo, List.length_append]
 omega
theorem lenRe {a : Re} (h : fRe a) (g : a.great = false) : (eRe a).length ≤ 1000000 := by
 simp only [Re.great, Bool.or_eq_false_iff, decide_eq_false_iff_not] at g
 have a1 := n10 a.err
 have a2 := n10 a.ver
 have a3 := row30 lenSl a.slots 150 (by omega) (by omega) h.slots.2
 have a4 := lenPo h.po g.2
 have a12 : (tx8 a.cursor).length ≤ 1000 := by
  unfold tx8
  have h1 := num_10 (n := a.cursor.size) (by omega)
  have h2 : a.cursor.data.toList.length = a.cursor.size := rfl
  rw [List.length_append]
  omega
 unfold eRe
 split
 ·simp only [eRe0, fl8, List.length_append, List.length_cons, List.length_nil]; omega
 ·simp only [eRe1, fl8, List.length_append, List.length_cons, List.length_nil]; omega
set_option maxRecDepth 100000 in
/-- A reply of the shape has numbers of the kinds. -/
theorem rngRe (a : Re) (h : FitsAll shRe a.cells) (hc : a.cursor.size ≤ 1099511627776) : fRe a := by
 simp only [shRe, Re.cells, ft_cons] at h
 obtain ⟨h0, h1, h2, h3, p0, p1, q0, q1, q2, q3, q4, q5, q6, q7, q8, p2, p3, p4, p5, p6, _⟩ := h
 have d8 : 0 < 8 := by decide
 have d16 : 0 < 16 := by decide
 have d4 : 0 < 4 := by decide
 have hqu : fQu a.po.qu := ⟨ft_int.1 q0, ft_int.1 q1, ft_int.1 q2, ft_int.1 q3, ft_1 d4 q4, ft_2 d16 q5, ft_int.1 q6, ft_2 d8 q7, ft_3 q8⟩
 exact ⟨ft_int.1 h0, ft_int.1 h1, ft_3 h2, hc, ft_int.1 p0, ft_int.1 p1, hqu, ft_1 d8 p2, ft_2 d16 p3, ft_int.1 p4, ft_int.1 p5, ft_int.1 p6⟩
theorem refReply_p (r : Re) (hfit : r.fits) (hf : fRe r) (hl : (eRe r).length ≤ 1099511627776) :
  PureD Tryz.prog 8 [.agg r.cells] (if putOkR r = true then .tup [.str (bs (eRe r)), .bool true] else .tup [.str (bs []), .bool false]) := by
 unfold putOkR wOkR nRe
 by_cases k : r.po.id = 0
 ·have h1 : eRe r = eRe0 r := by unfold eRe; rw [if_pos k]
  have h2 : xRe r = xRe0 r := by unfold xRe; rw [if_pos k]
  have h3 : decide ((if r.po.id = 0 then { r with po := Po0 } else r) = r) = decide (r.po = Po0) := by
   rw [if_pos k]
   obtain ⟨e, v, s, c, p⟩ := r
   simp only [Re.mk.injEq, true_and, decide_eq_decide]
   exact ⟨fun h => h.symm, fun h => h.symm⟩
  rw [h3, h1, h2]
  rw [h1] at hl
  exact refRe0_p r k hfit ⟨hf.err, hf.ver, hf.slots, hf.cursor, trivial⟩ (by simpa using hl)
 ·have h1 : eRe r = eRe1 r := by unfold eRe; rw [if_neg k]
  have h2 : xRe r = xRe1 r := by unfold xRe; rw [if_neg k]
  have h3 : decide ((if r.po.id = 0 then { r with po := Po0 } else r) = r) = true := by
   rw [if_neg k]
   simp
  rw [h3, h1, h2, Bool.and_true]
  rw [h1] at hl
  exact refRe1_p r (beq_eq_false_iff_ne.2 k) hfit ⟨hf.err, hf.ver, hf.slots, hf.cursor, trivial, hf.po⟩ (by simpa using hl)
end Go.Proofs.YtgefljdclekadaaGreat
