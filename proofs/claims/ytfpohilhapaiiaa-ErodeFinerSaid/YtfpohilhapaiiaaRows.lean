/-
  No cell of these rows narrows 'for every input' (looked for: loops, veiled, ifaces, maps, wideKeys, modest, calm, conditions, laid).
  DERIVED. THE GIVEN ROWS OF THIS SEAT. 4 by the template 'for every input the law returns true; each argument reads behind the call as it read before'; 0 by the template 'total and deterministic' (their statements: YtfpohilhapaiiaaTotals.lean).
  GIVEN WITH THE SEED: the statements are not yours to turn. If you find one false, say at which input.
  Laid BY PROGRAM, IN A SANDBOX (cutbox-rows.mjs): the forced cells as the released guide's own fill.sh prints them over the translation 749ee48a062c86a3… (all of the seat's roots in one cut). By AI agents, Wed Nov 11 2026. No macro, syntax, notation, axiom, sorry.
-/
import Derived.Test.YtfpohilhapaiiaaChecked
import GoSem.Claim
import GoSem.ClaimJoined
import GoSem.ClaimMapViews
import Derived.JoinedTies
import Derived.KernelRfl
namespace Go.Proofs.Ytfpohilhapaiiaa
/- THE CELL 'sum', in the pinned program and in every row, IS THE sha256 OF THE DUMP (.gsa) THAT YtfpohilhapaiiaaProg.lean LOADS. Nothing in Lean hashes anything: it is a label: what it is worth is what the hold of that sum in a sandbox is worth. -/
noncomputable def Try.pinned : Pinned := { name := "ytfpohilhapaiiaa", sum := "749ee48a062c86a3456c10fa1cda8f768b4ab0c0934a3ad4789e79db9f7e5941", checked := Try.checked }
namespace Rows
def none {H : Type} : Left H := { results := [], args := [] }

/-- 'vesperslaw15.ErodeUp': WHATEVER THE INPUT: true; the input reads as it did. -/
def erodeUpSpec : ChangeSpec := { name := "erodeUp", fn := fun _ => fun
  | [d1, d2] => { results := [.lit (.bool true)], args := [d1, d2] }
  | _ => none }
def erodeUpRow : OpenClaim := { program := "ytfpohilhapaiiaa", sum := "749ee48a062c86a3456c10fa1cda8f768b4ab0c0934a3ad4789e79db9f7e5941", func := "vespers/vesperslaw15.ErodeUp", spec := "erodeUp", unfollowed := true, recurses := true, apart := false }
def ErodeUpSaid : Prop := erodeUpRow.holds Try.pinned (OpenSpec.ofChange erodeUpSpec)

/-- ITS FALSE NEIGHBOUR: 'it returns false'. Refute it at one input. -/
def erodeUpWrong : ChangeSpec := { name := "erodeUp", fn := fun _ => fun
  | [d1, d2] => { results := [.lit (.bool false)], args := [d1, d2] }
  | _ => none }
def ErodeUpWrongFalsely : Prop := erodeUpRow.holds Try.pinned (OpenSpec.ofChange erodeUpWrong)

/-- 'vesperslaw15.ErodeStarts': WHATEVER THE INPUT: true; the input reads as it did. -/
def erodeStartsSpec : ChangeSpec := { name := "erodeStarts", fn := fun _ => fun
  | [d1, d2, d3, d4, d5] => { results := [.lit (.bool true)], args := [d1, d2, d3, d4, d5] }
  | _ => none }
def erodeStartsRow : OpenClaim := { program := "ytfpohilhapaiiaa", sum := "749ee48a062c86a3456c10fa1cda8f768b4ab0c0934a3ad4789e79db9f7e5941", func := "vespers/vesperslaw15.ErodeStarts", spec := "erodeStarts", unfollowed := true, recurses := true, apart := false }
def ErodeStartsSaid : Prop := erodeStartsRow.holds Try.pinned (OpenSpec.ofChange erodeStartsSpec)

/-- ITS FALSE NEIGHBOUR: 'it returns false'. Refute it at one input. -/
def erodeStartsWrong : ChangeSpec := { name := "erodeStarts", fn := fun _ => fun
  | [d1, d2, d3, d4, d5] => { results := [.lit (.bool false)], args := [d1, d2, d3, d4, d5] }
  | _ => none }
def ErodeStartsWrongFalsely : Prop := erodeStartsRow.holds Try.pinned (OpenSpec.ofChange erodeStartsWrong)

/-- 'vesperslaw15.ErodeSkips': WHATEVER THE INPUT: true; the input reads as it did. -/
def erodeSkipsSpec : ChangeSpec := { name := "erodeSkips", fn := fun _ => fun
  | [d1, d2, d3, d4] => { results := [.lit (.bool true)], args := [d1, d2, d3, d4] }
  | _ => none }
def erodeSkipsRow : OpenClaim := { program := "ytfpohilhapaiiaa", sum := "749ee48a062c86a3456c10fa1cda8f768b4ab0c0934a3ad4789e79db9f7e5941", func := "vespers/vesperslaw15.ErodeSkips", spec := "erodeSkips", unfollowed := true, recurses := true, apart := false }
def ErodeSkipsSaid : Prop := erodeSkipsRow.holds Try.pinned (OpenSpec.ofChange erodeSkipsSpec)

/-- ITS FALSE NEIGHBOUR: 'it returns false'. Refute it at one input. -/
def erodeSkipsWrong : ChangeSpec := { name := "erodeSkips", fn := fun _ => fun
  | [d1, d2, d3, d4] => { results := [.lit (.bool false)], args := [d1, d2, d3, d4] }
  | _ => none }
def ErodeSkipsWrongFalsely : Prop := erodeSkipsRow.holds Try.pinned (OpenSpec.ofChange erodeSkipsWrong)

/-- 'vesperslaw15.ErodeFiner': WHATEVER THE INPUT: true; the input reads as it did. -/
def erodeFinerSpec : ChangeSpec := { name := "erodeFiner", fn := fun _ => fun
  | [d1, d2, d3, d4, d5] => { results := [.lit (.bool true)], args := [d1, d2, d3, d4, d5] }
  | _ => none }
def erodeFinerRow : OpenClaim := { program := "ytfpohilhapaiiaa", sum := "749ee48a062c86a3456c10fa1cda8f768b4ab0c0934a3ad4789e79db9f7e5941", func := "vespers/vesperslaw15.ErodeFiner", spec := "erodeFiner", unfollowed := true, recurses := true, apart := false }
def ErodeFinerSaid : Prop := erodeFinerRow.holds Try.pinned (OpenSpec.ofChange erodeFinerSpec)

/-- ITS FALSE NEIGHBOUR: 'it returns false'. Refute it at one input. -/
def erodeFinerWrong : ChangeSpec := { name := "erodeFiner", fn := fun _ => fun
  | [d1, d2, d3, d4, d5] => { results := [.lit (.bool false)], args := [d1, d2, d3, d4, d5] }
  | _ => none }
def ErodeFinerWrongFalsely : Prop := erodeFinerRow.holds Try.pinned (OpenSpec.ofChange erodeFinerWrong)

/- THE SECOND FORM. 'bulk': how many values and letters a reading holds, each counted each time it is reached (what is shared counts as often as it is met; a slice's spare places count too). A statement '..UptoSaid' is the law's where the arguments, and the package variables that the reading takes, are together of bulk at most 1048576: NARROWER than '..Said'. Prove '..Said' where nothing that the law and all that it calls make is longer than what came in: it says more and counts as full. Else prove '..UptoSaid'. A law counts once. -/
mutual
def uptoBulk {H : Type} : DataW H → Nat
  | .lit (.string bytes) => bytes.length + 1
  | .lit _ => 1
  | .nil => 1
  | .ptr d => uptoBulk d + 1
  | .slice elems spare => uptoBulkAll elems + uptoBulkAll spare + 1
  | .agg parts => uptoBulkAll parts + 1
  | .iface _ d => uptoBulk d + 1
  | .map entries => uptoBulkEntries entries + 1
  | .held _ => 1
def uptoBulkAll {H : Type} : List (DataW H) → Nat
  | [] => 0
  | d :: r => uptoBulk d + uptoBulkAll r
def uptoBulkEntries {H : Type} : List (Lit × DataW H) → Nat
  | [] => 0
  | x :: r => uptoBulkEntry x + uptoBulkEntries r
def uptoBulkEntry {H : Type} : Lit × DataW H → Nat
  | (.string bytes, d) => bytes.length + uptoBulk d + 1
  | (_, d) => uptoBulk d + 1
 end
def uptoSmall : (H : Type) → List (DataW H) → Bool := fun _ ds => decide (uptoBulkAll ds ≤ 1048576)
def OpenSpec.upto (s : _root_.Go.ChangeSpec) : _root_.Go.OpenSpec := { _root_.Go.OpenSpec.ofChange s with cond := some uptoSmall }

/-- 'vesperslaw15.ErodeUp', WHERE WHAT IT READS IS OF BULK AT MOST 1048576: true; the input reads as it did. -/
def erodeUpUptoRow : OpenClaim := { program := "ytfpohilhapaiiaa", sum := "749ee48a062c86a3456c10fa1cda8f768b4ab0c0934a3ad4789e79db9f7e5941", func := "vespers/vesperslaw15.ErodeUp", spec := "erodeUp", unfollowed := true, recurses := true, apart := false, narrowed := true }
def ErodeUpUptoSaid : Prop := erodeUpUptoRow.holds Try.pinned (OpenSpec.upto erodeUpSpec)

/-- 'vesperslaw15.ErodeStarts', WHERE WHAT IT READS IS OF BULK AT MOST 1048576: true; the input reads as it did. -/
def erodeStartsUptoRow : OpenClaim := { program := "ytfpohilhapaiiaa", sum := "749ee48a062c86a3456c10fa1cda8f768b4ab0c0934a3ad4789e79db9f7e5941", func := "vespers/vesperslaw15.ErodeStarts", spec := "erodeStarts", unfollowed := true, recurses := true, apart := false, narrowed := true }
def ErodeStartsUptoSaid : Prop := erodeStartsUptoRow.holds Try.pinned (OpenSpec.upto erodeStartsSpec)

/-- 'vesperslaw15.ErodeSkips', WHERE WHAT IT READS IS OF BULK AT MOST 1048576: true; the input reads as it did. -/
def erodeSkipsUptoRow : OpenClaim := { program := "ytfpohilhapaiiaa", sum := "749ee48a062c86a3456c10fa1cda8f768b4ab0c0934a3ad4789e79db9f7e5941", func := "vespers/vesperslaw15.ErodeSkips", spec := "erodeSkips", unfollowed := true, recurses := true, apart := false, narrowed := true }
def ErodeSkipsUptoSaid : Prop := erodeSkipsUptoRow.holds Try.pinned (OpenSpec.upto erodeSkipsSpec)

/-- 'vesperslaw15.ErodeFiner', WHERE WHAT IT READS IS OF BULK AT MOST 1048576: true; the input reads as it did. -/
def erodeFinerUptoRow : OpenClaim := { program := "ytfpohilhapaiiaa", sum := "749ee48a062c86a3456c10fa1cda8f768b4ab0c0934a3ad4789e79db9f7e5941", func := "vespers/vesperslaw15.ErodeFiner", spec := "erodeFiner", unfollowed := true, recurses := true, apart := false, narrowed := true }
def ErodeFinerUptoSaid : Prop := erodeFinerUptoRow.holds Try.pinned (OpenSpec.upto erodeFinerSpec)

end Rows
end Go.Proofs.Ytfpohilhapaiiaa
