/-
  No cell of these rows narrows 'for every input' (looked for: loops, veiled, ifaces, maps, wideKeys, modest, calm, conditions, laid).
  DERIVED. THE GIVEN ROWS OF THIS SEAT. 4 by the template 'for every input the law returns true; each argument reads behind the call as it read before'; 0 by the template 'total and deterministic' (their statements: YtapennlmboabeaaTotals.lean).
  GIVEN WITH THE SEED: the statements are not yours to turn. If you find one false, say at which input.
  Laid BY PROGRAM, IN A SANDBOX (cutbox-rows.mjs): the forced cells as the released guide's own fill.sh prints them over the translation 0c4ff896a5d04760… (all of the seat's roots in one cut). By AI agents, Wed Nov 11 2026. No macro, syntax, notation, axiom, sorry.
-/
import Derived.Test.YtapennlmboabeaaChecked
import GoSem.Claim
import GoSem.ClaimJoined
import GoSem.ClaimMapViews
import Derived.JoinedTies
import Derived.KernelRfl
namespace Go.Proofs.Ytapennlmboabeaa
/- THE CELL 'sum', in the pinned program and in every row, IS THE sha256 OF THE DUMP (.gsa) THAT YtapennlmboabeaaProg.lean LOADS. Nothing in Lean hashes anything: it is a label: what it is worth is what the hold of that sum in a sandbox is worth. -/
noncomputable def Try.pinned : Pinned := { name := "ytapennlmboabeaa", sum := "0c4ff896a5d04760c3df42c32e4d9c0870ca891327607399d65b7eb78d1c5f5c", checked := Try.checked }
namespace Rows
def none {H : Type} : Left H := { results := [], args := [] }

/-- 'vesperslaw17.BookVersions': WHATEVER THE INPUT: true; the input reads as it did. -/
def bookVersionsSpec : ChangeSpec := { name := "bookVersions", fn := fun _ => fun
  | [d1, d2, d3] => { results := [.lit (.bool true)], args := [d1, d2, d3] }
  | _ => none }
def bookVersionsRow : OpenClaim := { program := "ytapennlmboabeaa", sum := "0c4ff896a5d04760c3df42c32e4d9c0870ca891327607399d65b7eb78d1c5f5c", func := "vespers/vesperslaw17.BookVersions", spec := "bookVersions", inPlace := ["slices.overlaps[vespers/api.User]"], unfollowed := true, recurses := true, apart := false }
def BookVersionsSaid : Prop := bookVersionsRow.holds Try.pinned (OpenSpec.ofChange bookVersionsSpec)

/-- ITS FALSE NEIGHBOUR: 'it returns false'. Refute it at one input. -/
def bookVersionsWrong : ChangeSpec := { name := "bookVersions", fn := fun _ => fun
  | [d1, d2, d3] => { results := [.lit (.bool false)], args := [d1, d2, d3] }
  | _ => none }
def BookVersionsWrongFalsely : Prop := bookVersionsRow.holds Try.pinned (OpenSpec.ofChange bookVersionsWrong)

/-- 'vesperslaw17.BookLeaves': WHATEVER THE INPUT: true; the input reads as it did. -/
def bookLeavesSpec : ChangeSpec := { name := "bookLeaves", fn := fun _ => fun
  | [d1, d2] => { results := [.lit (.bool true)], args := [d1, d2] }
  | _ => none }
def bookLeavesRow : OpenClaim := { program := "ytapennlmboabeaa", sum := "0c4ff896a5d04760c3df42c32e4d9c0870ca891327607399d65b7eb78d1c5f5c", func := "vespers/vesperslaw17.BookLeaves", spec := "bookLeaves", inPlace := ["slices.overlaps[vespers/api.User]"], unfollowed := true, recurses := true, apart := false }
def BookLeavesSaid : Prop := bookLeavesRow.holds Try.pinned (OpenSpec.ofChange bookLeavesSpec)

/-- ITS FALSE NEIGHBOUR: 'it returns false'. Refute it at one input. -/
def bookLeavesWrong : ChangeSpec := { name := "bookLeaves", fn := fun _ => fun
  | [d1, d2] => { results := [.lit (.bool false)], args := [d1, d2] }
  | _ => none }
def BookLeavesWrongFalsely : Prop := bookLeavesRow.holds Try.pinned (OpenSpec.ofChange bookLeavesWrong)

/-- 'vesperslaw17.BookApart': WHATEVER THE INPUT: true; the input reads as it did. -/
def bookApartSpec : ChangeSpec := { name := "bookApart", fn := fun _ => fun
  | [d1, d2, d3, d4, d5, d6] => { results := [.lit (.bool true)], args := [d1, d2, d3, d4, d5, d6] }
  | _ => none }
def bookApartRow : OpenClaim := { program := "ytapennlmboabeaa", sum := "0c4ff896a5d04760c3df42c32e4d9c0870ca891327607399d65b7eb78d1c5f5c", func := "vespers/vesperslaw17.BookApart", spec := "bookApart", inPlace := ["slices.overlaps[vespers/api.User]", "slices.overlaps[vespers/api.Entry]"], unfollowed := true, recurses := true, apart := false }
def BookApartSaid : Prop := bookApartRow.holds Try.pinned (OpenSpec.ofChange bookApartSpec)

/-- ITS FALSE NEIGHBOUR: 'it returns false'. Refute it at one input. -/
def bookApartWrong : ChangeSpec := { name := "bookApart", fn := fun _ => fun
  | [d1, d2, d3, d4, d5, d6] => { results := [.lit (.bool false)], args := [d1, d2, d3, d4, d5, d6] }
  | _ => none }
def BookApartWrongFalsely : Prop := bookApartRow.holds Try.pinned (OpenSpec.ofChange bookApartWrong)

/-- 'vesperslaw17.BookBack': WHATEVER THE INPUT: true; the input reads as it did. -/
def bookBackSpec : ChangeSpec := { name := "bookBack", fn := fun _ => fun
  | [d1, d2, d3, d4, d5] => { results := [.lit (.bool true)], args := [d1, d2, d3, d4, d5] }
  | _ => none }
def bookBackRow : OpenClaim := { program := "ytapennlmboabeaa", sum := "0c4ff896a5d04760c3df42c32e4d9c0870ca891327607399d65b7eb78d1c5f5c", func := "vespers/vesperslaw17.BookBack", spec := "bookBack", inPlace := ["slices.overlaps[vespers/api.User]", "slices.overlaps[vespers/api.Entry]"], unfollowed := true, recurses := true, apart := false }
def BookBackSaid : Prop := bookBackRow.holds Try.pinned (OpenSpec.ofChange bookBackSpec)

/-- ITS FALSE NEIGHBOUR: 'it returns false'. Refute it at one input. -/
def bookBackWrong : ChangeSpec := { name := "bookBack", fn := fun _ => fun
  | [d1, d2, d3, d4, d5] => { results := [.lit (.bool false)], args := [d1, d2, d3, d4, d5] }
  | _ => none }
def BookBackWrongFalsely : Prop := bookBackRow.holds Try.pinned (OpenSpec.ofChange bookBackWrong)

/- THE SECOND FORM. 'bulk': how many values and letters a reading holds, each counted each time it is reached (what is shared counts as often as it is met; a slice's spare places count too). A statement '..UptoSaid' is the law's where the arguments, and the package variables that the reading takes, are together of bulk at most 1048576: NARROWER than '..Said'. Prove '..Said' where nothing that the law and all that it calls make is longer than what came in: it says more and counts as full. Else prove '..UptoSaid'. A law counts once. -/
mutual
def uptoBulk {H : Type} : DataW H → Nat
  | .lit (.string bytes) => bytes.length + 1
  | .lit _ => 1
  | .nil => 1
  | .ptr d => uptoBulk d + 1
  | .slice elems spare => uptoBulkAll elems + uptoBulkAll spare + 1
  | .agg parts => uptoBulkAll parts + 1
  | .iface _ d => uptoBulk d + 1
  | .map entries => uptoBulkEntries entries + 1
  | .held _ => 1
def uptoBulkAll {H : Type} : List (DataW H) → Nat
  | [] => 0
  | d :: r => uptoBulk d + uptoBulkAll r
def uptoBulkEntries {H : Type} : List (Lit × DataW H) → Nat
  | [] => 0
  | x :: r => uptoBulkEntry x + uptoBulkEntries r
def uptoBulkEntry {H : Type} : Lit × DataW H → Nat
  | (.string bytes, d) => bytes.length + uptoBulk d + 1
  | (_, d) => uptoBulk d + 1
 end
def uptoSmall : (H : Type) → List (DataW H) → Bool := fun _ ds => decide (uptoBulkAll ds ≤ 1048576)
def OpenSpec.upto (s : _root_.Go.ChangeSpec) : _root_.Go.OpenSpec := { _root_.Go.OpenSpec.ofChange s with cond := some uptoSmall }

/-- 'vesperslaw17.BookVersions', WHERE WHAT IT READS IS OF BULK AT MOST 1048576: true; the input reads as it did. -/
def bookVersionsUptoRow : OpenClaim := { program := "ytapennlmboabeaa", sum := "0c4ff896a5d04760c3df42c32e4d9c0870ca891327607399d65b7eb78d1c5f5c", func := "vespers/vesperslaw17.BookVersions", spec := "bookVersions", inPlace := ["slices.overlaps[vespers/api.User]"], unfollowed := true, recurses := true, apart := false, narrowed := true }
def BookVersionsUptoSaid : Prop := bookVersionsUptoRow.holds Try.pinned (OpenSpec.upto bookVersionsSpec)

/-- 'vesperslaw17.BookLeaves', WHERE WHAT IT READS IS OF BULK AT MOST 1048576: true; the input reads as it did. -/
def bookLeavesUptoRow : OpenClaim := { program := "ytapennlmboabeaa", sum := "0c4ff896a5d04760c3df42c32e4d9c0870ca891327607399d65b7eb78d1c5f5c", func := "vespers/vesperslaw17.BookLeaves", spec := "bookLeaves", inPlace := ["slices.overlaps[vespers/api.User]"], unfollowed := true, recurses := true, apart := false, narrowed := true }
def BookLeavesUptoSaid : Prop := bookLeavesUptoRow.holds Try.pinned (OpenSpec.upto bookLeavesSpec)

/-- 'vesperslaw17.BookApart', WHERE WHAT IT READS IS OF BULK AT MOST 1048576: true; the input reads as it did. -/
def bookApartUptoRow : OpenClaim := { program := "ytapennlmboabeaa", sum := "0c4ff896a5d04760c3df42c32e4d9c0870ca891327607399d65b7eb78d1c5f5c", func := "vespers/vesperslaw17.BookApart", spec := "bookApart", inPlace := ["slices.overlaps[vespers/api.User]", "slices.overlaps[vespers/api.Entry]"], unfollowed := true, recurses := true, apart := false, narrowed := true }
def BookApartUptoSaid : Prop := bookApartUptoRow.holds Try.pinned (OpenSpec.upto bookApartSpec)

/-- 'vesperslaw17.BookBack', WHERE WHAT IT READS IS OF BULK AT MOST 1048576: true; the input reads as it did. -/
def bookBackUptoRow : OpenClaim := { program := "ytapennlmboabeaa", sum := "0c4ff896a5d04760c3df42c32e4d9c0870ca891327607399d65b7eb78d1c5f5c", func := "vespers/vesperslaw17.BookBack", spec := "bookBack", inPlace := ["slices.overlaps[vespers/api.User]", "slices.overlaps[vespers/api.Entry]"], unfollowed := true, recurses := true, apart := false, narrowed := true }
def BookBackUptoSaid : Prop := bookBackUptoRow.holds Try.pinned (OpenSpec.upto bookBackSpec)

end Rows
end Go.Proofs.Ytapennlmboabeaa
