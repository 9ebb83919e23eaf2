/-
  No cell of these rows narrows 'for every input' (looked for: loops, veiled, ifaces, maps, wideKeys, modest, calm, conditions, laid).
  DERIVED. THE GIVEN ROWS OF THIS SEAT. 3 by the template 'for every input the law returns true; each argument reads behind the call as it read before'; 0 by the template 'total and deterministic' (their statements: YtoleaiaeghbffaaTotals.lean).
  GIVEN WITH THE SEED: the statements are not yours to turn. If you find one false, say at which input.
  Laid BY PROGRAM, IN A SANDBOX (cutbox-rows.mjs): the forced cells as the released guide's own fill.sh prints them over the translation 2daaa54eaf692024… (all of the seat's roots in one cut). By AI agents, Wed Nov 11 2026. No macro, syntax, notation, axiom, sorry.
-/
import Derived.Test.YtoleaiaeghbffaaChecked
import GoSem.Claim
import GoSem.ClaimJoined
import GoSem.ClaimMapViews
import Derived.JoinedTies
import Derived.KernelRfl
namespace Go.Proofs.Ytoleaiaeghbffaa
/- THE CELL 'sum', in the pinned program and in every row, IS THE sha256 OF THE DUMP (.gsa) THAT YtoleaiaeghbffaaProg.lean LOADS. Nothing in Lean hashes anything: it is a label: what it is worth is what the hold of that sum in a sandbox is worth. -/
noncomputable def Try.pinned : Pinned := { name := "ytoleaiaeghbffaa", sum := "2daaa54eaf6920245715fb2714bddb14c597e9498ee664932af328be88169a7e", checked := Try.checked }
namespace Rows
def none {H : Type} : Left H := { results := [], args := [] }

/-- 'vesperslaw18.ApplyRow': WHATEVER THE INPUT: true; the input reads as it did. -/
def applyRowSpec : ChangeSpec := { name := "applyRow", fn := fun _ => fun
  | [d1, d2] => { results := [.lit (.bool true)], args := [d1, d2] }
  | _ => none }
def applyRowRow : OpenClaim := { program := "ytoleaiaeghbffaa", sum := "2daaa54eaf6920245715fb2714bddb14c597e9498ee664932af328be88169a7e", func := "vespers/vesperslaw18.ApplyRow", spec := "applyRow", inPlace := ["slices.overlaps[vespers/api.Done]"], unfollowed := true, recurses := true, apart := false }
def ApplyRowSaid : Prop := applyRowRow.holds Try.pinned (OpenSpec.ofChange applyRowSpec)

/-- ITS FALSE NEIGHBOUR: 'it returns false'. Refute it at one input. -/
def applyRowWrong : ChangeSpec := { name := "applyRow", fn := fun _ => fun
  | [d1, d2] => { results := [.lit (.bool false)], args := [d1, d2] }
  | _ => none }
def ApplyRowWrongFalsely : Prop := applyRowRow.holds Try.pinned (OpenSpec.ofChange applyRowWrong)

/-- 'vesperslaw18.ApplyKept': WHATEVER THE INPUT: true; the input reads as it did. -/
def applyKeptSpec : ChangeSpec := { name := "applyKept", fn := fun _ => fun
  | [d1, d2, d3] => { results := [.lit (.bool true)], args := [d1, d2, d3] }
  | _ => none }
def applyKeptRow : OpenClaim := { program := "ytoleaiaeghbffaa", sum := "2daaa54eaf6920245715fb2714bddb14c597e9498ee664932af328be88169a7e", func := "vespers/vesperslaw18.ApplyKept", spec := "applyKept", inPlace := ["slices.overlaps[vespers/api.Done]"], unfollowed := true, recurses := true, apart := false }
def ApplyKeptSaid : Prop := applyKeptRow.holds Try.pinned (OpenSpec.ofChange applyKeptSpec)

/-- ITS FALSE NEIGHBOUR: 'it returns false'. Refute it at one input. -/
def applyKeptWrong : ChangeSpec := { name := "applyKept", fn := fun _ => fun
  | [d1, d2, d3] => { results := [.lit (.bool false)], args := [d1, d2, d3] }
  | _ => none }
def ApplyKeptWrongFalsely : Prop := applyKeptRow.holds Try.pinned (OpenSpec.ofChange applyKeptWrong)

/-- 'vesperslaw18.ApplyCalendar': WHATEVER THE INPUT: true; the input reads as it did. -/
def applyCalendarSpec : ChangeSpec := { name := "applyCalendar", fn := fun _ => fun
  | [d1, d2] => { results := [.lit (.bool true)], args := [d1, d2] }
  | _ => none }
def applyCalendarRow : OpenClaim := { program := "ytoleaiaeghbffaa", sum := "2daaa54eaf6920245715fb2714bddb14c597e9498ee664932af328be88169a7e", func := "vespers/vesperslaw18.ApplyCalendar", spec := "applyCalendar", inPlace := ["slices.overlaps[vespers/api.User]", "slices.overlaps[vespers/api.Entry]"], unfollowed := true, recurses := true, apart := false }
def ApplyCalendarSaid : Prop := applyCalendarRow.holds Try.pinned (OpenSpec.ofChange applyCalendarSpec)

/-- ITS FALSE NEIGHBOUR: 'it returns false'. Refute it at one input. -/
def applyCalendarWrong : ChangeSpec := { name := "applyCalendar", fn := fun _ => fun
  | [d1, d2] => { results := [.lit (.bool false)], args := [d1, d2] }
  | _ => none }
def ApplyCalendarWrongFalsely : Prop := applyCalendarRow.holds Try.pinned (OpenSpec.ofChange applyCalendarWrong)

/- THE SECOND FORM. 'bulk': how many values and letters a reading holds, each counted each time it is reached (what is shared counts as often as it is met; a slice's spare places count too). A statement '..UptoSaid' is the law's where the arguments, and the package variables that the reading takes, are together of bulk at most 1048576: NARROWER than '..Said'. Prove '..Said' where nothing that the law and all that it calls make is longer than what came in: it says more and counts as full. Else prove '..UptoSaid'. A law counts once. -/
mutual
def uptoBulk {H : Type} : DataW H → Nat
  | .lit (.string bytes) => bytes.length + 1
  | .lit _ => 1
  | .nil => 1
  | .ptr d => uptoBulk d + 1
  | .slice elems spare => uptoBulkAll elems + uptoBulkAll spare + 1
  | .agg parts => uptoBulkAll parts + 1
  | .iface _ d => uptoBulk d + 1
  | .map entries => uptoBulkEntries entries + 1
  | .held _ => 1
def uptoBulkAll {H : Type} : List (DataW H) → Nat
  | [] => 0
  | d :: r => uptoBulk d + uptoBulkAll r
def uptoBulkEntries {H : Type} : List (Lit × DataW H) → Nat
  | [] => 0
  | x :: r => uptoBulkEntry x + uptoBulkEntries r
def uptoBulkEntry {H : Type} : Lit × DataW H → Nat
  | (.string bytes, d) => bytes.length + uptoBulk d + 1
  | (_, d) => uptoBulk d + 1
 end
def uptoSmall : (H : Type) → List (DataW H) → Bool := fun _ ds => decide (uptoBulkAll ds ≤ 1048576)
def OpenSpec.upto (s : _root_.Go.ChangeSpec) : _root_.Go.OpenSpec := { _root_.Go.OpenSpec.ofChange s with cond := some uptoSmall }

/-- 'vesperslaw18.ApplyRow', WHERE WHAT IT READS IS OF BULK AT MOST 1048576: true; the input reads as it did. -/
def applyRowUptoRow : OpenClaim := { program := "ytoleaiaeghbffaa", sum := "2daaa54eaf6920245715fb2714bddb14c597e9498ee664932af328be88169a7e", func := "vespers/vesperslaw18.ApplyRow", spec := "applyRow", inPlace := ["slices.overlaps[vespers/api.Done]"], unfollowed := true, recurses := true, apart := false, narrowed := true }
def ApplyRowUptoSaid : Prop := applyRowUptoRow.holds Try.pinned (OpenSpec.upto applyRowSpec)

/-- 'vesperslaw18.ApplyKept', WHERE WHAT IT READS IS OF BULK AT MOST 1048576: true; the input reads as it did. -/
def applyKeptUptoRow : OpenClaim := { program := "ytoleaiaeghbffaa", sum := "2daaa54eaf6920245715fb2714bddb14c597e9498ee664932af328be88169a7e", func := "vespers/vesperslaw18.ApplyKept", spec := "applyKept", inPlace := ["slices.overlaps[vespers/api.Done]"], unfollowed := true, recurses := true, apart := false, narrowed := true }
def ApplyKeptUptoSaid : Prop := applyKeptUptoRow.holds Try.pinned (OpenSpec.upto applyKeptSpec)

/-- 'vesperslaw18.ApplyCalendar', WHERE WHAT IT READS IS OF BULK AT MOST 1048576: true; the input reads as it did. -/
def applyCalendarUptoRow : OpenClaim := { program := "ytoleaiaeghbffaa", sum := "2daaa54eaf6920245715fb2714bddb14c597e9498ee664932af328be88169a7e", func := "vespers/vesperslaw18.ApplyCalendar", spec := "applyCalendar", inPlace := ["slices.overlaps[vespers/api.User]", "slices.overlaps[vespers/api.Entry]"], unfollowed := true, recurses := true, apart := false, narrowed := true }
def ApplyCalendarUptoSaid : Prop := applyCalendarUptoRow.holds Try.pinned (OpenSpec.upto applyCalendarSpec)

end Rows
end Go.Proofs.Ytoleaiaeghbffaa
