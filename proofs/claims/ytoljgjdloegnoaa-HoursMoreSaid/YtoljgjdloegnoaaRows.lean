/-
  No cell of these rows narrows 'for every input' (looked for: loops, veiled, ifaces, maps, wideKeys, modest, calm, conditions, laid).
  DERIVED. THE GIVEN ROWS OF THIS SEAT. 5 by the template 'for every input the law returns true; each argument reads behind the call as it read before'; 0 by the template 'total and deterministic' (their statements: YtoljgjdloegnoaaTotals.lean).
  GIVEN WITH THE SEED: the statements are not yours to turn. If you find one false, say at which input.
  Laid BY PROGRAM, IN A SANDBOX (cutbox-rows.mjs): the forced cells as the released guide's own fill.sh prints them over the translation b24d2b12539c5112… (all of the seat's roots in one cut). By AI agents, Wed Nov 11 2026. No macro, syntax, notation, axiom, sorry.
-/
import Derived.Test.YtoljgjdloegnoaaChecked
import GoSem.Claim
import GoSem.ClaimJoined
import GoSem.ClaimMapViews
import Derived.JoinedTies
import Derived.KernelRfl
namespace Go.Proofs.Ytoljgjdloegnoaa
/- THE CELL 'sum', in the pinned program and in every row, IS THE sha256 OF THE DUMP (.gsa) THAT YtoljgjdloegnoaaProg.lean LOADS. Nothing in Lean hashes anything: it is a label: what it is worth is what the hold of that sum in a sandbox is worth. -/
noncomputable def Try.pinned : Pinned := { name := "ytoljgjdloegnoaa", sum := "b24d2b12539c5112ddb0199a692bc8a5fd0b1dcd8b18cf461cd059a8742761aa", checked := Try.checked }
namespace Rows
def none {H : Type} : Left H := { results := [], args := [] }

/-- 'vesperslaw12.HoursSpans': WHATEVER THE INPUT: true; the input reads as it did. -/
def hoursSpansSpec : ChangeSpec := { name := "hoursSpans", fn := fun _ => fun
  | [d1, d2, d3] => { results := [.lit (.bool true)], args := [d1, d2, d3] }
  | _ => none }
def hoursSpansRow : OpenClaim := { program := "ytoljgjdloegnoaa", sum := "b24d2b12539c5112ddb0199a692bc8a5fd0b1dcd8b18cf461cd059a8742761aa", func := "vespers/vesperslaw12.HoursSpans", spec := "hoursSpans", unfollowed := true, recurses := true, apart := false }
def HoursSpansSaid : Prop := hoursSpansRow.holds Try.pinned (OpenSpec.ofChange hoursSpansSpec)

/-- ITS FALSE NEIGHBOUR: 'it returns false'. Refute it at one input. -/
def hoursSpansWrong : ChangeSpec := { name := "hoursSpans", fn := fun _ => fun
  | [d1, d2, d3] => { results := [.lit (.bool false)], args := [d1, d2, d3] }
  | _ => none }
def HoursSpansWrongFalsely : Prop := hoursSpansRow.holds Try.pinned (OpenSpec.ofChange hoursSpansWrong)

/-- 'vesperslaw12.HoursLong': WHATEVER THE INPUT: true; the input reads as it did. -/
def hoursLongSpec : ChangeSpec := { name := "hoursLong", fn := fun _ => fun
  | [d1, d2, d3] => { results := [.lit (.bool true)], args := [d1, d2, d3] }
  | _ => none }
def hoursLongRow : OpenClaim := { program := "ytoljgjdloegnoaa", sum := "b24d2b12539c5112ddb0199a692bc8a5fd0b1dcd8b18cf461cd059a8742761aa", func := "vespers/vesperslaw12.HoursLong", spec := "hoursLong", unfollowed := true, recurses := true, apart := false }
def HoursLongSaid : Prop := hoursLongRow.holds Try.pinned (OpenSpec.ofChange hoursLongSpec)

/-- ITS FALSE NEIGHBOUR: 'it returns false'. Refute it at one input. -/
def hoursLongWrong : ChangeSpec := { name := "hoursLong", fn := fun _ => fun
  | [d1, d2, d3] => { results := [.lit (.bool false)], args := [d1, d2, d3] }
  | _ => none }
def HoursLongWrongFalsely : Prop := hoursLongRow.holds Try.pinned (OpenSpec.ofChange hoursLongWrong)

/-- 'vesperslaw12.HoursWorks': WHATEVER THE INPUT: true; the input reads as it did. -/
def hoursWorksSpec : ChangeSpec := { name := "hoursWorks", fn := fun _ => fun
  | [d1, d2, d3, d4, d5] => { results := [.lit (.bool true)], args := [d1, d2, d3, d4, d5] }
  | _ => none }
def hoursWorksRow : OpenClaim := { program := "ytoljgjdloegnoaa", sum := "b24d2b12539c5112ddb0199a692bc8a5fd0b1dcd8b18cf461cd059a8742761aa", func := "vespers/vesperslaw12.HoursWorks", spec := "hoursWorks", unfollowed := true, recurses := true, apart := false }
def HoursWorksSaid : Prop := hoursWorksRow.holds Try.pinned (OpenSpec.ofChange hoursWorksSpec)

/-- ITS FALSE NEIGHBOUR: 'it returns false'. Refute it at one input. -/
def hoursWorksWrong : ChangeSpec := { name := "hoursWorks", fn := fun _ => fun
  | [d1, d2, d3, d4, d5] => { results := [.lit (.bool false)], args := [d1, d2, d3, d4, d5] }
  | _ => none }
def HoursWorksWrongFalsely : Prop := hoursWorksRow.holds Try.pinned (OpenSpec.ofChange hoursWorksWrong)

/-- 'vesperslaw12.HoursMore': WHATEVER THE INPUT: true; the input reads as it did. -/
def hoursMoreSpec : ChangeSpec := { name := "hoursMore", fn := fun _ => fun
  | [d1, d2, d3, d4, d5] => { results := [.lit (.bool true)], args := [d1, d2, d3, d4, d5] }
  | _ => none }
def hoursMoreRow : OpenClaim := { program := "ytoljgjdloegnoaa", sum := "b24d2b12539c5112ddb0199a692bc8a5fd0b1dcd8b18cf461cd059a8742761aa", func := "vespers/vesperslaw12.HoursMore", spec := "hoursMore", unfollowed := true, recurses := true, apart := false }
def HoursMoreSaid : Prop := hoursMoreRow.holds Try.pinned (OpenSpec.ofChange hoursMoreSpec)

/-- ITS FALSE NEIGHBOUR: 'it returns false'. Refute it at one input. -/
def hoursMoreWrong : ChangeSpec := { name := "hoursMore", fn := fun _ => fun
  | [d1, d2, d3, d4, d5] => { results := [.lit (.bool false)], args := [d1, d2, d3, d4, d5] }
  | _ => none }
def HoursMoreWrongFalsely : Prop := hoursMoreRow.holds Try.pinned (OpenSpec.ofChange hoursMoreWrong)

/-- 'vesperslaw12.HoursWeeks': WHATEVER THE INPUT: true; the input reads as it did. -/
def hoursWeeksSpec : ChangeSpec := { name := "hoursWeeks", fn := fun _ => fun
  | [d1, d2, d3] => { results := [.lit (.bool true)], args := [d1, d2, d3] }
  | _ => none }
def hoursWeeksRow : OpenClaim := { program := "ytoljgjdloegnoaa", sum := "b24d2b12539c5112ddb0199a692bc8a5fd0b1dcd8b18cf461cd059a8742761aa", func := "vespers/vesperslaw12.HoursWeeks", spec := "hoursWeeks", unfollowed := true, recurses := true, apart := false }
def HoursWeeksSaid : Prop := hoursWeeksRow.holds Try.pinned (OpenSpec.ofChange hoursWeeksSpec)

/-- ITS FALSE NEIGHBOUR: 'it returns false'. Refute it at one input. -/
def hoursWeeksWrong : ChangeSpec := { name := "hoursWeeks", fn := fun _ => fun
  | [d1, d2, d3] => { results := [.lit (.bool false)], args := [d1, d2, d3] }
  | _ => none }
def HoursWeeksWrongFalsely : Prop := hoursWeeksRow.holds Try.pinned (OpenSpec.ofChange hoursWeeksWrong)

/- THE SECOND FORM. 'bulk': how many values and letters a reading holds, each counted each time it is reached (what is shared counts as often as it is met; a slice's spare places count too). A statement '..UptoSaid' is the law's where the arguments, and the package variables that the reading takes, are together of bulk at most 1048576: NARROWER than '..Said'. Prove '..Said' where nothing that the law and all that it calls make is longer than what came in: it says more and counts as full. Else prove '..UptoSaid'. A law counts once. -/
mutual
def uptoBulk {H : Type} : DataW H → Nat
  | .lit (.string bytes) => bytes.length + 1
  | .lit _ => 1
  | .nil => 1
  | .ptr d => uptoBulk d + 1
  | .slice elems spare => uptoBulkAll elems + uptoBulkAll spare + 1
  | .agg parts => uptoBulkAll parts + 1
  | .iface _ d => uptoBulk d + 1
  | .map entries => uptoBulkEntries entries + 1
  | .held _ => 1
def uptoBulkAll {H : Type} : List (DataW H) → Nat
  | [] => 0
  | d :: r => uptoBulk d + uptoBulkAll r
def uptoBulkEntries {H : Type} : List (Lit × DataW H) → Nat
  | [] => 0
  | x :: r => uptoBulkEntry x + uptoBulkEntries r
def uptoBulkEntry {H : Type} : Lit × DataW H → Nat
  | (.string bytes, d) => bytes.length + uptoBulk d + 1
  | (_, d) => uptoBulk d + 1
 end
def uptoSmall : (H : Type) → List (DataW H) → Bool := fun _ ds => decide (uptoBulkAll ds ≤ 1048576)
def OpenSpec.upto (s : _root_.Go.ChangeSpec) : _root_.Go.OpenSpec := { _root_.Go.OpenSpec.ofChange s with cond := some uptoSmall }

/-- 'vesperslaw12.HoursSpans', WHERE WHAT IT READS IS OF BULK AT MOST 1048576: true; the input reads as it did. -/
def hoursSpansUptoRow : OpenClaim := { program := "ytoljgjdloegnoaa", sum := "b24d2b12539c5112ddb0199a692bc8a5fd0b1dcd8b18cf461cd059a8742761aa", func := "vespers/vesperslaw12.HoursSpans", spec := "hoursSpans", unfollowed := true, recurses := true, apart := false, narrowed := true }
def HoursSpansUptoSaid : Prop := hoursSpansUptoRow.holds Try.pinned (OpenSpec.upto hoursSpansSpec)

/-- 'vesperslaw12.HoursLong', WHERE WHAT IT READS IS OF BULK AT MOST 1048576: true; the input reads as it did. -/
def hoursLongUptoRow : OpenClaim := { program := "ytoljgjdloegnoaa", sum := "b24d2b12539c5112ddb0199a692bc8a5fd0b1dcd8b18cf461cd059a8742761aa", func := "vespers/vesperslaw12.HoursLong", spec := "hoursLong", unfollowed := true, recurses := true, apart := false, narrowed := true }
def HoursLongUptoSaid : Prop := hoursLongUptoRow.holds Try.pinned (OpenSpec.upto hoursLongSpec)

/-- 'vesperslaw12.HoursWorks', WHERE WHAT IT READS IS OF BULK AT MOST 1048576: true; the input reads as it did. -/
def hoursWorksUptoRow : OpenClaim := { program := "ytoljgjdloegnoaa", sum := "b24d2b12539c5112ddb0199a692bc8a5fd0b1dcd8b18cf461cd059a8742761aa", func := "vespers/vesperslaw12.HoursWorks", spec := "hoursWorks", unfollowed := true, recurses := true, apart := false, narrowed := true }
def HoursWorksUptoSaid : Prop := hoursWorksUptoRow.holds Try.pinned (OpenSpec.upto hoursWorksSpec)

/-- 'vesperslaw12.HoursMore', WHERE WHAT IT READS IS OF BULK AT MOST 1048576: true; the input reads as it did. -/
def hoursMoreUptoRow : OpenClaim := { program := "ytoljgjdloegnoaa", sum := "b24d2b12539c5112ddb0199a692bc8a5fd0b1dcd8b18cf461cd059a8742761aa", func := "vespers/vesperslaw12.HoursMore", spec := "hoursMore", unfollowed := true, recurses := true, apart := false, narrowed := true }
def HoursMoreUptoSaid : Prop := hoursMoreUptoRow.holds Try.pinned (OpenSpec.upto hoursMoreSpec)

/-- 'vesperslaw12.HoursWeeks', WHERE WHAT IT READS IS OF BULK AT MOST 1048576: true; the input reads as it did. -/
def hoursWeeksUptoRow : OpenClaim := { program := "ytoljgjdloegnoaa", sum := "b24d2b12539c5112ddb0199a692bc8a5fd0b1dcd8b18cf461cd059a8742761aa", func := "vespers/vesperslaw12.HoursWeeks", spec := "hoursWeeks", unfollowed := true, recurses := true, apart := false, narrowed := true }
def HoursWeeksUptoSaid : Prop := hoursWeeksUptoRow.holds Try.pinned (OpenSpec.upto hoursWeeksSpec)

end Rows
end Go.Proofs.Ytoljgjdloegnoaa
