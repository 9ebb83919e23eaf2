/-
  No cell of these rows narrows 'for every input' (looked for: loops, veiled, ifaces, maps, wideKeys, modest, calm, conditions, laid).
  DERIVED. THE GIVEN ROWS OF THIS SEAT. 5 by the template 'for every input the law returns true; each argument reads behind the call as it read before'; 0 by the template 'total and deterministic' (their statements: YtmbhhhefojdmhaaTotals.lean).
  GIVEN WITH THE SEED: the statements are not yours to turn. If you find one false, say at which input.
  Laid BY PROGRAM, IN A SANDBOX (cutbox-rows.mjs): the forced cells as the released guide's own fill.sh prints them over the translation d6caabb944206a01… (all of the seat's roots in one cut). By AI agents, Wed Nov 11 2026. No macro, syntax, notation, axiom, sorry.
-/
import Derived.Test.YtmbhhhefojdmhaaChecked
import GoSem.Claim
import GoSem.ClaimJoined
import GoSem.ClaimMapViews
import Derived.JoinedTies
import Derived.KernelRfl
namespace Go.Proofs.Ytmbhhhefojdmhaa
/- THE CELL 'sum', in the pinned program and in every row, IS THE sha256 OF THE DUMP (.gsa) THAT YtmbhhhefojdmhaaProg.lean LOADS. Nothing in Lean hashes anything: it is a label: what it is worth is what the hold of that sum in a sandbox is worth. -/
noncomputable def Try.pinned : Pinned := { name := "ytmbhhhefojdmhaa", sum := "d6caabb944206a01010a8d49dea263251ad41b6f3081d0f75a880a0ac8052669", checked := Try.checked }
namespace Rows
def none {H : Type} : Left H := { results := [], args := [] }

/-- 'vesperslaw13.SpanForms': WHATEVER THE INPUT: true; the input reads as it did. -/
def spanFormsSpec : ChangeSpec := { name := "spanForms", fn := fun _ => fun
  | [d1, d2] => { results := [.lit (.bool true)], args := [d1, d2] }
  | _ => none }
def spanFormsRow : OpenClaim := { program := "ytmbhhhefojdmhaa", sum := "d6caabb944206a01010a8d49dea263251ad41b6f3081d0f75a880a0ac8052669", func := "vespers/vesperslaw13.SpanForms", spec := "spanForms", unfollowed := true, recurses := true, apart := false }
def SpanFormsSaid : Prop := spanFormsRow.holds Try.pinned (OpenSpec.ofChange spanFormsSpec)

/-- ITS FALSE NEIGHBOUR: 'it returns false'. Refute it at one input. -/
def spanFormsWrong : ChangeSpec := { name := "spanForms", fn := fun _ => fun
  | [d1, d2] => { results := [.lit (.bool false)], args := [d1, d2] }
  | _ => none }
def SpanFormsWrongFalsely : Prop := spanFormsRow.holds Try.pinned (OpenSpec.ofChange spanFormsWrong)

/-- 'vesperslaw13.SpanTwice': WHATEVER THE INPUT: true; the input reads as it did. -/
def spanTwiceSpec : ChangeSpec := { name := "spanTwice", fn := fun _ => fun
  | [d1, d2, d3] => { results := [.lit (.bool true)], args := [d1, d2, d3] }
  | _ => none }
def spanTwiceRow : OpenClaim := { program := "ytmbhhhefojdmhaa", sum := "d6caabb944206a01010a8d49dea263251ad41b6f3081d0f75a880a0ac8052669", func := "vespers/vesperslaw13.SpanTwice", spec := "spanTwice", unfollowed := true, recurses := true, apart := false }
def SpanTwiceSaid : Prop := spanTwiceRow.holds Try.pinned (OpenSpec.ofChange spanTwiceSpec)

/-- ITS FALSE NEIGHBOUR: 'it returns false'. Refute it at one input. -/
def spanTwiceWrong : ChangeSpec := { name := "spanTwice", fn := fun _ => fun
  | [d1, d2, d3] => { results := [.lit (.bool false)], args := [d1, d2, d3] }
  | _ => none }
def SpanTwiceWrongFalsely : Prop := spanTwiceRow.holds Try.pinned (OpenSpec.ofChange spanTwiceWrong)

/-- 'vesperslaw13.SpanMinutes': WHATEVER THE INPUT: true; the input reads as it did. -/
def spanMinutesSpec : ChangeSpec := { name := "spanMinutes", fn := fun _ => fun
  | [d1, d2] => { results := [.lit (.bool true)], args := [d1, d2] }
  | _ => none }
def spanMinutesRow : OpenClaim := { program := "ytmbhhhefojdmhaa", sum := "d6caabb944206a01010a8d49dea263251ad41b6f3081d0f75a880a0ac8052669", func := "vespers/vesperslaw13.SpanMinutes", spec := "spanMinutes", unfollowed := true, recurses := true, apart := false }
def SpanMinutesSaid : Prop := spanMinutesRow.holds Try.pinned (OpenSpec.ofChange spanMinutesSpec)

/-- ITS FALSE NEIGHBOUR: 'it returns false'. Refute it at one input. -/
def spanMinutesWrong : ChangeSpec := { name := "spanMinutes", fn := fun _ => fun
  | [d1, d2] => { results := [.lit (.bool false)], args := [d1, d2] }
  | _ => none }
def SpanMinutesWrongFalsely : Prop := spanMinutesRow.holds Try.pinned (OpenSpec.ofChange spanMinutesWrong)

/-- 'vesperslaw13.SpanPairs': WHATEVER THE INPUT: true; the input reads as it did. -/
def spanPairsSpec : ChangeSpec := { name := "spanPairs", fn := fun _ => fun
  | [d1, d2, d3] => { results := [.lit (.bool true)], args := [d1, d2, d3] }
  | _ => none }
def spanPairsRow : OpenClaim := { program := "ytmbhhhefojdmhaa", sum := "d6caabb944206a01010a8d49dea263251ad41b6f3081d0f75a880a0ac8052669", func := "vespers/vesperslaw13.SpanPairs", spec := "spanPairs", unfollowed := true, recurses := true, apart := false }
def SpanPairsSaid : Prop := spanPairsRow.holds Try.pinned (OpenSpec.ofChange spanPairsSpec)

/-- ITS FALSE NEIGHBOUR: 'it returns false'. Refute it at one input. -/
def spanPairsWrong : ChangeSpec := { name := "spanPairs", fn := fun _ => fun
  | [d1, d2, d3] => { results := [.lit (.bool false)], args := [d1, d2, d3] }
  | _ => none }
def SpanPairsWrongFalsely : Prop := spanPairsRow.holds Try.pinned (OpenSpec.ofChange spanPairsWrong)

/-- 'vesperslaw13.SpanCounts': WHATEVER THE INPUT: true; the input reads as it did. -/
def spanCountsSpec : ChangeSpec := { name := "spanCounts", fn := fun _ => fun
  | [d1, d2] => { results := [.lit (.bool true)], args := [d1, d2] }
  | _ => none }
def spanCountsRow : OpenClaim := { program := "ytmbhhhefojdmhaa", sum := "d6caabb944206a01010a8d49dea263251ad41b6f3081d0f75a880a0ac8052669", func := "vespers/vesperslaw13.SpanCounts", spec := "spanCounts", unfollowed := true, recurses := true, apart := false }
def SpanCountsSaid : Prop := spanCountsRow.holds Try.pinned (OpenSpec.ofChange spanCountsSpec)

/-- ITS FALSE NEIGHBOUR: 'it returns false'. Refute it at one input. -/
def spanCountsWrong : ChangeSpec := { name := "spanCounts", fn := fun _ => fun
  | [d1, d2] => { results := [.lit (.bool false)], args := [d1, d2] }
  | _ => none }
def SpanCountsWrongFalsely : Prop := spanCountsRow.holds Try.pinned (OpenSpec.ofChange spanCountsWrong)

/- THE SECOND FORM. 'bulk': how many values and letters a reading holds, each counted each time it is reached (what is shared counts as often as it is met; a slice's spare places count too). A statement '..UptoSaid' is the law's where the arguments, and the package variables that the reading takes, are together of bulk at most 1048576: NARROWER than '..Said'. Prove '..Said' where nothing that the law and all that it calls make is longer than what came in: it says more and counts as full. Else prove '..UptoSaid'. A law counts once. -/
mutual
def uptoBulk {H : Type} : DataW H → Nat
  | .lit (.string bytes) => bytes.length + 1
  | .lit _ => 1
  | .nil => 1
  | .ptr d => uptoBulk d + 1
  | .slice elems spare => uptoBulkAll elems + uptoBulkAll spare + 1
  | .agg parts => uptoBulkAll parts + 1
  | .iface _ d => uptoBulk d + 1
  | .map entries => uptoBulkEntries entries + 1
  | .held _ => 1
def uptoBulkAll {H : Type} : List (DataW H) → Nat
  | [] => 0
  | d :: r => uptoBulk d + uptoBulkAll r
def uptoBulkEntries {H : Type} : List (Lit × DataW H) → Nat
  | [] => 0
  | x :: r => uptoBulkEntry x + uptoBulkEntries r
def uptoBulkEntry {H : Type} : Lit × DataW H → Nat
  | (.string bytes, d) => bytes.length + uptoBulk d + 1
  | (_, d) => uptoBulk d + 1
 end
def uptoSmall : (H : Type) → List (DataW H) → Bool := fun _ ds => decide (uptoBulkAll ds ≤ 1048576)
def OpenSpec.upto (s : _root_.Go.ChangeSpec) : _root_.Go.OpenSpec := { _root_.Go.OpenSpec.ofChange s with cond := some uptoSmall }

/-- 'vesperslaw13.SpanForms', WHERE WHAT IT READS IS OF BULK AT MOST 1048576: true; the input reads as it did. -/
def spanFormsUptoRow : OpenClaim := { program := "ytmbhhhefojdmhaa", sum := "d6caabb944206a01010a8d49dea263251ad41b6f3081d0f75a880a0ac8052669", func := "vespers/vesperslaw13.SpanForms", spec := "spanForms", unfollowed := true, recurses := true, apart := false, narrowed := true }
def SpanFormsUptoSaid : Prop := spanFormsUptoRow.holds Try.pinned (OpenSpec.upto spanFormsSpec)

/-- 'vesperslaw13.SpanTwice', WHERE WHAT IT READS IS OF BULK AT MOST 1048576: true; the input reads as it did. -/
def spanTwiceUptoRow : OpenClaim := { program := "ytmbhhhefojdmhaa", sum := "d6caabb944206a01010a8d49dea263251ad41b6f3081d0f75a880a0ac8052669", func := "vespers/vesperslaw13.SpanTwice", spec := "spanTwice", unfollowed := true, recurses := true, apart := false, narrowed := true }
def SpanTwiceUptoSaid : Prop := spanTwiceUptoRow.holds Try.pinned (OpenSpec.upto spanTwiceSpec)

/-- 'vesperslaw13.SpanMinutes', WHERE WHAT IT READS IS OF BULK AT MOST 1048576: true; the input reads as it did. -/
def spanMinutesUptoRow : OpenClaim := { program := "ytmbhhhefojdmhaa", sum := "d6caabb944206a01010a8d49dea263251ad41b6f3081d0f75a880a0ac8052669", func := "vespers/vesperslaw13.SpanMinutes", spec := "spanMinutes", unfollowed := true, recurses := true, apart := false, narrowed := true }
def SpanMinutesUptoSaid : Prop := spanMinutesUptoRow.holds Try.pinned (OpenSpec.upto spanMinutesSpec)

/-- 'vesperslaw13.SpanPairs', WHERE WHAT IT READS IS OF BULK AT MOST 1048576: true; the input reads as it did. -/
def spanPairsUptoRow : OpenClaim := { program := "ytmbhhhefojdmhaa", sum := "d6caabb944206a01010a8d49dea263251ad41b6f3081d0f75a880a0ac8052669", func := "vespers/vesperslaw13.SpanPairs", spec := "spanPairs", unfollowed := true, recurses := true, apart := false, narrowed := true }
def SpanPairsUptoSaid : Prop := spanPairsUptoRow.holds Try.pinned (OpenSpec.upto spanPairsSpec)

/-- 'vesperslaw13.SpanCounts', WHERE WHAT IT READS IS OF BULK AT MOST 1048576: true; the input reads as it did. -/
def spanCountsUptoRow : OpenClaim := { program := "ytmbhhhefojdmhaa", sum := "d6caabb944206a01010a8d49dea263251ad41b6f3081d0f75a880a0ac8052669", func := "vespers/vesperslaw13.SpanCounts", spec := "spanCounts", unfollowed := true, recurses := true, apart := false, narrowed := true }
def SpanCountsUptoSaid : Prop := spanCountsUptoRow.holds Try.pinned (OpenSpec.upto spanCountsSpec)

end Rows
end Go.Proofs.Ytmbhhhefojdmhaa
