/-
  No cell of these rows narrows 'for every input' (looked for: loops, veiled, ifaces, maps, wideKeys, modest, calm, conditions, laid).
  DERIVED. THE GIVEN ROWS OF THIS SEAT. 4 by the template 'for every input the law returns true; each argument reads behind the call as it read before'; 0 by the template 'total and deterministic' (their statements: YtefpjijokdplfaaTotals.lean).
  GIVEN WITH THE SEED: the statements are not yours to turn. If you find one false, say at which input.
  Laid BY PROGRAM, IN A SANDBOX (cutbox-rows.mjs): the forced cells as the released guide's own fill.sh prints them over the translation 2625f4fa79bda762… (all of the seat's roots in one cut). By AI agents, Wed Nov 11 2026. No macro, syntax, notation, axiom, sorry.
-/
import Derived.Test.YtefpjijokdplfaaChecked
import GoSem.Claim
import GoSem.ClaimJoined
import GoSem.ClaimMapViews
import Derived.JoinedTies
import Derived.KernelRfl
namespace Go.Proofs.Ytefpjijokdplfaa
/- THE CELL 'sum', in the pinned program and in every row, IS THE sha256 OF THE DUMP (.gsa) THAT YtefpjijokdplfaaProg.lean LOADS. Nothing in Lean hashes anything: it is a label: what it is worth is what the hold of that sum in a sandbox is worth. -/
noncomputable def Try.pinned : Pinned := { name := "ytefpjijokdplfaa", sum := "2625f4fa79bda762cc0b60777a66425c50e9a9cae5270803049464d65fd43e33", checked := Try.checked }
namespace Rows
def none {H : Type} : Left H := { results := [], args := [] }

/-- 'vesperslaw02.ZoneUtcs': WHATEVER THE INPUT: true; the input reads as it did. -/
def zoneUtcsSpec : ChangeSpec := { name := "zoneUtcs", fn := fun _ => fun
  | [d1, d2] => { results := [.lit (.bool true)], args := [d1, d2] }
  | _ => none }
def zoneUtcsRow : OpenClaim := { program := "ytefpjijokdplfaa", sum := "2625f4fa79bda762cc0b60777a66425c50e9a9cae5270803049464d65fd43e33", func := "vespers/vesperslaw02.ZoneUtcs", spec := "zoneUtcs", unfollowed := true, recurses := true, apart := false }
def ZoneUtcsSaid : Prop := zoneUtcsRow.holds Try.pinned (OpenSpec.ofChange zoneUtcsSpec)

/-- ITS FALSE NEIGHBOUR: 'it returns false'. Refute it at one input. -/
def zoneUtcsWrong : ChangeSpec := { name := "zoneUtcs", fn := fun _ => fun
  | [d1, d2] => { results := [.lit (.bool false)], args := [d1, d2] }
  | _ => none }
def ZoneUtcsWrongFalsely : Prop := zoneUtcsRow.holds Try.pinned (OpenSpec.ofChange zoneUtcsWrong)

/-- 'vesperslaw02.ZonePlain': WHATEVER THE INPUT: true; the input reads as it did. -/
def zonePlainSpec : ChangeSpec := { name := "zonePlain", fn := fun _ => fun
  | [d1, d2] => { results := [.lit (.bool true)], args := [d1, d2] }
  | _ => none }
def zonePlainRow : OpenClaim := { program := "ytefpjijokdplfaa", sum := "2625f4fa79bda762cc0b60777a66425c50e9a9cae5270803049464d65fd43e33", func := "vespers/vesperslaw02.ZonePlain", spec := "zonePlain", unfollowed := true, recurses := true, apart := false }
def ZonePlainSaid : Prop := zonePlainRow.holds Try.pinned (OpenSpec.ofChange zonePlainSpec)

/-- ITS FALSE NEIGHBOUR: 'it returns false'. Refute it at one input. -/
def zonePlainWrong : ChangeSpec := { name := "zonePlain", fn := fun _ => fun
  | [d1, d2] => { results := [.lit (.bool false)], args := [d1, d2] }
  | _ => none }
def ZonePlainWrongFalsely : Prop := zonePlainRow.holds Try.pinned (OpenSpec.ofChange zonePlainWrong)

/-- 'vesperslaw02.ZoneTurns': WHATEVER THE INPUT: true; the input reads as it did. -/
def zoneTurnsSpec : ChangeSpec := { name := "zoneTurns", fn := fun _ => fun
  | [d1, d2, d3] => { results := [.lit (.bool true)], args := [d1, d2, d3] }
  | _ => none }
def zoneTurnsRow : OpenClaim := { program := "ytefpjijokdplfaa", sum := "2625f4fa79bda762cc0b60777a66425c50e9a9cae5270803049464d65fd43e33", func := "vespers/vesperslaw02.ZoneTurns", spec := "zoneTurns", unfollowed := true, recurses := true, apart := false }
def ZoneTurnsSaid : Prop := zoneTurnsRow.holds Try.pinned (OpenSpec.ofChange zoneTurnsSpec)

/-- ITS FALSE NEIGHBOUR: 'it returns false'. Refute it at one input. -/
def zoneTurnsWrong : ChangeSpec := { name := "zoneTurns", fn := fun _ => fun
  | [d1, d2, d3] => { results := [.lit (.bool false)], args := [d1, d2, d3] }
  | _ => none }
def ZoneTurnsWrongFalsely : Prop := zoneTurnsRow.holds Try.pinned (OpenSpec.ofChange zoneTurnsWrong)

/-- 'vesperslaw02.ZoneLocals': WHATEVER THE INPUT: true; the input reads as it did. -/
def zoneLocalsSpec : ChangeSpec := { name := "zoneLocals", fn := fun _ => fun
  | [d1, d2] => { results := [.lit (.bool true)], args := [d1, d2] }
  | _ => none }
def zoneLocalsRow : OpenClaim := { program := "ytefpjijokdplfaa", sum := "2625f4fa79bda762cc0b60777a66425c50e9a9cae5270803049464d65fd43e33", func := "vespers/vesperslaw02.ZoneLocals", spec := "zoneLocals", unfollowed := true, recurses := true, apart := false }
def ZoneLocalsSaid : Prop := zoneLocalsRow.holds Try.pinned (OpenSpec.ofChange zoneLocalsSpec)

/-- ITS FALSE NEIGHBOUR: 'it returns false'. Refute it at one input. -/
def zoneLocalsWrong : ChangeSpec := { name := "zoneLocals", fn := fun _ => fun
  | [d1, d2] => { results := [.lit (.bool false)], args := [d1, d2] }
  | _ => none }
def ZoneLocalsWrongFalsely : Prop := zoneLocalsRow.holds Try.pinned (OpenSpec.ofChange zoneLocalsWrong)

/- THE SECOND FORM. 'bulk': how many values and letters a reading holds, each counted each time it is reached (what is shared counts as often as it is met; a slice's spare places count too). A statement '..UptoSaid' is the law's where the arguments, and the package variables that the reading takes, are together of bulk at most 1048576: NARROWER than '..Said'. Prove '..Said' where nothing that the law and all that it calls make is longer than what came in: it says more and counts as full. Else prove '..UptoSaid'. A law counts once. -/
mutual
def uptoBulk {H : Type} : DataW H → Nat
  | .lit (.string bytes) => bytes.length + 1
  | .lit _ => 1
  | .nil => 1
  | .ptr d => uptoBulk d + 1
  | .slice elems spare => uptoBulkAll elems + uptoBulkAll spare + 1
  | .agg parts => uptoBulkAll parts + 1
  | .iface _ d => uptoBulk d + 1
  | .map entries => uptoBulkEntries entries + 1
  | .held _ => 1
def uptoBulkAll {H : Type} : List (DataW H) → Nat
  | [] => 0
  | d :: r => uptoBulk d + uptoBulkAll r
def uptoBulkEntries {H : Type} : List (Lit × DataW H) → Nat
  | [] => 0
  | x :: r => uptoBulkEntry x + uptoBulkEntries r
def uptoBulkEntry {H : Type} : Lit × DataW H → Nat
  | (.string bytes, d) => bytes.length + uptoBulk d + 1
  | (_, d) => uptoBulk d + 1
 end
def uptoSmall : (H : Type) → List (DataW H) → Bool := fun _ ds => decide (uptoBulkAll ds ≤ 1048576)
def OpenSpec.upto (s : _root_.Go.ChangeSpec) : _root_.Go.OpenSpec := { _root_.Go.OpenSpec.ofChange s with cond := some uptoSmall }

/-- 'vesperslaw02.ZoneUtcs', WHERE WHAT IT READS IS OF BULK AT MOST 1048576: true; the input reads as it did. -/
def zoneUtcsUptoRow : OpenClaim := { program := "ytefpjijokdplfaa", sum := "2625f4fa79bda762cc0b60777a66425c50e9a9cae5270803049464d65fd43e33", func := "vespers/vesperslaw02.ZoneUtcs", spec := "zoneUtcs", unfollowed := true, recurses := true, apart := false, narrowed := true }
def ZoneUtcsUptoSaid : Prop := zoneUtcsUptoRow.holds Try.pinned (OpenSpec.upto zoneUtcsSpec)

/-- 'vesperslaw02.ZonePlain', WHERE WHAT IT READS IS OF BULK AT MOST 1048576: true; the input reads as it did. -/
def zonePlainUptoRow : OpenClaim := { program := "ytefpjijokdplfaa", sum := "2625f4fa79bda762cc0b60777a66425c50e9a9cae5270803049464d65fd43e33", func := "vespers/vesperslaw02.ZonePlain", spec := "zonePlain", unfollowed := true, recurses := true, apart := false, narrowed := true }
def ZonePlainUptoSaid : Prop := zonePlainUptoRow.holds Try.pinned (OpenSpec.upto zonePlainSpec)

/-- 'vesperslaw02.ZoneTurns', WHERE WHAT IT READS IS OF BULK AT MOST 1048576: true; the input reads as it did. -/
def zoneTurnsUptoRow : OpenClaim := { program := "ytefpjijokdplfaa", sum := "2625f4fa79bda762cc0b60777a66425c50e9a9cae5270803049464d65fd43e33", func := "vespers/vesperslaw02.ZoneTurns", spec := "zoneTurns", unfollowed := true, recurses := true, apart := false, narrowed := true }
def ZoneTurnsUptoSaid : Prop := zoneTurnsUptoRow.holds Try.pinned (OpenSpec.upto zoneTurnsSpec)

/-- 'vesperslaw02.ZoneLocals', WHERE WHAT IT READS IS OF BULK AT MOST 1048576: true; the input reads as it did. -/
def zoneLocalsUptoRow : OpenClaim := { program := "ytefpjijokdplfaa", sum := "2625f4fa79bda762cc0b60777a66425c50e9a9cae5270803049464d65fd43e33", func := "vespers/vesperslaw02.ZoneLocals", spec := "zoneLocals", unfollowed := true, recurses := true, apart := false, narrowed := true }
def ZoneLocalsUptoSaid : Prop := zoneLocalsUptoRow.holds Try.pinned (OpenSpec.upto zoneLocalsSpec)

end Rows
end Go.Proofs.Ytefpjijokdplfaa
