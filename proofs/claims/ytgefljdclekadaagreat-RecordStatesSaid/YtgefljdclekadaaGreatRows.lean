/-
  No cell of these rows narrows 'for every input' (looked for: loops, veiled, ifaces, maps, wideKeys, modest, calm, conditions, laid).
  DERIVED. THE GIVEN ROWS OF THIS SEAT. 2 by the template 'for every input the law returns true; each argument reads behind the call as it read before'; 0 by the template 'total and deterministic' (their statements: YtgefljdclekadaaGreatTotals.lean).
  GIVEN WITH THE SEED: the statements are not yours to turn. If you find one false, say at which input.
  Laid BY PROGRAM, IN A SANDBOX (cutbox-rows.mjs): the forced cells as the released guide's own fill.sh prints them over the translation 99983eeaa18e90cf… (all of the seat's roots in one cut). By AI agents, Wed Nov 11 2026. No macro, syntax, notation, axiom, sorry.
-/
import Derived.Test.YtgefljdclekadaaGreatChecked
import GoSem.Claim
import GoSem.ClaimJoined
import GoSem.ClaimMapViews
import Derived.JoinedTies
import Derived.KernelRfl
namespace Go.Proofs.YtgefljdclekadaaGreat
/- THE CELL 'sum', in the pinned program and in every row, IS THE sha256 OF THE DUMP (.gsa) THAT YtgefljdclekadaaGreatProg.lean LOADS. Nothing in Lean hashes anything: it is a label: what it is worth is what the hold of that sum in a sandbox is worth. -/
noncomputable def Tryz.pinned : Pinned := { name := "ytgefljdclekadaagreat", sum := "99983eeaa18e90cf8f324c1a78570a626bafaddb001702085931b091fff2ee5e", checked := Tryz.checked }
namespace Rows
def none {H : Type} : Left H := { results := [], args := [] }

/-- 'vesperslaw16.RecordReplies': WHATEVER THE INPUT: true; the input reads as it did. -/
def recordRepliesSpec : ChangeSpec := { name := "recordReplies", fn := fun _ => fun
  | [d] => { results := [.lit (.bool true)], args := [d] }
  | _ => none }
def recordRepliesRow : OpenClaim := { program := "ytgefljdclekadaagreat", sum := "99983eeaa18e90cf8f324c1a78570a626bafaddb001702085931b091fff2ee5e", func := "vespers/vesperslaw16.RecordReplies", spec := "recordReplies", unfollowed := true, recurses := true, apart := false }
def RecordRepliesSaid : Prop := recordRepliesRow.holds Tryz.pinned (OpenSpec.ofChange recordRepliesSpec)

/-- ITS FALSE NEIGHBOUR: 'it returns false'. Refute it at one input. -/
def recordRepliesWrong : ChangeSpec := { name := "recordReplies", fn := fun _ => fun
  | [d] => { results := [.lit (.bool false)], args := [d] }
  | _ => none }
def RecordRepliesWrongFalsely : Prop := recordRepliesRow.holds Tryz.pinned (OpenSpec.ofChange recordRepliesWrong)

/-- 'vesperslaw16.RecordStates': WHATEVER THE INPUT: true; the input reads as it did. -/
def recordStatesSpec : ChangeSpec := { name := "recordStates", fn := fun _ => fun
  | [d1, d2] => { results := [.lit (.bool true)], args := [d1, d2] }
  | _ => none }
def recordStatesRow : OpenClaim := { program := "ytgefljdclekadaagreat", sum := "99983eeaa18e90cf8f324c1a78570a626bafaddb001702085931b091fff2ee5e", func := "vespers/vesperslaw16.RecordStates", spec := "recordStates", unfollowed := true, recurses := true, apart := false }
def RecordStatesSaid : Prop := recordStatesRow.holds Tryz.pinned (OpenSpec.ofChange recordStatesSpec)

/-- ITS FALSE NEIGHBOUR: 'it returns false'. Refute it at one input. -/
def recordStatesWrong : ChangeSpec := { name := "recordStates", fn := fun _ => fun
  | [d1, d2] => { results := [.lit (.bool false)], args := [d1, d2] }
  | _ => none }
def RecordStatesWrongFalsely : Prop := recordStatesRow.holds Tryz.pinned (OpenSpec.ofChange recordStatesWrong)

/- THE SECOND FORM. 'bulk': how many values and letters a reading holds, each counted each time it is reached (what is shared counts as often as it is met; a slice's spare places count too). A statement '..UptoSaid' is the law's where the arguments, and the package variables that the reading takes, are together of bulk at most 1048576: NARROWER than '..Said'. Prove '..Said' where nothing that the law and all that it calls make is longer than what came in: it says more and counts as full. Else prove '..UptoSaid'. A law counts once. -/
mutual
def uptoBulk {H : Type} : DataW H → Nat
  | .lit (.string bytes) => bytes.length + 1
  | .lit _ => 1
  | .nil => 1
  | .ptr d => uptoBulk d + 1
  | .slice elems spare => uptoBulkAll elems + uptoBulkAll spare + 1
  | .agg parts => uptoBulkAll parts + 1
  | .iface _ d => uptoBulk d + 1
  | .map entries => uptoBulkEntries entries + 1
  | .held _ => 1
def uptoBulkAll {H : Type} : List (DataW H) → Nat
  | [] => 0
  | d :: r => uptoBulk d + uptoBulkAll r
def uptoBulkEntries {H : Type} : List (Lit × DataW H) → Nat
  | [] => 0
  | x :: r => uptoBulkEntry x + uptoBulkEntries r
def uptoBulkEntry {H : Type} : Lit × DataW H → Nat
  | (.string bytes, d) => bytes.length + uptoBulk d + 1
  | (_, d) => uptoBulk d + 1
 end
def uptoSmall : (H : Type) → List (DataW H) → Bool := fun _ ds => decide (uptoBulkAll ds ≤ 1048576)
def OpenSpec.upto (s : _root_.Go.ChangeSpec) : _root_.Go.OpenSpec := { _root_.Go.OpenSpec.ofChange s with cond := some uptoSmall }

/-- 'vesperslaw16.RecordReplies', WHERE WHAT IT READS IS OF BULK AT MOST 1048576: true; the input reads as it did. -/
def recordRepliesUptoRow : OpenClaim := { program := "ytgefljdclekadaagreat", sum := "99983eeaa18e90cf8f324c1a78570a626bafaddb001702085931b091fff2ee5e", func := "vespers/vesperslaw16.RecordReplies", spec := "recordReplies", unfollowed := true, recurses := true, apart := false, narrowed := true }
def RecordRepliesUptoSaid : Prop := recordRepliesUptoRow.holds Tryz.pinned (OpenSpec.upto recordRepliesSpec)

/-- 'vesperslaw16.RecordStates', WHERE WHAT IT READS IS OF BULK AT MOST 1048576: true; the input reads as it did. -/
def recordStatesUptoRow : OpenClaim := { program := "ytgefljdclekadaagreat", sum := "99983eeaa18e90cf8f324c1a78570a626bafaddb001702085931b091fff2ee5e", func := "vespers/vesperslaw16.RecordStates", spec := "recordStates", unfollowed := true, recurses := true, apart := false, narrowed := true }
def RecordStatesUptoSaid : Prop := recordStatesUptoRow.holds Tryz.pinned (OpenSpec.upto recordStatesSpec)

end Rows
end Go.Proofs.YtgefljdclekadaaGreat
