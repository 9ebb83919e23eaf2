/-
  No cell of these rows narrows 'for every input' (looked for: loops, veiled, ifaces, maps, wideKeys, modest, calm, conditions, laid).
  DERIVED. THE GIVEN ROWS OF THIS SEAT. 5 by the template 'for every input the law returns true; each argument reads behind the call as it read before'; 0 by the template 'total and deterministic' (their statements: YtggchhmgeafoaaaTotals.lean).
  GIVEN WITH THE SEED: the statements are not yours to turn. If you find one false, say at which input.
  Laid BY PROGRAM, IN A SANDBOX (cutbox-rows.mjs): the forced cells as the released guide's own fill.sh prints them over the translation 8505825a11966f18… (all of the seat's roots in one cut). By AI agents, Wed Nov 11 2026. No macro, syntax, notation, axiom, sorry.
-/
import Derived.Test.YtggchhmgeafoaaaChecked
import GoSem.Claim
import GoSem.ClaimJoined
import GoSem.ClaimMapViews
import Derived.JoinedTies
import Derived.KernelRfl
namespace Go.Proofs.Ytggchhmgeafoaaa
/- THE CELL 'sum', in the pinned program and in every row, IS THE sha256 OF THE DUMP (.gsa) THAT YtggchhmgeafoaaaProg.lean LOADS. Nothing in Lean hashes anything: it is a label: what it is worth is what the hold of that sum in a sandbox is worth. -/
noncomputable def Try.pinned : Pinned := { name := "ytggchhmgeafoaaa", sum := "8505825a11966f18932c9ca3a821a1e9578c377f449bd817f476eb763d934c81", checked := Try.checked }
namespace Rows
def none {H : Type} : Left H := { results := [], args := [] }

/-- 'vesperslaw14.CursorGaps': WHATEVER THE INPUT: true; the input reads as it did. -/
def cursorGapsSpec : ChangeSpec := { name := "cursorGaps", fn := fun _ => fun
  | [d1, d2] => { results := [.lit (.bool true)], args := [d1, d2] }
  | _ => none }
def cursorGapsRow : OpenClaim := { program := "ytggchhmgeafoaaa", sum := "8505825a11966f18932c9ca3a821a1e9578c377f449bd817f476eb763d934c81", func := "vespers/vesperslaw14.CursorGaps", spec := "cursorGaps", unfollowed := true, recurses := true, apart := false }
def CursorGapsSaid : Prop := cursorGapsRow.holds Try.pinned (OpenSpec.ofChange cursorGapsSpec)

/-- ITS FALSE NEIGHBOUR: 'it returns false'. Refute it at one input. -/
def cursorGapsWrong : ChangeSpec := { name := "cursorGaps", fn := fun _ => fun
  | [d1, d2] => { results := [.lit (.bool false)], args := [d1, d2] }
  | _ => none }
def CursorGapsWrongFalsely : Prop := cursorGapsRow.holds Try.pinned (OpenSpec.ofChange cursorGapsWrong)

/-- 'vesperslaw14.CursorMeets': WHATEVER THE INPUT: true; the input reads as it did. -/
def cursorMeetsSpec : ChangeSpec := { name := "cursorMeets", fn := fun _ => fun
  | [d1, d2] => { results := [.lit (.bool true)], args := [d1, d2] }
  | _ => none }
def cursorMeetsRow : OpenClaim := { program := "ytggchhmgeafoaaa", sum := "8505825a11966f18932c9ca3a821a1e9578c377f449bd817f476eb763d934c81", func := "vespers/vesperslaw14.CursorMeets", spec := "cursorMeets", unfollowed := true, recurses := true, apart := false }
def CursorMeetsSaid : Prop := cursorMeetsRow.holds Try.pinned (OpenSpec.ofChange cursorMeetsSpec)

/-- ITS FALSE NEIGHBOUR: 'it returns false'. Refute it at one input. -/
def cursorMeetsWrong : ChangeSpec := { name := "cursorMeets", fn := fun _ => fun
  | [d1, d2] => { results := [.lit (.bool false)], args := [d1, d2] }
  | _ => none }
def CursorMeetsWrongFalsely : Prop := cursorMeetsRow.holds Try.pinned (OpenSpec.ofChange cursorMeetsWrong)

/-- 'vesperslaw14.CursorLazy': WHATEVER THE INPUT: true; the input reads as it did. -/
def cursorLazySpec : ChangeSpec := { name := "cursorLazy", fn := fun _ => fun
  | [d1, d2] => { results := [.lit (.bool true)], args := [d1, d2] }
  | _ => none }
def cursorLazyRow : OpenClaim := { program := "ytggchhmgeafoaaa", sum := "8505825a11966f18932c9ca3a821a1e9578c377f449bd817f476eb763d934c81", func := "vespers/vesperslaw14.CursorLazy", spec := "cursorLazy", unfollowed := true, recurses := true, apart := false }
def CursorLazySaid : Prop := cursorLazyRow.holds Try.pinned (OpenSpec.ofChange cursorLazySpec)

/-- ITS FALSE NEIGHBOUR: 'it returns false'. Refute it at one input. -/
def cursorLazyWrong : ChangeSpec := { name := "cursorLazy", fn := fun _ => fun
  | [d1, d2] => { results := [.lit (.bool false)], args := [d1, d2] }
  | _ => none }
def CursorLazyWrongFalsely : Prop := cursorLazyRow.holds Try.pinned (OpenSpec.ofChange cursorLazyWrong)

/-- 'vesperslaw14.CursorAll': WHATEVER THE INPUT: true; the input reads as it did. -/
def cursorAllSpec : ChangeSpec := { name := "cursorAll", fn := fun _ => fun
  | [d] => { results := [.lit (.bool true)], args := [d] }
  | _ => none }
def cursorAllRow : OpenClaim := { program := "ytggchhmgeafoaaa", sum := "8505825a11966f18932c9ca3a821a1e9578c377f449bd817f476eb763d934c81", func := "vespers/vesperslaw14.CursorAll", spec := "cursorAll", unfollowed := true, recurses := true, apart := false }
def CursorAllSaid : Prop := cursorAllRow.holds Try.pinned (OpenSpec.ofChange cursorAllSpec)

/-- ITS FALSE NEIGHBOUR: 'it returns false'. Refute it at one input. -/
def cursorAllWrong : ChangeSpec := { name := "cursorAll", fn := fun _ => fun
  | [d] => { results := [.lit (.bool false)], args := [d] }
  | _ => none }
def CursorAllWrongFalsely : Prop := cursorAllRow.holds Try.pinned (OpenSpec.ofChange cursorAllWrong)

/-- 'vesperslaw14.CursorMoves': WHATEVER THE INPUT: true; the input reads as it did. -/
def cursorMovesSpec : ChangeSpec := { name := "cursorMoves", fn := fun _ => fun
  | [d1, d2] => { results := [.lit (.bool true)], args := [d1, d2] }
  | _ => none }
def cursorMovesRow : OpenClaim := { program := "ytggchhmgeafoaaa", sum := "8505825a11966f18932c9ca3a821a1e9578c377f449bd817f476eb763d934c81", func := "vespers/vesperslaw14.CursorMoves", spec := "cursorMoves", unfollowed := true, recurses := true, apart := false }
def CursorMovesSaid : Prop := cursorMovesRow.holds Try.pinned (OpenSpec.ofChange cursorMovesSpec)

/-- ITS FALSE NEIGHBOUR: 'it returns false'. Refute it at one input. -/
def cursorMovesWrong : ChangeSpec := { name := "cursorMoves", fn := fun _ => fun
  | [d1, d2] => { results := [.lit (.bool false)], args := [d1, d2] }
  | _ => none }
def CursorMovesWrongFalsely : Prop := cursorMovesRow.holds Try.pinned (OpenSpec.ofChange cursorMovesWrong)

/- THE SECOND FORM. 'bulk': how many values and letters a reading holds, each counted each time it is reached (what is shared counts as often as it is met; a slice's spare places count too). A statement '..UptoSaid' is the law's where the arguments, and the package variables that the reading takes, are together of bulk at most 1048576: NARROWER than '..Said'. Prove '..Said' where nothing that the law and all that it calls make is longer than what came in: it says more and counts as full. Else prove '..UptoSaid'. A law counts once. -/
mutual
def uptoBulk {H : Type} : DataW H → Nat
  | .lit (.string bytes) => bytes.length + 1
  | .lit _ => 1
  | .nil => 1
  | .ptr d => uptoBulk d + 1
  | .slice elems spare => uptoBulkAll elems + uptoBulkAll spare + 1
  | .agg parts => uptoBulkAll parts + 1
  | .iface _ d => uptoBulk d + 1
  | .map entries => uptoBulkEntries entries + 1
  | .held _ => 1
def uptoBulkAll {H : Type} : List (DataW H) → Nat
  | [] => 0
  | d :: r => uptoBulk d + uptoBulkAll r
def uptoBulkEntries {H : Type} : List (Lit × DataW H) → Nat
  | [] => 0
  | x :: r => uptoBulkEntry x + uptoBulkEntries r
def uptoBulkEntry {H : Type} : Lit × DataW H → Nat
  | (.string bytes, d) => bytes.length + uptoBulk d + 1
  | (_, d) => uptoBulk d + 1
 end
def uptoSmall : (H : Type) → List (DataW H) → Bool := fun _ ds => decide (uptoBulkAll ds ≤ 1048576)
def OpenSpec.upto (s : _root_.Go.ChangeSpec) : _root_.Go.OpenSpec := { _root_.Go.OpenSpec.ofChange s with cond := some uptoSmall }

/-- 'vesperslaw14.CursorGaps', WHERE WHAT IT READS IS OF BULK AT MOST 1048576: true; the input reads as it did. -/
def cursorGapsUptoRow : OpenClaim := { program := "ytggchhmgeafoaaa", sum := "8505825a11966f18932c9ca3a821a1e9578c377f449bd817f476eb763d934c81", func := "vespers/vesperslaw14.CursorGaps", spec := "cursorGaps", unfollowed := true, recurses := true, apart := false, narrowed := true }
def CursorGapsUptoSaid : Prop := cursorGapsUptoRow.holds Try.pinned (OpenSpec.upto cursorGapsSpec)

/-- 'vesperslaw14.CursorMeets', WHERE WHAT IT READS IS OF BULK AT MOST 1048576: true; the input reads as it did. -/
def cursorMeetsUptoRow : OpenClaim := { program := "ytggchhmgeafoaaa", sum := "8505825a11966f18932c9ca3a821a1e9578c377f449bd817f476eb763d934c81", func := "vespers/vesperslaw14.CursorMeets", spec := "cursorMeets", unfollowed := true, recurses := true, apart := false, narrowed := true }
def CursorMeetsUptoSaid : Prop := cursorMeetsUptoRow.holds Try.pinned (OpenSpec.upto cursorMeetsSpec)

/-- 'vesperslaw14.CursorLazy', WHERE WHAT IT READS IS OF BULK AT MOST 1048576: true; the input reads as it did. -/
def cursorLazyUptoRow : OpenClaim := { program := "ytggchhmgeafoaaa", sum := "8505825a11966f18932c9ca3a821a1e9578c377f449bd817f476eb763d934c81", func := "vespers/vesperslaw14.CursorLazy", spec := "cursorLazy", unfollowed := true, recurses := true, apart := false, narrowed := true }
def CursorLazyUptoSaid : Prop := cursorLazyUptoRow.holds Try.pinned (OpenSpec.upto cursorLazySpec)

/-- 'vesperslaw14.CursorAll', WHERE WHAT IT READS IS OF BULK AT MOST 1048576: true; the input reads as it did. -/
def cursorAllUptoRow : OpenClaim := { program := "ytggchhmgeafoaaa", sum := "8505825a11966f18932c9ca3a821a1e9578c377f449bd817f476eb763d934c81", func := "vespers/vesperslaw14.CursorAll", spec := "cursorAll", unfollowed := true, recurses := true, apart := false, narrowed := true }
def CursorAllUptoSaid : Prop := cursorAllUptoRow.holds Try.pinned (OpenSpec.upto cursorAllSpec)

/-- 'vesperslaw14.CursorMoves', WHERE WHAT IT READS IS OF BULK AT MOST 1048576: true; the input reads as it did. -/
def cursorMovesUptoRow : OpenClaim := { program := "ytggchhmgeafoaaa", sum := "8505825a11966f18932c9ca3a821a1e9578c377f449bd817f476eb763d934c81", func := "vespers/vesperslaw14.CursorMoves", spec := "cursorMoves", unfollowed := true, recurses := true, apart := false, narrowed := true }
def CursorMovesUptoSaid : Prop := cursorMovesUptoRow.holds Try.pinned (OpenSpec.upto cursorMovesSpec)

end Rows
end Go.Proofs.Ytggchhmgeafoaaa
