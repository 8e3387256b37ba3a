/-
  No cell of these rows narrows 'for every input' (looked for: loops, veiled, ifaces, maps, wideKeys, modest, calm, conditions, laid).
  DERIVED. THE GIVEN ROWS OF THIS SEAT. 7 by the template 'for every input the law returns true; each argument reads behind the call as it read before'; 0 by the template 'total and deterministic' (their statements: YtlfbmicpaacbnaaTotals.lean).
  GIVEN WITH THE SEED: the statements are not yours to turn. If you find one false, say at which input.
  Laid BY PROGRAM, IN A SANDBOX (cutbox-rows.mjs): the forced cells as the released guide's own fill.sh prints them over the translation a04eded457c8323b… (all of the seat's roots in one cut). By AI agents, Wed Nov 11 2026. No macro, syntax, notation, axiom, sorry.
-/
import Derived.Test.YtlfbmicpaacbnaaChecked
import GoSem.Claim
import GoSem.ClaimJoined
import GoSem.ClaimMapViews
import Derived.JoinedTies
import Derived.KernelRfl
namespace Go.Proofs.Ytlfbmicpaacbnaa
/- THE CELL 'sum', in the pinned program and in every row, IS THE sha256 OF THE DUMP (.gsa) THAT YtlfbmicpaacbnaaProg.lean LOADS. Nothing in Lean hashes anything: it is a label: what it is worth is what the hold of that sum in a sandbox is worth. -/
noncomputable def Try.pinned : Pinned := { name := "ytlfbmicpaacbnaa", sum := "a04eded457c8323b1a217885a71ada2559f9bf36154233d58533fc999dd0f488", checked := Try.checked }
namespace Rows
def none {H : Type} : Left H := { results := [], args := [] }

/-- 'rostrumlaw05.FlightFull': WHATEVER THE INPUT: true; the input reads as it did. -/
def flightFullSpec : ChangeSpec := { name := "flightFull", fn := fun _ => fun
  | [d] => { results := [.lit (.bool true)], args := [d] }
  | _ => none }
def flightFullRow : OpenClaim := { program := "ytlfbmicpaacbnaa", sum := "a04eded457c8323b1a217885a71ada2559f9bf36154233d58533fc999dd0f488", func := "rostrum/rostrumlaw05.FlightFull", spec := "flightFull", apart := false }
def FlightFullSaid : Prop := flightFullRow.holds Try.pinned (OpenSpec.ofChange flightFullSpec)

/-- ITS FALSE NEIGHBOUR: 'it returns false'. Refute it at one input. -/
def flightFullWrong : ChangeSpec := { name := "flightFull", fn := fun _ => fun
  | [d] => { results := [.lit (.bool false)], args := [d] }
  | _ => none }
def FlightFullWrongFalsely : Prop := flightFullRow.holds Try.pinned (OpenSpec.ofChange flightFullWrong)

/-- 'rostrumlaw05.FlightSent': WHATEVER THE INPUT: true; the input reads as it did. -/
def flightSentSpec : ChangeSpec := { name := "flightSent", fn := fun _ => fun
  | [d] => { results := [.lit (.bool true)], args := [d] }
  | _ => none }
def flightSentRow : OpenClaim := { program := "ytlfbmicpaacbnaa", sum := "a04eded457c8323b1a217885a71ada2559f9bf36154233d58533fc999dd0f488", func := "rostrum/rostrumlaw05.FlightSent", spec := "flightSent", apart := false }
def FlightSentSaid : Prop := flightSentRow.holds Try.pinned (OpenSpec.ofChange flightSentSpec)

/-- ITS FALSE NEIGHBOUR: 'it returns false'. Refute it at one input. -/
def flightSentWrong : ChangeSpec := { name := "flightSent", fn := fun _ => fun
  | [d] => { results := [.lit (.bool false)], args := [d] }
  | _ => none }
def FlightSentWrongFalsely : Prop := flightSentRow.holds Try.pinned (OpenSpec.ofChange flightSentWrong)

/-- 'rostrumlaw05.FlightCopies': WHATEVER THE INPUT: true; the input reads as it did. -/
def flightCopiesSpec : ChangeSpec := { name := "flightCopies", fn := fun _ => fun
  | [d1, d2] => { results := [.lit (.bool true)], args := [d1, d2] }
  | _ => none }
def flightCopiesRow : OpenClaim := { program := "ytlfbmicpaacbnaa", sum := "a04eded457c8323b1a217885a71ada2559f9bf36154233d58533fc999dd0f488", func := "rostrum/rostrumlaw05.FlightCopies", spec := "flightCopies", apart := false }
def FlightCopiesSaid : Prop := flightCopiesRow.holds Try.pinned (OpenSpec.ofChange flightCopiesSpec)

/-- ITS FALSE NEIGHBOUR: 'it returns false'. Refute it at one input. -/
def flightCopiesWrong : ChangeSpec := { name := "flightCopies", fn := fun _ => fun
  | [d1, d2] => { results := [.lit (.bool false)], args := [d1, d2] }
  | _ => none }
def FlightCopiesWrongFalsely : Prop := flightCopiesRow.holds Try.pinned (OpenSpec.ofChange flightCopiesWrong)

/-- 'rostrumlaw05.FlightOldest': WHATEVER THE INPUT: true; the input reads as it did. -/
def flightOldestSpec : ChangeSpec := { name := "flightOldest", fn := fun _ => fun
  | [d] => { results := [.lit (.bool true)], args := [d] }
  | _ => none }
def flightOldestRow : OpenClaim := { program := "ytlfbmicpaacbnaa", sum := "a04eded457c8323b1a217885a71ada2559f9bf36154233d58533fc999dd0f488", func := "rostrum/rostrumlaw05.FlightOldest", spec := "flightOldest", unfollowed := true, recurses := true, apart := false }
def FlightOldestSaid : Prop := flightOldestRow.holds Try.pinned (OpenSpec.ofChange flightOldestSpec)

/-- ITS FALSE NEIGHBOUR: 'it returns false'. Refute it at one input. -/
def flightOldestWrong : ChangeSpec := { name := "flightOldest", fn := fun _ => fun
  | [d] => { results := [.lit (.bool false)], args := [d] }
  | _ => none }
def FlightOldestWrongFalsely : Prop := flightOldestRow.holds Try.pinned (OpenSpec.ofChange flightOldestWrong)

/-- 'rostrumlaw05.FlightOnce': WHATEVER THE INPUT: true; the input reads as it did. -/
def flightOnceSpec : ChangeSpec := { name := "flightOnce", fn := fun _ => fun
  | [d] => { results := [.lit (.bool true)], args := [d] }
  | _ => none }
def flightOnceRow : OpenClaim := { program := "ytlfbmicpaacbnaa", sum := "a04eded457c8323b1a217885a71ada2559f9bf36154233d58533fc999dd0f488", func := "rostrum/rostrumlaw05.FlightOnce", spec := "flightOnce", unfollowed := true, recurses := true, apart := false }
def FlightOnceSaid : Prop := flightOnceRow.holds Try.pinned (OpenSpec.ofChange flightOnceSpec)

/-- ITS FALSE NEIGHBOUR: 'it returns false'. Refute it at one input. -/
def flightOnceWrong : ChangeSpec := { name := "flightOnce", fn := fun _ => fun
  | [d] => { results := [.lit (.bool false)], args := [d] }
  | _ => none }
def FlightOnceWrongFalsely : Prop := flightOnceRow.holds Try.pinned (OpenSpec.ofChange flightOnceWrong)

/-- 'rostrumlaw05.FlightDoes': WHATEVER THE INPUT: true; the input reads as it did. -/
def flightDoesSpec : ChangeSpec := { name := "flightDoes", fn := fun _ => fun
  | [d] => { results := [.lit (.bool true)], args := [d] }
  | _ => none }
def flightDoesRow : OpenClaim := { program := "ytlfbmicpaacbnaa", sum := "a04eded457c8323b1a217885a71ada2559f9bf36154233d58533fc999dd0f488", func := "rostrum/rostrumlaw05.FlightDoes", spec := "flightDoes", unfollowed := true, recurses := true, apart := false }
def FlightDoesSaid : Prop := flightDoesRow.holds Try.pinned (OpenSpec.ofChange flightDoesSpec)

/-- ITS FALSE NEIGHBOUR: 'it returns false'. Refute it at one input. -/
def flightDoesWrong : ChangeSpec := { name := "flightDoes", fn := fun _ => fun
  | [d] => { results := [.lit (.bool false)], args := [d] }
  | _ => none }
def FlightDoesWrongFalsely : Prop := flightDoesRow.holds Try.pinned (OpenSpec.ofChange flightDoesWrong)

/-- 'rostrumlaw05.FlightNone': WHATEVER THE INPUT: true; the input reads as it did. -/
def flightNoneSpec : ChangeSpec := { name := "flightNone", fn := fun _ => fun
  | [d] => { results := [.lit (.bool true)], args := [d] }
  | _ => none }
def flightNoneRow : OpenClaim := { program := "ytlfbmicpaacbnaa", sum := "a04eded457c8323b1a217885a71ada2559f9bf36154233d58533fc999dd0f488", func := "rostrum/rostrumlaw05.FlightNone", spec := "flightNone", unfollowed := true, recurses := true, apart := false }
def FlightNoneSaid : Prop := flightNoneRow.holds Try.pinned (OpenSpec.ofChange flightNoneSpec)

/-- ITS FALSE NEIGHBOUR: 'it returns false'. Refute it at one input. -/
def flightNoneWrong : ChangeSpec := { name := "flightNone", fn := fun _ => fun
  | [d] => { results := [.lit (.bool false)], args := [d] }
  | _ => none }
def FlightNoneWrongFalsely : Prop := flightNoneRow.holds Try.pinned (OpenSpec.ofChange flightNoneWrong)

/- THE SECOND FORM. 'bulk': how many values and letters a reading holds, each counted each time it is reached (what is shared counts as often as it is met; a slice's spare places count too). A statement '..UptoSaid' is the law's where the arguments, and the package variables that the reading takes, are together of bulk at most 1048576: NARROWER than '..Said'. Prove '..Said' where nothing that the law and all that it calls make is longer than what came in: it says more and counts as full. Else prove '..UptoSaid'. A law counts once. -/
mutual
def uptoBulk {H : Type} : DataW H → Nat
  | .lit (.string bytes) => bytes.length + 1
  | .lit _ => 1
  | .nil => 1
  | .ptr d => uptoBulk d + 1
  | .slice elems spare => uptoBulkAll elems + uptoBulkAll spare + 1
  | .agg parts => uptoBulkAll parts + 1
  | .iface _ d => uptoBulk d + 1
  | .map entries => uptoBulkEntries entries + 1
  | .held _ => 1
def uptoBulkAll {H : Type} : List (DataW H) → Nat
  | [] => 0
  | d :: r => uptoBulk d + uptoBulkAll r
def uptoBulkEntries {H : Type} : List (Lit × DataW H) → Nat
  | [] => 0
  | x :: r => uptoBulkEntry x + uptoBulkEntries r
def uptoBulkEntry {H : Type} : Lit × DataW H → Nat
  | (.string bytes, d) => bytes.length + uptoBulk d + 1
  | (_, d) => uptoBulk d + 1
 end
def uptoSmall : (H : Type) → List (DataW H) → Bool := fun _ ds => decide (uptoBulkAll ds ≤ 1048576)
def OpenSpec.upto (s : _root_.Go.ChangeSpec) : _root_.Go.OpenSpec := { _root_.Go.OpenSpec.ofChange s with cond := some uptoSmall }

/-- 'rostrumlaw05.FlightFull', WHERE WHAT IT READS IS OF BULK AT MOST 1048576: true; the input reads as it did. -/
def flightFullUptoRow : OpenClaim := { program := "ytlfbmicpaacbnaa", sum := "a04eded457c8323b1a217885a71ada2559f9bf36154233d58533fc999dd0f488", func := "rostrum/rostrumlaw05.FlightFull", spec := "flightFull", apart := false, narrowed := true }
def FlightFullUptoSaid : Prop := flightFullUptoRow.holds Try.pinned (OpenSpec.upto flightFullSpec)

/-- 'rostrumlaw05.FlightSent', WHERE WHAT IT READS IS OF BULK AT MOST 1048576: true; the input reads as it did. -/
def flightSentUptoRow : OpenClaim := { program := "ytlfbmicpaacbnaa", sum := "a04eded457c8323b1a217885a71ada2559f9bf36154233d58533fc999dd0f488", func := "rostrum/rostrumlaw05.FlightSent", spec := "flightSent", apart := false, narrowed := true }
def FlightSentUptoSaid : Prop := flightSentUptoRow.holds Try.pinned (OpenSpec.upto flightSentSpec)

/-- 'rostrumlaw05.FlightCopies', WHERE WHAT IT READS IS OF BULK AT MOST 1048576: true; the input reads as it did. -/
def flightCopiesUptoRow : OpenClaim := { program := "ytlfbmicpaacbnaa", sum := "a04eded457c8323b1a217885a71ada2559f9bf36154233d58533fc999dd0f488", func := "rostrum/rostrumlaw05.FlightCopies", spec := "flightCopies", apart := false, narrowed := true }
def FlightCopiesUptoSaid : Prop := flightCopiesUptoRow.holds Try.pinned (OpenSpec.upto flightCopiesSpec)

/-- 'rostrumlaw05.FlightOldest', WHERE WHAT IT READS IS OF BULK AT MOST 1048576: true; the input reads as it did. -/
def flightOldestUptoRow : OpenClaim := { program := "ytlfbmicpaacbnaa", sum := "a04eded457c8323b1a217885a71ada2559f9bf36154233d58533fc999dd0f488", func := "rostrum/rostrumlaw05.FlightOldest", spec := "flightOldest", unfollowed := true, recurses := true, apart := false, narrowed := true }
def FlightOldestUptoSaid : Prop := flightOldestUptoRow.holds Try.pinned (OpenSpec.upto flightOldestSpec)

/-- 'rostrumlaw05.FlightOnce', WHERE WHAT IT READS IS OF BULK AT MOST 1048576: true; the input reads as it did. -/
def flightOnceUptoRow : OpenClaim := { program := "ytlfbmicpaacbnaa", sum := "a04eded457c8323b1a217885a71ada2559f9bf36154233d58533fc999dd0f488", func := "rostrum/rostrumlaw05.FlightOnce", spec := "flightOnce", unfollowed := true, recurses := true, apart := false, narrowed := true }
def FlightOnceUptoSaid : Prop := flightOnceUptoRow.holds Try.pinned (OpenSpec.upto flightOnceSpec)

/-- 'rostrumlaw05.FlightDoes', WHERE WHAT IT READS IS OF BULK AT MOST 1048576: true; the input reads as it did. -/
def flightDoesUptoRow : OpenClaim := { program := "ytlfbmicpaacbnaa", sum := "a04eded457c8323b1a217885a71ada2559f9bf36154233d58533fc999dd0f488", func := "rostrum/rostrumlaw05.FlightDoes", spec := "flightDoes", unfollowed := true, recurses := true, apart := false, narrowed := true }
def FlightDoesUptoSaid : Prop := flightDoesUptoRow.holds Try.pinned (OpenSpec.upto flightDoesSpec)

/-- 'rostrumlaw05.FlightNone', WHERE WHAT IT READS IS OF BULK AT MOST 1048576: true; the input reads as it did. -/
def flightNoneUptoRow : OpenClaim := { program := "ytlfbmicpaacbnaa", sum := "a04eded457c8323b1a217885a71ada2559f9bf36154233d58533fc999dd0f488", func := "rostrum/rostrumlaw05.FlightNone", spec := "flightNone", unfollowed := true, recurses := true, apart := false, narrowed := true }
def FlightNoneUptoSaid : Prop := flightNoneUptoRow.holds Try.pinned (OpenSpec.upto flightNoneSpec)

end Rows
end Go.Proofs.Ytlfbmicpaacbnaa
