/-
  No cell of these rows narrows 'for every input' (looked for: loops, veiled, ifaces, maps, wideKeys, modest, calm, conditions, laid).
  DERIVED. THE GIVEN ROWS OF THIS SEAT. 5 by the template 'for every input the law returns true; each argument reads behind the call as it read before'; 0 by the template 'total and deterministic' (their statements: YtbmlenffcmmkbaaTotals.lean).
  GIVEN WITH THE SEED: the statements are not yours to turn. If you find one false, say at which input.
  Laid BY PROGRAM, IN A SANDBOX (cutbox-rows.mjs): the forced cells as the released guide's own fill.sh prints them over the translation 3af0f9a43a5f70ce… (all of the seat's roots in one cut). By AI agents, Wed Nov 11 2026. No macro, syntax, notation, axiom, sorry.
-/
import Derived.Test.YtbmlenffcmmkbaaChecked
import GoSem.Claim
import GoSem.ClaimJoined
import GoSem.ClaimMapViews
import Derived.JoinedTies
import Derived.KernelRfl
namespace Go.Proofs.Ytbmlenffcmmkbaa
/- THE CELL 'sum', in the pinned program and in every row, IS THE sha256 OF THE DUMP (.gsa) THAT YtbmlenffcmmkbaaProg.lean LOADS. Nothing in Lean hashes anything: it is a label: what it is worth is what the hold of that sum in a sandbox is worth. -/
noncomputable def Try.pinned : Pinned := { name := "ytbmlenffcmmkbaa", sum := "3af0f9a43a5f70cef4a51de6e5e687a339f2e5f185fed0e032798991547865d8", checked := Try.checked }
namespace Rows
def none {H : Type} : Left H := { results := [], args := [] }

/-- 'rostrumlaw06.LinkOrder': WHATEVER THE INPUT: true; the input reads as it did. -/
def linkOrderSpec : ChangeSpec := { name := "linkOrder", fn := fun _ => fun
  | [d1, d2] => { results := [.lit (.bool true)], args := [d1, d2] }
  | _ => none }
def linkOrderRow : OpenClaim := { program := "ytbmlenffcmmkbaa", sum := "3af0f9a43a5f70cef4a51de6e5e687a339f2e5f185fed0e032798991547865d8", func := "rostrum/rostrumlaw06.LinkOrder", spec := "linkOrder", unfollowed := true, recurses := true, plainKeys := false, apart := false }
def LinkOrderSaid : Prop := linkOrderRow.holds Try.pinned (OpenSpec.ofChange linkOrderSpec)

/-- ITS FALSE NEIGHBOUR: 'it returns false'. Refute it at one input. -/
def linkOrderWrong : ChangeSpec := { name := "linkOrder", fn := fun _ => fun
  | [d1, d2] => { results := [.lit (.bool false)], args := [d1, d2] }
  | _ => none }
def LinkOrderWrongFalsely : Prop := linkOrderRow.holds Try.pinned (OpenSpec.ofChange linkOrderWrong)

/-- 'rostrumlaw06.LinkAll': WHATEVER THE INPUT: true; the input reads as it did. -/
def linkAllSpec : ChangeSpec := { name := "linkAll", fn := fun _ => fun
  | [d1, d2] => { results := [.lit (.bool true)], args := [d1, d2] }
  | _ => none }
def linkAllRow : OpenClaim := { program := "ytbmlenffcmmkbaa", sum := "3af0f9a43a5f70cef4a51de6e5e687a339f2e5f185fed0e032798991547865d8", func := "rostrum/rostrumlaw06.LinkAll", spec := "linkAll", unfollowed := true, recurses := true, plainKeys := false, apart := false }
def LinkAllSaid : Prop := linkAllRow.holds Try.pinned (OpenSpec.ofChange linkAllSpec)

/-- ITS FALSE NEIGHBOUR: 'it returns false'. Refute it at one input. -/
def linkAllWrong : ChangeSpec := { name := "linkAll", fn := fun _ => fun
  | [d1, d2] => { results := [.lit (.bool false)], args := [d1, d2] }
  | _ => none }
def LinkAllWrongFalsely : Prop := linkAllRow.holds Try.pinned (OpenSpec.ofChange linkAllWrong)

/-- 'rostrumlaw06.LinkLives': WHATEVER THE INPUT: true; the input reads as it did. -/
def linkLivesSpec : ChangeSpec := { name := "linkLives", fn := fun _ => fun
  | [d1, d2] => { results := [.lit (.bool true)], args := [d1, d2] }
  | _ => none }
def linkLivesRow : OpenClaim := { program := "ytbmlenffcmmkbaa", sum := "3af0f9a43a5f70cef4a51de6e5e687a339f2e5f185fed0e032798991547865d8", func := "rostrum/rostrumlaw06.LinkLives", spec := "linkLives", unfollowed := true, recurses := true, plainKeys := false, apart := false }
def LinkLivesSaid : Prop := linkLivesRow.holds Try.pinned (OpenSpec.ofChange linkLivesSpec)

/-- ITS FALSE NEIGHBOUR: 'it returns false'. Refute it at one input. -/
def linkLivesWrong : ChangeSpec := { name := "linkLives", fn := fun _ => fun
  | [d1, d2] => { results := [.lit (.bool false)], args := [d1, d2] }
  | _ => none }
def LinkLivesWrongFalsely : Prop := linkLivesRow.holds Try.pinned (OpenSpec.ofChange linkLivesWrong)

/-- 'rostrumlaw06.LinkNone': WHATEVER THE INPUT: true; the input reads as it did. -/
def linkNoneSpec : ChangeSpec := { name := "linkNone", fn := fun _ => fun
  | [d1, d2, d3] => { results := [.lit (.bool true)], args := [d1, d2, d3] }
  | _ => none }
def linkNoneRow : OpenClaim := { program := "ytbmlenffcmmkbaa", sum := "3af0f9a43a5f70cef4a51de6e5e687a339f2e5f185fed0e032798991547865d8", func := "rostrum/rostrumlaw06.LinkNone", spec := "linkNone", unfollowed := true, recurses := true, plainKeys := false, apart := false }
def LinkNoneSaid : Prop := linkNoneRow.holds Try.pinned (OpenSpec.ofChange linkNoneSpec)

/-- ITS FALSE NEIGHBOUR: 'it returns false'. Refute it at one input. -/
def linkNoneWrong : ChangeSpec := { name := "linkNone", fn := fun _ => fun
  | [d1, d2, d3] => { results := [.lit (.bool false)], args := [d1, d2, d3] }
  | _ => none }
def LinkNoneWrongFalsely : Prop := linkNoneRow.holds Try.pinned (OpenSpec.ofChange linkNoneWrong)

/-- 'rostrumlaw06.LinkWindow': WHATEVER THE INPUT: true; the input reads as it did. -/
def linkWindowSpec : ChangeSpec := { name := "linkWindow", fn := fun _ => fun
  | [d1, d2] => { results := [.lit (.bool true)], args := [d1, d2] }
  | _ => none }
def linkWindowRow : OpenClaim := { program := "ytbmlenffcmmkbaa", sum := "3af0f9a43a5f70cef4a51de6e5e687a339f2e5f185fed0e032798991547865d8", func := "rostrum/rostrumlaw06.LinkWindow", spec := "linkWindow", unfollowed := true, recurses := true, plainKeys := false, apart := false }
def LinkWindowSaid : Prop := linkWindowRow.holds Try.pinned (OpenSpec.ofChange linkWindowSpec)

/-- ITS FALSE NEIGHBOUR: 'it returns false'. Refute it at one input. -/
def linkWindowWrong : ChangeSpec := { name := "linkWindow", fn := fun _ => fun
  | [d1, d2] => { results := [.lit (.bool false)], args := [d1, d2] }
  | _ => none }
def LinkWindowWrongFalsely : Prop := linkWindowRow.holds Try.pinned (OpenSpec.ofChange linkWindowWrong)

/- THE SECOND FORM. 'bulk': how many values and letters a reading holds, each counted each time it is reached (what is shared counts as often as it is met; a slice's spare places count too). A statement '..UptoSaid' is the law's where the arguments, and the package variables that the reading takes, are together of bulk at most 1048576: NARROWER than '..Said'. Prove '..Said' where nothing that the law and all that it calls make is longer than what came in: it says more and counts as full. Else prove '..UptoSaid'. A law counts once. -/
mutual
def uptoBulk {H : Type} : DataW H → Nat
  | .lit (.string bytes) => bytes.length + 1
  | .lit _ => 1
  | .nil => 1
  | .ptr d => uptoBulk d + 1
  | .slice elems spare => uptoBulkAll elems + uptoBulkAll spare + 1
  | .agg parts => uptoBulkAll parts + 1
  | .iface _ d => uptoBulk d + 1
  | .map entries => uptoBulkEntries entries + 1
  | .held _ => 1
def uptoBulkAll {H : Type} : List (DataW H) → Nat
  | [] => 0
  | d :: r => uptoBulk d + uptoBulkAll r
def uptoBulkEntries {H : Type} : List (Lit × DataW H) → Nat
  | [] => 0
  | x :: r => uptoBulkEntry x + uptoBulkEntries r
def uptoBulkEntry {H : Type} : Lit × DataW H → Nat
  | (.string bytes, d) => bytes.length + uptoBulk d + 1
  | (_, d) => uptoBulk d + 1
 end
def uptoSmall : (H : Type) → List (DataW H) → Bool := fun _ ds => decide (uptoBulkAll ds ≤ 1048576)
def OpenSpec.upto (s : _root_.Go.ChangeSpec) : _root_.Go.OpenSpec := { _root_.Go.OpenSpec.ofChange s with cond := some uptoSmall }

/-- 'rostrumlaw06.LinkOrder', WHERE WHAT IT READS IS OF BULK AT MOST 1048576: true; the input reads as it did. -/
def linkOrderUptoRow : OpenClaim := { program := "ytbmlenffcmmkbaa", sum := "3af0f9a43a5f70cef4a51de6e5e687a339f2e5f185fed0e032798991547865d8", func := "rostrum/rostrumlaw06.LinkOrder", spec := "linkOrder", unfollowed := true, recurses := true, plainKeys := false, apart := false, narrowed := true }
def LinkOrderUptoSaid : Prop := linkOrderUptoRow.holds Try.pinned (OpenSpec.upto linkOrderSpec)

/-- 'rostrumlaw06.LinkAll', WHERE WHAT IT READS IS OF BULK AT MOST 1048576: true; the input reads as it did. -/
def linkAllUptoRow : OpenClaim := { program := "ytbmlenffcmmkbaa", sum := "3af0f9a43a5f70cef4a51de6e5e687a339f2e5f185fed0e032798991547865d8", func := "rostrum/rostrumlaw06.LinkAll", spec := "linkAll", unfollowed := true, recurses := true, plainKeys := false, apart := false, narrowed := true }
def LinkAllUptoSaid : Prop := linkAllUptoRow.holds Try.pinned (OpenSpec.upto linkAllSpec)

/-- 'rostrumlaw06.LinkLives', WHERE WHAT IT READS IS OF BULK AT MOST 1048576: true; the input reads as it did. -/
def linkLivesUptoRow : OpenClaim := { program := "ytbmlenffcmmkbaa", sum := "3af0f9a43a5f70cef4a51de6e5e687a339f2e5f185fed0e032798991547865d8", func := "rostrum/rostrumlaw06.LinkLives", spec := "linkLives", unfollowed := true, recurses := true, plainKeys := false, apart := false, narrowed := true }
def LinkLivesUptoSaid : Prop := linkLivesUptoRow.holds Try.pinned (OpenSpec.upto linkLivesSpec)

/-- 'rostrumlaw06.LinkNone', WHERE WHAT IT READS IS OF BULK AT MOST 1048576: true; the input reads as it did. -/
def linkNoneUptoRow : OpenClaim := { program := "ytbmlenffcmmkbaa", sum := "3af0f9a43a5f70cef4a51de6e5e687a339f2e5f185fed0e032798991547865d8", func := "rostrum/rostrumlaw06.LinkNone", spec := "linkNone", unfollowed := true, recurses := true, plainKeys := false, apart := false, narrowed := true }
def LinkNoneUptoSaid : Prop := linkNoneUptoRow.holds Try.pinned (OpenSpec.upto linkNoneSpec)

/-- 'rostrumlaw06.LinkWindow', WHERE WHAT IT READS IS OF BULK AT MOST 1048576: true; the input reads as it did. -/
def linkWindowUptoRow : OpenClaim := { program := "ytbmlenffcmmkbaa", sum := "3af0f9a43a5f70cef4a51de6e5e687a339f2e5f185fed0e032798991547865d8", func := "rostrum/rostrumlaw06.LinkWindow", spec := "linkWindow", unfollowed := true, recurses := true, plainKeys := false, apart := false, narrowed := true }
def LinkWindowUptoSaid : Prop := linkWindowUptoRow.holds Try.pinned (OpenSpec.upto linkWindowSpec)

end Rows
end Go.Proofs.Ytbmlenffcmmkbaa
