/-
  No cell of these rows narrows 'for every input' (looked for: loops, veiled, ifaces, maps, wideKeys, modest, calm, conditions, laid).
  DERIVED. THE GIVEN ROWS OF THIS SEAT. 7 by the template 'for every input the law returns true; each argument reads behind the call as it read before'; 0 by the template 'total and deterministic' (their statements: YtcfaeddjohpohaaTotals.lean).
  GIVEN WITH THE SEED: the statements are not yours to turn. If you find one false, say at which input.
  Laid BY PROGRAM, IN A SANDBOX (cutbox-rows.mjs): the forced cells as the released guide's own fill.sh prints them over the translation 38ce0303191629b4… (all of the seat's roots in one cut). By AI agents, Wed Nov 11 2026. No macro, syntax, notation, axiom, sorry.
-/
import Derived.Test.YtcfaeddjohpohaaChecked
import GoSem.Claim
import GoSem.ClaimJoined
import GoSem.ClaimMapViews
import Derived.JoinedTies
import Derived.KernelRfl
namespace Go.Proofs.Ytcfaeddjohpohaa
/- THE CELL 'sum', in the pinned program and in every row, IS THE sha256 OF THE DUMP (.gsa) THAT YtcfaeddjohpohaaProg.lean LOADS. Nothing in Lean hashes anything: it is a label: what it is worth is what the hold of that sum in a sandbox is worth. -/
noncomputable def Try.pinned : Pinned := { name := "ytcfaeddjohpohaa", sum := "38ce0303191629b4483b34f893b101df5726cf00779ac54acbf7be57d6f60154", checked := Try.checked }
namespace Rows
def none {H : Type} : Left H := { results := [], args := [] }

/-- 'rostrumlaw08.BallotVotes': WHATEVER THE INPUT: true; the input reads as it did. -/
def ballotVotesSpec : ChangeSpec := { name := "ballotVotes", fn := fun _ => fun
  | [d1, d2, d3] => { results := [.lit (.bool true)], args := [d1, d2, d3] }
  | _ => none }
def ballotVotesRow : OpenClaim := { program := "ytcfaeddjohpohaa", sum := "38ce0303191629b4483b34f893b101df5726cf00779ac54acbf7be57d6f60154", func := "rostrum/rostrumlaw08.BallotVotes", spec := "ballotVotes", unfollowed := true, recurses := true, plainKeys := false, apart := false }
def BallotVotesSaid : Prop := ballotVotesRow.holds Try.pinned (OpenSpec.ofChange ballotVotesSpec)

/-- ITS FALSE NEIGHBOUR: 'it returns false'. Refute it at one input. -/
def ballotVotesWrong : ChangeSpec := { name := "ballotVotes", fn := fun _ => fun
  | [d1, d2, d3] => { results := [.lit (.bool false)], args := [d1, d2, d3] }
  | _ => none }
def BallotVotesWrongFalsely : Prop := ballotVotesRow.holds Try.pinned (OpenSpec.ofChange ballotVotesWrong)

/-- 'rostrumlaw08.BallotRises': WHATEVER THE INPUT: true; the input reads as it did. -/
def ballotRisesSpec : ChangeSpec := { name := "ballotRises", fn := fun _ => fun
  | [d1, d2] => { results := [.lit (.bool true)], args := [d1, d2] }
  | _ => none }
def ballotRisesRow : OpenClaim := { program := "ytcfaeddjohpohaa", sum := "38ce0303191629b4483b34f893b101df5726cf00779ac54acbf7be57d6f60154", func := "rostrum/rostrumlaw08.BallotRises", spec := "ballotRises", unfollowed := true, recurses := true, plainKeys := false, apart := false }
def BallotRisesSaid : Prop := ballotRisesRow.holds Try.pinned (OpenSpec.ofChange ballotRisesSpec)

/-- ITS FALSE NEIGHBOUR: 'it returns false'. Refute it at one input. -/
def ballotRisesWrong : ChangeSpec := { name := "ballotRises", fn := fun _ => fun
  | [d1, d2] => { results := [.lit (.bool false)], args := [d1, d2] }
  | _ => none }
def BallotRisesWrongFalsely : Prop := ballotRisesRow.holds Try.pinned (OpenSpec.ofChange ballotRisesWrong)

/-- 'rostrumlaw08.BallotMost': WHATEVER THE INPUT: true; the input reads as it did. -/
def ballotMostSpec : ChangeSpec := { name := "ballotMost", fn := fun _ => fun
  | [d1, d2, d3] => { results := [.lit (.bool true)], args := [d1, d2, d3] }
  | _ => none }
def ballotMostRow : OpenClaim := { program := "ytcfaeddjohpohaa", sum := "38ce0303191629b4483b34f893b101df5726cf00779ac54acbf7be57d6f60154", func := "rostrum/rostrumlaw08.BallotMost", spec := "ballotMost", unfollowed := true, recurses := true, plainKeys := false, apart := false }
def BallotMostSaid : Prop := ballotMostRow.holds Try.pinned (OpenSpec.ofChange ballotMostSpec)

/-- ITS FALSE NEIGHBOUR: 'it returns false'. Refute it at one input. -/
def ballotMostWrong : ChangeSpec := { name := "ballotMost", fn := fun _ => fun
  | [d1, d2, d3] => { results := [.lit (.bool false)], args := [d1, d2, d3] }
  | _ => none }
def BallotMostWrongFalsely : Prop := ballotMostRow.holds Try.pinned (OpenSpec.ofChange ballotMostWrong)

/-- 'rostrumlaw08.BallotNexts': WHATEVER THE INPUT: true; the input reads as it did. -/
def ballotNextsSpec : ChangeSpec := { name := "ballotNexts", fn := fun _ => fun
  | [d1, d2] => { results := [.lit (.bool true)], args := [d1, d2] }
  | _ => none }
def ballotNextsRow : OpenClaim := { program := "ytcfaeddjohpohaa", sum := "38ce0303191629b4483b34f893b101df5726cf00779ac54acbf7be57d6f60154", func := "rostrum/rostrumlaw08.BallotNexts", spec := "ballotNexts", unfollowed := true, recurses := true, plainKeys := false, apart := false }
def BallotNextsSaid : Prop := ballotNextsRow.holds Try.pinned (OpenSpec.ofChange ballotNextsSpec)

/-- ITS FALSE NEIGHBOUR: 'it returns false'. Refute it at one input. -/
def ballotNextsWrong : ChangeSpec := { name := "ballotNexts", fn := fun _ => fun
  | [d1, d2] => { results := [.lit (.bool false)], args := [d1, d2] }
  | _ => none }
def BallotNextsWrongFalsely : Prop := ballotNextsRow.holds Try.pinned (OpenSpec.ofChange ballotNextsWrong)

/-- 'rostrumlaw08.BallotProposals': WHATEVER THE INPUT: true; the input reads as it did. -/
def ballotProposalsSpec : ChangeSpec := { name := "ballotProposals", fn := fun _ => fun
  | [d1, d2, d3] => { results := [.lit (.bool true)], args := [d1, d2, d3] }
  | _ => none }
def ballotProposalsRow : OpenClaim := { program := "ytcfaeddjohpohaa", sum := "38ce0303191629b4483b34f893b101df5726cf00779ac54acbf7be57d6f60154", func := "rostrum/rostrumlaw08.BallotProposals", spec := "ballotProposals", unfollowed := true, recurses := true, plainKeys := false, apart := false }
def BallotProposalsSaid : Prop := ballotProposalsRow.holds Try.pinned (OpenSpec.ofChange ballotProposalsSpec)

/-- ITS FALSE NEIGHBOUR: 'it returns false'. Refute it at one input. -/
def ballotProposalsWrong : ChangeSpec := { name := "ballotProposals", fn := fun _ => fun
  | [d1, d2, d3] => { results := [.lit (.bool false)], args := [d1, d2, d3] }
  | _ => none }
def BallotProposalsWrongFalsely : Prop := ballotProposalsRow.holds Try.pinned (OpenSpec.ofChange ballotProposalsWrong)

/-- 'rostrumlaw08.BallotOne': WHATEVER THE INPUT: true; the input reads as it did. -/
def ballotOneSpec : ChangeSpec := { name := "ballotOne", fn := fun _ => fun
  | [d1, d2] => { results := [.lit (.bool true)], args := [d1, d2] }
  | _ => none }
def ballotOneRow : OpenClaim := { program := "ytcfaeddjohpohaa", sum := "38ce0303191629b4483b34f893b101df5726cf00779ac54acbf7be57d6f60154", func := "rostrum/rostrumlaw08.BallotOne", spec := "ballotOne", unfollowed := true, recurses := true, plainKeys := false, apart := false }
def BallotOneSaid : Prop := ballotOneRow.holds Try.pinned (OpenSpec.ofChange ballotOneSpec)

/-- ITS FALSE NEIGHBOUR: 'it returns false'. Refute it at one input. -/
def ballotOneWrong : ChangeSpec := { name := "ballotOne", fn := fun _ => fun
  | [d1, d2] => { results := [.lit (.bool false)], args := [d1, d2] }
  | _ => none }
def BallotOneWrongFalsely : Prop := ballotOneRow.holds Try.pinned (OpenSpec.ofChange ballotOneWrong)

/-- 'rostrumlaw08.BallotOwn': WHATEVER THE INPUT: true; the input reads as it did. -/
def ballotOwnSpec : ChangeSpec := { name := "ballotOwn", fn := fun _ => fun
  | [d1, d2, d3] => { results := [.lit (.bool true)], args := [d1, d2, d3] }
  | _ => none }
def ballotOwnRow : OpenClaim := { program := "ytcfaeddjohpohaa", sum := "38ce0303191629b4483b34f893b101df5726cf00779ac54acbf7be57d6f60154", func := "rostrum/rostrumlaw08.BallotOwn", spec := "ballotOwn", unfollowed := true, recurses := true, plainKeys := false, apart := false }
def BallotOwnSaid : Prop := ballotOwnRow.holds Try.pinned (OpenSpec.ofChange ballotOwnSpec)

/-- ITS FALSE NEIGHBOUR: 'it returns false'. Refute it at one input. -/
def ballotOwnWrong : ChangeSpec := { name := "ballotOwn", fn := fun _ => fun
  | [d1, d2, d3] => { results := [.lit (.bool false)], args := [d1, d2, d3] }
  | _ => none }
def BallotOwnWrongFalsely : Prop := ballotOwnRow.holds Try.pinned (OpenSpec.ofChange ballotOwnWrong)

/- THE SECOND FORM. 'bulk': how many values and letters a reading holds, each counted each time it is reached (what is shared counts as often as it is met; a slice's spare places count too). A statement '..UptoSaid' is the law's where the arguments, and the package variables that the reading takes, are together of bulk at most 1048576: NARROWER than '..Said'. Prove '..Said' where nothing that the law and all that it calls make is longer than what came in: it says more and counts as full. Else prove '..UptoSaid'. A law counts once. -/
mutual
def uptoBulk {H : Type} : DataW H → Nat
  | .lit (.string bytes) => bytes.length + 1
  | .lit _ => 1
  | .nil => 1
  | .ptr d => uptoBulk d + 1
  | .slice elems spare => uptoBulkAll elems + uptoBulkAll spare + 1
  | .agg parts => uptoBulkAll parts + 1
  | .iface _ d => uptoBulk d + 1
  | .map entries => uptoBulkEntries entries + 1
  | .held _ => 1
def uptoBulkAll {H : Type} : List (DataW H) → Nat
  | [] => 0
  | d :: r => uptoBulk d + uptoBulkAll r
def uptoBulkEntries {H : Type} : List (Lit × DataW H) → Nat
  | [] => 0
  | x :: r => uptoBulkEntry x + uptoBulkEntries r
def uptoBulkEntry {H : Type} : Lit × DataW H → Nat
  | (.string bytes, d) => bytes.length + uptoBulk d + 1
  | (_, d) => uptoBulk d + 1
 end
def uptoSmall : (H : Type) → List (DataW H) → Bool := fun _ ds => decide (uptoBulkAll ds ≤ 1048576)
def OpenSpec.upto (s : _root_.Go.ChangeSpec) : _root_.Go.OpenSpec := { _root_.Go.OpenSpec.ofChange s with cond := some uptoSmall }

/-- 'rostrumlaw08.BallotVotes', WHERE WHAT IT READS IS OF BULK AT MOST 1048576: true; the input reads as it did. -/
def ballotVotesUptoRow : OpenClaim := { program := "ytcfaeddjohpohaa", sum := "38ce0303191629b4483b34f893b101df5726cf00779ac54acbf7be57d6f60154", func := "rostrum/rostrumlaw08.BallotVotes", spec := "ballotVotes", unfollowed := true, recurses := true, plainKeys := false, apart := false, narrowed := true }
def BallotVotesUptoSaid : Prop := ballotVotesUptoRow.holds Try.pinned (OpenSpec.upto ballotVotesSpec)

/-- 'rostrumlaw08.BallotRises', WHERE WHAT IT READS IS OF BULK AT MOST 1048576: true; the input reads as it did. -/
def ballotRisesUptoRow : OpenClaim := { program := "ytcfaeddjohpohaa", sum := "38ce0303191629b4483b34f893b101df5726cf00779ac54acbf7be57d6f60154", func := "rostrum/rostrumlaw08.BallotRises", spec := "ballotRises", unfollowed := true, recurses := true, plainKeys := false, apart := false, narrowed := true }
def BallotRisesUptoSaid : Prop := ballotRisesUptoRow.holds Try.pinned (OpenSpec.upto ballotRisesSpec)

/-- 'rostrumlaw08.BallotMost', WHERE WHAT IT READS IS OF BULK AT MOST 1048576: true; the input reads as it did. -/
def ballotMostUptoRow : OpenClaim := { program := "ytcfaeddjohpohaa", sum := "38ce0303191629b4483b34f893b101df5726cf00779ac54acbf7be57d6f60154", func := "rostrum/rostrumlaw08.BallotMost", spec := "ballotMost", unfollowed := true, recurses := true, plainKeys := false, apart := false, narrowed := true }
def BallotMostUptoSaid : Prop := ballotMostUptoRow.holds Try.pinned (OpenSpec.upto ballotMostSpec)

/-- 'rostrumlaw08.BallotNexts', WHERE WHAT IT READS IS OF BULK AT MOST 1048576: true; the input reads as it did. -/
def ballotNextsUptoRow : OpenClaim := { program := "ytcfaeddjohpohaa", sum := "38ce0303191629b4483b34f893b101df5726cf00779ac54acbf7be57d6f60154", func := "rostrum/rostrumlaw08.BallotNexts", spec := "ballotNexts", unfollowed := true, recurses := true, plainKeys := false, apart := false, narrowed := true }
def BallotNextsUptoSaid : Prop := ballotNextsUptoRow.holds Try.pinned (OpenSpec.upto ballotNextsSpec)

/-- 'rostrumlaw08.BallotProposals', WHERE WHAT IT READS IS OF BULK AT MOST 1048576: true; the input reads as it did. -/
def ballotProposalsUptoRow : OpenClaim := { program := "ytcfaeddjohpohaa", sum := "38ce0303191629b4483b34f893b101df5726cf00779ac54acbf7be57d6f60154", func := "rostrum/rostrumlaw08.BallotProposals", spec := "ballotProposals", unfollowed := true, recurses := true, plainKeys := false, apart := false, narrowed := true }
def BallotProposalsUptoSaid : Prop := ballotProposalsUptoRow.holds Try.pinned (OpenSpec.upto ballotProposalsSpec)

/-- 'rostrumlaw08.BallotOne', WHERE WHAT IT READS IS OF BULK AT MOST 1048576: true; the input reads as it did. -/
def ballotOneUptoRow : OpenClaim := { program := "ytcfaeddjohpohaa", sum := "38ce0303191629b4483b34f893b101df5726cf00779ac54acbf7be57d6f60154", func := "rostrum/rostrumlaw08.BallotOne", spec := "ballotOne", unfollowed := true, recurses := true, plainKeys := false, apart := false, narrowed := true }
def BallotOneUptoSaid : Prop := ballotOneUptoRow.holds Try.pinned (OpenSpec.upto ballotOneSpec)

/-- 'rostrumlaw08.BallotOwn', WHERE WHAT IT READS IS OF BULK AT MOST 1048576: true; the input reads as it did. -/
def ballotOwnUptoRow : OpenClaim := { program := "ytcfaeddjohpohaa", sum := "38ce0303191629b4483b34f893b101df5726cf00779ac54acbf7be57d6f60154", func := "rostrum/rostrumlaw08.BallotOwn", spec := "ballotOwn", unfollowed := true, recurses := true, plainKeys := false, apart := false, narrowed := true }
def BallotOwnUptoSaid : Prop := ballotOwnUptoRow.holds Try.pinned (OpenSpec.upto ballotOwnSpec)

end Rows
end Go.Proofs.Ytcfaeddjohpohaa
