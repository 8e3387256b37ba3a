/-
  No cell of these rows narrows 'for every input' (looked for: loops, veiled, ifaces, maps, wideKeys, modest, calm, conditions, laid).
  DERIVED. THE GIVEN ROWS OF THIS SEAT. 6 by the template 'for every input the law returns true; each argument reads behind the call as it read before'; 0 by the template 'total and deterministic' (their statements: YtlboeaapmfpipaaTotals.lean).
  GIVEN WITH THE SEED: the statements are not yours to turn. If you find one false, say at which input.
  Laid BY PROGRAM, IN A SANDBOX (cutbox-rows.mjs): the forced cells as the released guide's own fill.sh prints them over the translation df546b09095d7ed7… (all of the seat's roots in one cut). By AI agents, Wed Nov 11 2026. No macro, syntax, notation, axiom, sorry.
-/
import Derived.Test.YtlboeaapmfpipaaChecked
import GoSem.Claim
import GoSem.ClaimJoined
import GoSem.ClaimMapViews
import Derived.JoinedTies
import Derived.KernelRfl
namespace Go.Proofs.Ytlboeaapmfpipaa
/- THE CELL 'sum', in the pinned program and in every row, IS THE sha256 OF THE DUMP (.gsa) THAT YtlboeaapmfpipaaProg.lean LOADS. Nothing in Lean hashes anything: it is a label: what it is worth is what the hold of that sum in a sandbox is worth. -/
noncomputable def Try.pinned : Pinned := { name := "ytlboeaapmfpipaa", sum := "df546b09095d7ed7d71fdc4d498add1b83464fbed126743bfbdb5f97eb2f17af", checked := Try.checked }
namespace Rows
def none {H : Type} : Left H := { results := [], args := [] }

/-- 'rostrumlaw09.PaxosFresh': WHATEVER THE INPUT: true; the input reads as it did. -/
def paxosFreshSpec : ChangeSpec := { name := "paxosFresh", fn := fun _ => fun
  | [d1, d2] => { results := [.lit (.bool true)], args := [d1, d2] }
  | _ => none }
def paxosFreshRow : OpenClaim := { program := "ytlboeaapmfpipaa", sum := "df546b09095d7ed7d71fdc4d498add1b83464fbed126743bfbdb5f97eb2f17af", func := "rostrum/rostrumlaw09.PaxosFresh", spec := "paxosFresh", unfollowed := true, recurses := true, apart := false }
def PaxosFreshSaid : Prop := paxosFreshRow.holds Try.pinned (OpenSpec.ofChange paxosFreshSpec)

/-- ITS FALSE NEIGHBOUR: 'it returns false'. Refute it at one input. -/
def paxosFreshWrong : ChangeSpec := { name := "paxosFresh", fn := fun _ => fun
  | [d1, d2] => { results := [.lit (.bool false)], args := [d1, d2] }
  | _ => none }
def PaxosFreshWrongFalsely : Prop := paxosFreshRow.holds Try.pinned (OpenSpec.ofChange paxosFreshWrong)

/-- 'rostrumlaw09.PaxosGone': WHATEVER THE INPUT: true; the input reads as it did. -/
def paxosGoneSpec : ChangeSpec := { name := "paxosGone", fn := fun _ => fun
  | [d1, d2] => { results := [.lit (.bool true)], args := [d1, d2] }
  | _ => none }
def paxosGoneRow : OpenClaim := { program := "ytlboeaapmfpipaa", sum := "df546b09095d7ed7d71fdc4d498add1b83464fbed126743bfbdb5f97eb2f17af", func := "rostrum/rostrumlaw09.PaxosGone", spec := "paxosGone", unfollowed := true, recurses := true, apart := false }
def PaxosGoneSaid : Prop := paxosGoneRow.holds Try.pinned (OpenSpec.ofChange paxosGoneSpec)

/-- ITS FALSE NEIGHBOUR: 'it returns false'. Refute it at one input. -/
def paxosGoneWrong : ChangeSpec := { name := "paxosGone", fn := fun _ => fun
  | [d1, d2] => { results := [.lit (.bool false)], args := [d1, d2] }
  | _ => none }
def PaxosGoneWrongFalsely : Prop := paxosGoneRow.holds Try.pinned (OpenSpec.ofChange paxosGoneWrong)

/-- 'rostrumlaw09.PaxosCuts': WHATEVER THE INPUT: true; the input reads as it did. -/
def paxosCutsSpec : ChangeSpec := { name := "paxosCuts", fn := fun _ => fun
  | [d1, d2] => { results := [.lit (.bool true)], args := [d1, d2] }
  | _ => none }
def paxosCutsRow : OpenClaim := { program := "ytlboeaapmfpipaa", sum := "df546b09095d7ed7d71fdc4d498add1b83464fbed126743bfbdb5f97eb2f17af", func := "rostrum/rostrumlaw09.PaxosCuts", spec := "paxosCuts", unfollowed := true, recurses := true, apart := false }
def PaxosCutsSaid : Prop := paxosCutsRow.holds Try.pinned (OpenSpec.ofChange paxosCutsSpec)

/-- ITS FALSE NEIGHBOUR: 'it returns false'. Refute it at one input. -/
def paxosCutsWrong : ChangeSpec := { name := "paxosCuts", fn := fun _ => fun
  | [d1, d2] => { results := [.lit (.bool false)], args := [d1, d2] }
  | _ => none }
def PaxosCutsWrongFalsely : Prop := paxosCutsRow.holds Try.pinned (OpenSpec.ofChange paxosCutsWrong)

/-- 'rostrumlaw09.PaxosReplays': WHATEVER THE INPUT: true; the input reads as it did. -/
def paxosReplaysSpec : ChangeSpec := { name := "paxosReplays", fn := fun _ => fun
  | [d] => { results := [.lit (.bool true)], args := [d] }
  | _ => none }
def paxosReplaysRow : OpenClaim := { program := "ytlboeaapmfpipaa", sum := "df546b09095d7ed7d71fdc4d498add1b83464fbed126743bfbdb5f97eb2f17af", func := "rostrum/rostrumlaw09.PaxosReplays", spec := "paxosReplays", unfollowed := true, recurses := true, apart := false }
def PaxosReplaysSaid : Prop := paxosReplaysRow.holds Try.pinned (OpenSpec.ofChange paxosReplaysSpec)

/-- ITS FALSE NEIGHBOUR: 'it returns false'. Refute it at one input. -/
def paxosReplaysWrong : ChangeSpec := { name := "paxosReplays", fn := fun _ => fun
  | [d] => { results := [.lit (.bool false)], args := [d] }
  | _ => none }
def PaxosReplaysWrongFalsely : Prop := paxosReplaysRow.holds Try.pinned (OpenSpec.ofChange paxosReplaysWrong)

/-- 'rostrumlaw09.PaxosLearns': WHATEVER THE INPUT: true; the input reads as it did. -/
def paxosLearnsSpec : ChangeSpec := { name := "paxosLearns", fn := fun _ => fun
  | [d] => { results := [.lit (.bool true)], args := [d] }
  | _ => none }
def paxosLearnsRow : OpenClaim := { program := "ytlboeaapmfpipaa", sum := "df546b09095d7ed7d71fdc4d498add1b83464fbed126743bfbdb5f97eb2f17af", func := "rostrum/rostrumlaw09.PaxosLearns", spec := "paxosLearns", unfollowed := true, recurses := true, apart := false }
def PaxosLearnsSaid : Prop := paxosLearnsRow.holds Try.pinned (OpenSpec.ofChange paxosLearnsSpec)

/-- ITS FALSE NEIGHBOUR: 'it returns false'. Refute it at one input. -/
def paxosLearnsWrong : ChangeSpec := { name := "paxosLearns", fn := fun _ => fun
  | [d] => { results := [.lit (.bool false)], args := [d] }
  | _ => none }
def PaxosLearnsWrongFalsely : Prop := paxosLearnsRow.holds Try.pinned (OpenSpec.ofChange paxosLearnsWrong)

/-- 'rostrumlaw09.PaxosNone': WHATEVER THE INPUT: true; the input reads as it did. -/
def paxosNoneSpec : ChangeSpec := { name := "paxosNone", fn := fun _ => fun
  | [d] => { results := [.lit (.bool true)], args := [d] }
  | _ => none }
def paxosNoneRow : OpenClaim := { program := "ytlboeaapmfpipaa", sum := "df546b09095d7ed7d71fdc4d498add1b83464fbed126743bfbdb5f97eb2f17af", func := "rostrum/rostrumlaw09.PaxosNone", spec := "paxosNone", unfollowed := true, recurses := true, apart := false }
def PaxosNoneSaid : Prop := paxosNoneRow.holds Try.pinned (OpenSpec.ofChange paxosNoneSpec)

/-- ITS FALSE NEIGHBOUR: 'it returns false'. Refute it at one input. -/
def paxosNoneWrong : ChangeSpec := { name := "paxosNone", fn := fun _ => fun
  | [d] => { results := [.lit (.bool false)], args := [d] }
  | _ => none }
def PaxosNoneWrongFalsely : Prop := paxosNoneRow.holds Try.pinned (OpenSpec.ofChange paxosNoneWrong)

/- THE SECOND FORM. 'bulk': how many values and letters a reading holds, each counted each time it is reached (what is shared counts as often as it is met; a slice's spare places count too). A statement '..UptoSaid' is the law's where the arguments, and the package variables that the reading takes, are together of bulk at most 1048576: NARROWER than '..Said'. Prove '..Said' where nothing that the law and all that it calls make is longer than what came in: it says more and counts as full. Else prove '..UptoSaid'. A law counts once. -/
mutual
def uptoBulk {H : Type} : DataW H → Nat
  | .lit (.string bytes) => bytes.length + 1
  | .lit _ => 1
  | .nil => 1
  | .ptr d => uptoBulk d + 1
  | .slice elems spare => uptoBulkAll elems + uptoBulkAll spare + 1
  | .agg parts => uptoBulkAll parts + 1
  | .iface _ d => uptoBulk d + 1
  | .map entries => uptoBulkEntries entries + 1
  | .held _ => 1
def uptoBulkAll {H : Type} : List (DataW H) → Nat
  | [] => 0
  | d :: r => uptoBulk d + uptoBulkAll r
def uptoBulkEntries {H : Type} : List (Lit × DataW H) → Nat
  | [] => 0
  | x :: r => uptoBulkEntry x + uptoBulkEntries r
def uptoBulkEntry {H : Type} : Lit × DataW H → Nat
  | (.string bytes, d) => bytes.length + uptoBulk d + 1
  | (_, d) => uptoBulk d + 1
 end
def uptoSmall : (H : Type) → List (DataW H) → Bool := fun _ ds => decide (uptoBulkAll ds ≤ 1048576)
def OpenSpec.upto (s : _root_.Go.ChangeSpec) : _root_.Go.OpenSpec := { _root_.Go.OpenSpec.ofChange s with cond := some uptoSmall }

/-- 'rostrumlaw09.PaxosFresh', WHERE WHAT IT READS IS OF BULK AT MOST 1048576: true; the input reads as it did. -/
def paxosFreshUptoRow : OpenClaim := { program := "ytlboeaapmfpipaa", sum := "df546b09095d7ed7d71fdc4d498add1b83464fbed126743bfbdb5f97eb2f17af", func := "rostrum/rostrumlaw09.PaxosFresh", spec := "paxosFresh", unfollowed := true, recurses := true, apart := false, narrowed := true }
def PaxosFreshUptoSaid : Prop := paxosFreshUptoRow.holds Try.pinned (OpenSpec.upto paxosFreshSpec)

/-- 'rostrumlaw09.PaxosGone', WHERE WHAT IT READS IS OF BULK AT MOST 1048576: true; the input reads as it did. -/
def paxosGoneUptoRow : OpenClaim := { program := "ytlboeaapmfpipaa", sum := "df546b09095d7ed7d71fdc4d498add1b83464fbed126743bfbdb5f97eb2f17af", func := "rostrum/rostrumlaw09.PaxosGone", spec := "paxosGone", unfollowed := true, recurses := true, apart := false, narrowed := true }
def PaxosGoneUptoSaid : Prop := paxosGoneUptoRow.holds Try.pinned (OpenSpec.upto paxosGoneSpec)

/-- 'rostrumlaw09.PaxosCuts', WHERE WHAT IT READS IS OF BULK AT MOST 1048576: true; the input reads as it did. -/
def paxosCutsUptoRow : OpenClaim := { program := "ytlboeaapmfpipaa", sum := "df546b09095d7ed7d71fdc4d498add1b83464fbed126743bfbdb5f97eb2f17af", func := "rostrum/rostrumlaw09.PaxosCuts", spec := "paxosCuts", unfollowed := true, recurses := true, apart := false, narrowed := true }
def PaxosCutsUptoSaid : Prop := paxosCutsUptoRow.holds Try.pinned (OpenSpec.upto paxosCutsSpec)

/-- 'rostrumlaw09.PaxosReplays', WHERE WHAT IT READS IS OF BULK AT MOST 1048576: true; the input reads as it did. -/
def paxosReplaysUptoRow : OpenClaim := { program := "ytlboeaapmfpipaa", sum := "df546b09095d7ed7d71fdc4d498add1b83464fbed126743bfbdb5f97eb2f17af", func := "rostrum/rostrumlaw09.PaxosReplays", spec := "paxosReplays", unfollowed := true, recurses := true, apart := false, narrowed := true }
def PaxosReplaysUptoSaid : Prop := paxosReplaysUptoRow.holds Try.pinned (OpenSpec.upto paxosReplaysSpec)

/-- 'rostrumlaw09.PaxosLearns', WHERE WHAT IT READS IS OF BULK AT MOST 1048576: true; the input reads as it did. -/
def paxosLearnsUptoRow : OpenClaim := { program := "ytlboeaapmfpipaa", sum := "df546b09095d7ed7d71fdc4d498add1b83464fbed126743bfbdb5f97eb2f17af", func := "rostrum/rostrumlaw09.PaxosLearns", spec := "paxosLearns", unfollowed := true, recurses := true, apart := false, narrowed := true }
def PaxosLearnsUptoSaid : Prop := paxosLearnsUptoRow.holds Try.pinned (OpenSpec.upto paxosLearnsSpec)

/-- 'rostrumlaw09.PaxosNone', WHERE WHAT IT READS IS OF BULK AT MOST 1048576: true; the input reads as it did. -/
def paxosNoneUptoRow : OpenClaim := { program := "ytlboeaapmfpipaa", sum := "df546b09095d7ed7d71fdc4d498add1b83464fbed126743bfbdb5f97eb2f17af", func := "rostrum/rostrumlaw09.PaxosNone", spec := "paxosNone", unfollowed := true, recurses := true, apart := false, narrowed := true }
def PaxosNoneUptoSaid : Prop := paxosNoneUptoRow.holds Try.pinned (OpenSpec.upto paxosNoneSpec)

end Rows
end Go.Proofs.Ytlboeaapmfpipaa
