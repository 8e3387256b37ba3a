/-
  No cell of these rows narrows 'for every input' (looked for: loops, veiled, ifaces, maps, wideKeys, modest, calm, conditions, laid).
  DERIVED. THE GIVEN ROWS OF THIS SEAT. 4 by the template 'for every input the law returns true; each argument reads behind the call as it read before'; 0 by the template 'total and deterministic' (their statements: YtcepdmpdabiglaaTotals.lean).
  GIVEN WITH THE SEED: the statements are not yours to turn. If you find one false, say at which input.
  Laid BY PROGRAM, IN A SANDBOX (cutbox-rows.mjs): the forced cells as the released guide's own fill.sh prints them over the translation 734419fc7cedc9fc… (all of the seat's roots in one cut). By AI agents, Wed Nov 11 2026. No macro, syntax, notation, axiom, sorry.
-/
import Derived.Test.YtcepdmpdabiglaaChecked
import GoSem.Claim
import GoSem.ClaimJoined
import GoSem.ClaimMapViews
import Derived.JoinedTies
import Derived.KernelRfl
namespace Go.Proofs.Ytcepdmpdabiglaa
/- THE CELL 'sum', in the pinned program and in every row, IS THE sha256 OF THE DUMP (.gsa) THAT YtcepdmpdabiglaaProg.lean LOADS. Nothing in Lean hashes anything: it is a label: what it is worth is what the hold of that sum in a sandbox is worth. -/
noncomputable def Try.pinned : Pinned := { name := "ytcepdmpdabiglaa", sum := "734419fc7cedc9fc6cee6d59ac97b2714a41a16a98b264f989b93e6b10ff8564", checked := Try.checked }
namespace Rows
def none {H : Type} : Left H := { results := [], args := [] }

/-- 'rostrumlaw04.StoreAgain': WHATEVER THE INPUT: true; the input reads as it did. -/
def storeAgainSpec : ChangeSpec := { name := "storeAgain", fn := fun _ => fun
  | [d1, d2] => { results := [.lit (.bool true)], args := [d1, d2] }
  | _ => none }
def storeAgainRow : OpenClaim := { program := "ytcepdmpdabiglaa", sum := "734419fc7cedc9fc6cee6d59ac97b2714a41a16a98b264f989b93e6b10ff8564", func := "rostrum/rostrumlaw04.StoreAgain", spec := "storeAgain", unfollowed := true, recurses := true, apart := false }
def StoreAgainSaid : Prop := storeAgainRow.holds Try.pinned (OpenSpec.ofChange storeAgainSpec)

/-- ITS FALSE NEIGHBOUR: 'it returns false'. Refute it at one input. -/
def storeAgainWrong : ChangeSpec := { name := "storeAgain", fn := fun _ => fun
  | [d1, d2] => { results := [.lit (.bool false)], args := [d1, d2] }
  | _ => none }
def StoreAgainWrongFalsely : Prop := storeAgainRow.holds Try.pinned (OpenSpec.ofChange storeAgainWrong)

/-- 'rostrumlaw04.StoreKeeps': WHATEVER THE INPUT: true; the input reads as it did. -/
def storeKeepsSpec : ChangeSpec := { name := "storeKeeps", fn := fun _ => fun
  | [d] => { results := [.lit (.bool true)], args := [d] }
  | _ => none }
def storeKeepsRow : OpenClaim := { program := "ytcepdmpdabiglaa", sum := "734419fc7cedc9fc6cee6d59ac97b2714a41a16a98b264f989b93e6b10ff8564", func := "rostrum/rostrumlaw04.StoreKeeps", spec := "storeKeeps", unfollowed := true, recurses := true, apart := false }
def StoreKeepsSaid : Prop := storeKeepsRow.holds Try.pinned (OpenSpec.ofChange storeKeepsSpec)

/-- ITS FALSE NEIGHBOUR: 'it returns false'. Refute it at one input. -/
def storeKeepsWrong : ChangeSpec := { name := "storeKeeps", fn := fun _ => fun
  | [d] => { results := [.lit (.bool false)], args := [d] }
  | _ => none }
def StoreKeepsWrongFalsely : Prop := storeKeepsRow.holds Try.pinned (OpenSpec.ofChange storeKeepsWrong)

/-- 'rostrumlaw04.StoreCuts': WHATEVER THE INPUT: true; the input reads as it did. -/
def storeCutsSpec : ChangeSpec := { name := "storeCuts", fn := fun _ => fun
  | [d1, d2, d3] => { results := [.lit (.bool true)], args := [d1, d2, d3] }
  | _ => none }
def storeCutsRow : OpenClaim := { program := "ytcepdmpdabiglaa", sum := "734419fc7cedc9fc6cee6d59ac97b2714a41a16a98b264f989b93e6b10ff8564", func := "rostrum/rostrumlaw04.StoreCuts", spec := "storeCuts", unfollowed := true, recurses := true, apart := false }
def StoreCutsSaid : Prop := storeCutsRow.holds Try.pinned (OpenSpec.ofChange storeCutsSpec)

/-- ITS FALSE NEIGHBOUR: 'it returns false'. Refute it at one input. -/
def storeCutsWrong : ChangeSpec := { name := "storeCuts", fn := fun _ => fun
  | [d1, d2, d3] => { results := [.lit (.bool false)], args := [d1, d2, d3] }
  | _ => none }
def StoreCutsWrongFalsely : Prop := storeCutsRow.holds Try.pinned (OpenSpec.ofChange storeCutsWrong)

/-- 'rostrumlaw04.StoreNone': WHATEVER THE INPUT: true; the input reads as it did. -/
def storeNoneSpec : ChangeSpec := { name := "storeNone", fn := fun _ => fun
  | [d1, d2] => { results := [.lit (.bool true)], args := [d1, d2] }
  | _ => none }
def storeNoneRow : OpenClaim := { program := "ytcepdmpdabiglaa", sum := "734419fc7cedc9fc6cee6d59ac97b2714a41a16a98b264f989b93e6b10ff8564", func := "rostrum/rostrumlaw04.StoreNone", spec := "storeNone", unfollowed := true, recurses := true, apart := false }
def StoreNoneSaid : Prop := storeNoneRow.holds Try.pinned (OpenSpec.ofChange storeNoneSpec)

/-- ITS FALSE NEIGHBOUR: 'it returns false'. Refute it at one input. -/
def storeNoneWrong : ChangeSpec := { name := "storeNone", fn := fun _ => fun
  | [d1, d2] => { results := [.lit (.bool false)], args := [d1, d2] }
  | _ => none }
def StoreNoneWrongFalsely : Prop := storeNoneRow.holds Try.pinned (OpenSpec.ofChange storeNoneWrong)

/- THE SECOND FORM. 'bulk': how many values and letters a reading holds, each counted each time it is reached (what is shared counts as often as it is met; a slice's spare places count too). A statement '..UptoSaid' is the law's where the arguments, and the package variables that the reading takes, are together of bulk at most 1048576: NARROWER than '..Said'. Prove '..Said' where nothing that the law and all that it calls make is longer than what came in: it says more and counts as full. Else prove '..UptoSaid'. A law counts once. -/
mutual
def uptoBulk {H : Type} : DataW H → Nat
  | .lit (.string bytes) => bytes.length + 1
  | .lit _ => 1
  | .nil => 1
  | .ptr d => uptoBulk d + 1
  | .slice elems spare => uptoBulkAll elems + uptoBulkAll spare + 1
  | .agg parts => uptoBulkAll parts + 1
  | .iface _ d => uptoBulk d + 1
  | .map entries => uptoBulkEntries entries + 1
  | .held _ => 1
def uptoBulkAll {H : Type} : List (DataW H) → Nat
  | [] => 0
  | d :: r => uptoBulk d + uptoBulkAll r
def uptoBulkEntries {H : Type} : List (Lit × DataW H) → Nat
  | [] => 0
  | x :: r => uptoBulkEntry x + uptoBulkEntries r
def uptoBulkEntry {H : Type} : Lit × DataW H → Nat
  | (.string bytes, d) => bytes.length + uptoBulk d + 1
  | (_, d) => uptoBulk d + 1
 end
def uptoSmall : (H : Type) → List (DataW H) → Bool := fun _ ds => decide (uptoBulkAll ds ≤ 1048576)
def OpenSpec.upto (s : _root_.Go.ChangeSpec) : _root_.Go.OpenSpec := { _root_.Go.OpenSpec.ofChange s with cond := some uptoSmall }

/-- 'rostrumlaw04.StoreAgain', WHERE WHAT IT READS IS OF BULK AT MOST 1048576: true; the input reads as it did. -/
def storeAgainUptoRow : OpenClaim := { program := "ytcepdmpdabiglaa", sum := "734419fc7cedc9fc6cee6d59ac97b2714a41a16a98b264f989b93e6b10ff8564", func := "rostrum/rostrumlaw04.StoreAgain", spec := "storeAgain", unfollowed := true, recurses := true, apart := false, narrowed := true }
def StoreAgainUptoSaid : Prop := storeAgainUptoRow.holds Try.pinned (OpenSpec.upto storeAgainSpec)

/-- 'rostrumlaw04.StoreKeeps', WHERE WHAT IT READS IS OF BULK AT MOST 1048576: true; the input reads as it did. -/
def storeKeepsUptoRow : OpenClaim := { program := "ytcepdmpdabiglaa", sum := "734419fc7cedc9fc6cee6d59ac97b2714a41a16a98b264f989b93e6b10ff8564", func := "rostrum/rostrumlaw04.StoreKeeps", spec := "storeKeeps", unfollowed := true, recurses := true, apart := false, narrowed := true }
def StoreKeepsUptoSaid : Prop := storeKeepsUptoRow.holds Try.pinned (OpenSpec.upto storeKeepsSpec)

/-- 'rostrumlaw04.StoreCuts', WHERE WHAT IT READS IS OF BULK AT MOST 1048576: true; the input reads as it did. -/
def storeCutsUptoRow : OpenClaim := { program := "ytcepdmpdabiglaa", sum := "734419fc7cedc9fc6cee6d59ac97b2714a41a16a98b264f989b93e6b10ff8564", func := "rostrum/rostrumlaw04.StoreCuts", spec := "storeCuts", unfollowed := true, recurses := true, apart := false, narrowed := true }
def StoreCutsUptoSaid : Prop := storeCutsUptoRow.holds Try.pinned (OpenSpec.upto storeCutsSpec)

/-- 'rostrumlaw04.StoreNone', WHERE WHAT IT READS IS OF BULK AT MOST 1048576: true; the input reads as it did. -/
def storeNoneUptoRow : OpenClaim := { program := "ytcepdmpdabiglaa", sum := "734419fc7cedc9fc6cee6d59ac97b2714a41a16a98b264f989b93e6b10ff8564", func := "rostrum/rostrumlaw04.StoreNone", spec := "storeNone", unfollowed := true, recurses := true, apart := false, narrowed := true }
def StoreNoneUptoSaid : Prop := storeNoneUptoRow.holds Try.pinned (OpenSpec.upto storeNoneSpec)

end Rows
end Go.Proofs.Ytcepdmpdabiglaa
