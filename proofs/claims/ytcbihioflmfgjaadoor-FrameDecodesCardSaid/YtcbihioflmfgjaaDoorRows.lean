/-
  NARROWER THAN 'FOR EVERY INPUT', by the rows' own cells (each row's printed sentence says how): FrameBytes: laid · FrameDecodes: laid · FrameBack: laid · FrameLong: laid · FrameSizes: laid · FrameTurns: laid · FrameKeeps: laid · FrameFinds: laid.
  DERIVED. THE GIVEN ROWS OF THIS SEAT. 8 by the template 'for every input the law returns true; each argument reads behind the call as it read before'; 0 by the template 'total and deterministic' (their statements: YtcbihioflmfgjaaDoorTotals.lean).
  GIVEN WITH THE SEED: the statements are not yours to turn. If you find one false, say at which input.
  Laid BY PROGRAM, IN A SANDBOX (cutbox-rows.mjs): the forced cells as the released guide's own fill.sh prints them over the translation 519c0fbb9a814ff3… (all of the seat's roots in one cut). By AI agents, Wed Nov 11 2026. No macro, syntax, notation, axiom, sorry.
-/
import Derived.Test.YtcbihioflmfgjaaDoorChecked
import GoSem.Claim
import GoSem.ClaimJoined
import GoSem.ClaimMapViews
import Derived.JoinedTies
import Derived.KernelRfl
namespace Go.Proofs.YtcbihioflmfgjaaDoor
/- THE CELL 'sum', in the pinned program and in every row, IS THE sha256 OF THE DUMP (.gsa) THAT YtcbihioflmfgjaaDoorProg.lean LOADS. Nothing in Lean hashes anything: it is a label: what it is worth is what the hold of that sum in a sandbox is worth. -/
noncomputable def Tryd.pinned : Pinned := { name := "ytcbihioflmfgjaadoor", sum := "519c0fbb9a814ff39367368c8434e2a2537847c53d4bb93f33b65c625af03b8f", checked := Tryd.checked }
namespace Rows
def none {H : Type} : Left H := { results := [], args := [] }

/- WHAT THE LISTED PACKAGE-LEVEL VARIABLES READ AS WHEN THE CALL BEGINS. Each datum BY PROGRAM (the guide's laid-datum.mjs) off the statement by which the dump's own 'gosem.cut.vars' lays the variable. In a bare row this is a premise. The card (YtcbihioflmfgjaaDoorCards.lean) ties it to the program's text. -/
def laid_rostrum_frame_errFrame {H : Type} : DataW H := .iface "*errors.errorString" (.ptr (.agg [.lit (.string [110, 111, 32, 102, 114, 97, 109, 101])]))
def laid_rostrum_frame_errOld {H : Type} : DataW H := .iface "*errors.errorString" (.ptr (.agg [.lit (.string [110, 111, 32, 118, 101, 114, 115, 105, 111, 110, 32, 111, 102, 32, 116, 104, 101, 32, 119, 105, 114, 101])]))

/-- 'rostrumlaw02.FrameBytes': WHATEVER THE INPUT: true; the input reads as it did. -/
def frameBytesSpec : ChangeSpec := { name := "frameBytes", fn := fun _ => fun
  | [d] => { results := [.lit (.bool true)], args := [d] }
  | _ => none }
def frameBytesRow : OpenClaim := { program := "ytcbihioflmfgjaadoor", sum := "519c0fbb9a814ff39367368c8434e2a2537847c53d4bb93f33b65c625af03b8f", func := "rostrum/rostrumlaw02.FrameBytes", spec := "frameBytes", inPlace := ["internal/reflectlite.TypeOf"], unfollowed := true, recurses := true, named := ["rostrum/frame.errFrame", "rostrum/frame.errOld"], plainKeys := false, apart := false, laid := [("rostrum/frame.errFrame", laid_rostrum_frame_errFrame), ("rostrum/frame.errOld", laid_rostrum_frame_errOld)] }
def FrameBytesSaid : Prop := frameBytesRow.holds Tryd.pinned (OpenSpec.ofChange frameBytesSpec)

/-- ITS FALSE NEIGHBOUR: 'it returns false'. Refute it at one input. -/
def frameBytesWrong : ChangeSpec := { name := "frameBytes", fn := fun _ => fun
  | [d] => { results := [.lit (.bool false)], args := [d] }
  | _ => none }
def FrameBytesWrongFalsely : Prop := frameBytesRow.holds Tryd.pinned (OpenSpec.ofChange frameBytesWrong)

/-- 'rostrumlaw02.FrameDecodes': WHATEVER THE INPUT: true; the input reads as it did. -/
def frameDecodesSpec : ChangeSpec := { name := "frameDecodes", fn := fun _ => fun
  | [d1, d2] => { results := [.lit (.bool true)], args := [d1, d2] }
  | _ => none }
def frameDecodesRow : OpenClaim := { program := "ytcbihioflmfgjaadoor", sum := "519c0fbb9a814ff39367368c8434e2a2537847c53d4bb93f33b65c625af03b8f", func := "rostrum/rostrumlaw02.FrameDecodes", spec := "frameDecodes", inPlace := ["internal/reflectlite.TypeOf"], unfollowed := true, recurses := true, named := ["rostrum/frame.errFrame", "rostrum/frame.errOld"], plainKeys := false, apart := false, laid := [("rostrum/frame.errFrame", laid_rostrum_frame_errFrame), ("rostrum/frame.errOld", laid_rostrum_frame_errOld)] }
def FrameDecodesSaid : Prop := frameDecodesRow.holds Tryd.pinned (OpenSpec.ofChange frameDecodesSpec)

/-- ITS FALSE NEIGHBOUR: 'it returns false'. Refute it at one input. -/
def frameDecodesWrong : ChangeSpec := { name := "frameDecodes", fn := fun _ => fun
  | [d1, d2] => { results := [.lit (.bool false)], args := [d1, d2] }
  | _ => none }
def FrameDecodesWrongFalsely : Prop := frameDecodesRow.holds Tryd.pinned (OpenSpec.ofChange frameDecodesWrong)

/-- 'rostrumlaw02.FrameBack': WHATEVER THE INPUT: true; the input reads as it did. -/
def frameBackSpec : ChangeSpec := { name := "frameBack", fn := fun _ => fun
  | [d1, d2] => { results := [.lit (.bool true)], args := [d1, d2] }
  | _ => none }
def frameBackRow : OpenClaim := { program := "ytcbihioflmfgjaadoor", sum := "519c0fbb9a814ff39367368c8434e2a2537847c53d4bb93f33b65c625af03b8f", func := "rostrum/rostrumlaw02.FrameBack", spec := "frameBack", inPlace := ["internal/reflectlite.TypeOf"], unfollowed := true, recurses := true, named := ["rostrum/frame.errFrame", "rostrum/frame.errOld"], plainKeys := false, apart := false, laid := [("rostrum/frame.errFrame", laid_rostrum_frame_errFrame), ("rostrum/frame.errOld", laid_rostrum_frame_errOld)] }
def FrameBackSaid : Prop := frameBackRow.holds Tryd.pinned (OpenSpec.ofChange frameBackSpec)

/-- ITS FALSE NEIGHBOUR: 'it returns false'. Refute it at one input. -/
def frameBackWrong : ChangeSpec := { name := "frameBack", fn := fun _ => fun
  | [d1, d2] => { results := [.lit (.bool false)], args := [d1, d2] }
  | _ => none }
def FrameBackWrongFalsely : Prop := frameBackRow.holds Tryd.pinned (OpenSpec.ofChange frameBackWrong)

/-- 'rostrumlaw02.FrameLong': WHATEVER THE INPUT: true; the input reads as it did. -/
def frameLongSpec : ChangeSpec := { name := "frameLong", fn := fun _ => fun
  | [d1, d2] => { results := [.lit (.bool true)], args := [d1, d2] }
  | _ => none }
def frameLongRow : OpenClaim := { program := "ytcbihioflmfgjaadoor", sum := "519c0fbb9a814ff39367368c8434e2a2537847c53d4bb93f33b65c625af03b8f", func := "rostrum/rostrumlaw02.FrameLong", spec := "frameLong", inPlace := ["internal/reflectlite.TypeOf"], unfollowed := true, recurses := true, named := ["rostrum/frame.errFrame", "rostrum/frame.errOld"], plainKeys := false, apart := false, laid := [("rostrum/frame.errFrame", laid_rostrum_frame_errFrame), ("rostrum/frame.errOld", laid_rostrum_frame_errOld)] }
def FrameLongSaid : Prop := frameLongRow.holds Tryd.pinned (OpenSpec.ofChange frameLongSpec)

/-- ITS FALSE NEIGHBOUR: 'it returns false'. Refute it at one input. -/
def frameLongWrong : ChangeSpec := { name := "frameLong", fn := fun _ => fun
  | [d1, d2] => { results := [.lit (.bool false)], args := [d1, d2] }
  | _ => none }
def FrameLongWrongFalsely : Prop := frameLongRow.holds Tryd.pinned (OpenSpec.ofChange frameLongWrong)

/-- 'rostrumlaw02.FrameSizes': WHATEVER THE INPUT: true; the input reads as it did. -/
def frameSizesSpec : ChangeSpec := { name := "frameSizes", fn := fun _ => fun
  | [d] => { results := [.lit (.bool true)], args := [d] }
  | _ => none }
def frameSizesRow : OpenClaim := { program := "ytcbihioflmfgjaadoor", sum := "519c0fbb9a814ff39367368c8434e2a2537847c53d4bb93f33b65c625af03b8f", func := "rostrum/rostrumlaw02.FrameSizes", spec := "frameSizes", inPlace := ["internal/reflectlite.TypeOf"], unfollowed := true, recurses := true, named := ["rostrum/frame.errFrame", "rostrum/frame.errOld"], plainKeys := false, apart := false, laid := [("rostrum/frame.errFrame", laid_rostrum_frame_errFrame), ("rostrum/frame.errOld", laid_rostrum_frame_errOld)] }
def FrameSizesSaid : Prop := frameSizesRow.holds Tryd.pinned (OpenSpec.ofChange frameSizesSpec)

/-- ITS FALSE NEIGHBOUR: 'it returns false'. Refute it at one input. -/
def frameSizesWrong : ChangeSpec := { name := "frameSizes", fn := fun _ => fun
  | [d] => { results := [.lit (.bool false)], args := [d] }
  | _ => none }
def FrameSizesWrongFalsely : Prop := frameSizesRow.holds Tryd.pinned (OpenSpec.ofChange frameSizesWrong)

/-- 'rostrumlaw02.FrameTurns': WHATEVER THE INPUT: true; the input reads as it did. -/
def frameTurnsSpec : ChangeSpec := { name := "frameTurns", fn := fun _ => fun
  | [d1, d2, d3] => { results := [.lit (.bool true)], args := [d1, d2, d3] }
  | _ => none }
def frameTurnsRow : OpenClaim := { program := "ytcbihioflmfgjaadoor", sum := "519c0fbb9a814ff39367368c8434e2a2537847c53d4bb93f33b65c625af03b8f", func := "rostrum/rostrumlaw02.FrameTurns", spec := "frameTurns", inPlace := ["internal/reflectlite.TypeOf"], unfollowed := true, recurses := true, named := ["rostrum/frame.errFrame", "rostrum/frame.errOld"], plainKeys := false, apart := false, laid := [("rostrum/frame.errFrame", laid_rostrum_frame_errFrame), ("rostrum/frame.errOld", laid_rostrum_frame_errOld)] }
def FrameTurnsSaid : Prop := frameTurnsRow.holds Tryd.pinned (OpenSpec.ofChange frameTurnsSpec)

/-- ITS FALSE NEIGHBOUR: 'it returns false'. Refute it at one input. -/
def frameTurnsWrong : ChangeSpec := { name := "frameTurns", fn := fun _ => fun
  | [d1, d2, d3] => { results := [.lit (.bool false)], args := [d1, d2, d3] }
  | _ => none }
def FrameTurnsWrongFalsely : Prop := frameTurnsRow.holds Tryd.pinned (OpenSpec.ofChange frameTurnsWrong)

/-- 'rostrumlaw02.FrameKeeps': WHATEVER THE INPUT: true; the input reads as it did. -/
def frameKeepsSpec : ChangeSpec := { name := "frameKeeps", fn := fun _ => fun
  | [d] => { results := [.lit (.bool true)], args := [d] }
  | _ => none }
def frameKeepsRow : OpenClaim := { program := "ytcbihioflmfgjaadoor", sum := "519c0fbb9a814ff39367368c8434e2a2537847c53d4bb93f33b65c625af03b8f", func := "rostrum/rostrumlaw02.FrameKeeps", spec := "frameKeeps", inPlace := ["internal/reflectlite.TypeOf"], unfollowed := true, recurses := true, named := ["rostrum/frame.errFrame", "rostrum/frame.errOld"], plainKeys := false, apart := false, laid := [("rostrum/frame.errFrame", laid_rostrum_frame_errFrame), ("rostrum/frame.errOld", laid_rostrum_frame_errOld)] }
def FrameKeepsSaid : Prop := frameKeepsRow.holds Tryd.pinned (OpenSpec.ofChange frameKeepsSpec)

/-- ITS FALSE NEIGHBOUR: 'it returns false'. Refute it at one input. -/
def frameKeepsWrong : ChangeSpec := { name := "frameKeeps", fn := fun _ => fun
  | [d] => { results := [.lit (.bool false)], args := [d] }
  | _ => none }
def FrameKeepsWrongFalsely : Prop := frameKeepsRow.holds Tryd.pinned (OpenSpec.ofChange frameKeepsWrong)

/-- 'rostrumlaw02.FrameFinds': WHATEVER THE INPUT: true; the input reads as it did. -/
def frameFindsSpec : ChangeSpec := { name := "frameFinds", fn := fun _ => fun
  | [d1, d2, d3] => { results := [.lit (.bool true)], args := [d1, d2, d3] }
  | _ => none }
def frameFindsRow : OpenClaim := { program := "ytcbihioflmfgjaadoor", sum := "519c0fbb9a814ff39367368c8434e2a2537847c53d4bb93f33b65c625af03b8f", func := "rostrum/rostrumlaw02.FrameFinds", spec := "frameFinds", inPlace := ["internal/reflectlite.TypeOf"], unfollowed := true, recurses := true, named := ["rostrum/frame.errFrame", "rostrum/frame.errOld"], plainKeys := false, apart := false, laid := [("rostrum/frame.errFrame", laid_rostrum_frame_errFrame), ("rostrum/frame.errOld", laid_rostrum_frame_errOld)] }
def FrameFindsSaid : Prop := frameFindsRow.holds Tryd.pinned (OpenSpec.ofChange frameFindsSpec)

/-- ITS FALSE NEIGHBOUR: 'it returns false'. Refute it at one input. -/
def frameFindsWrong : ChangeSpec := { name := "frameFinds", fn := fun _ => fun
  | [d1, d2, d3] => { results := [.lit (.bool false)], args := [d1, d2, d3] }
  | _ => none }
def FrameFindsWrongFalsely : Prop := frameFindsRow.holds Tryd.pinned (OpenSpec.ofChange frameFindsWrong)

/- THE SECOND FORM. 'bulk': how many values and letters a reading holds, each counted each time it is reached (what is shared counts as often as it is met; a slice's spare places count too). A statement '..UptoSaid' is the law's where the arguments, and the package variables that the reading takes, are together of bulk at most 1048576: NARROWER than '..Said'. Prove '..Said' where nothing that the law and all that it calls make is longer than what came in: it says more and counts as full. Else prove '..UptoSaid'. A law counts once. -/
mutual
def uptoBulk {H : Type} : DataW H → Nat
  | .lit (.string bytes) => bytes.length + 1
  | .lit _ => 1
  | .nil => 1
  | .ptr d => uptoBulk d + 1
  | .slice elems spare => uptoBulkAll elems + uptoBulkAll spare + 1
  | .agg parts => uptoBulkAll parts + 1
  | .iface _ d => uptoBulk d + 1
  | .map entries => uptoBulkEntries entries + 1
  | .held _ => 1
def uptoBulkAll {H : Type} : List (DataW H) → Nat
  | [] => 0
  | d :: r => uptoBulk d + uptoBulkAll r
def uptoBulkEntries {H : Type} : List (Lit × DataW H) → Nat
  | [] => 0
  | x :: r => uptoBulkEntry x + uptoBulkEntries r
def uptoBulkEntry {H : Type} : Lit × DataW H → Nat
  | (.string bytes, d) => bytes.length + uptoBulk d + 1
  | (_, d) => uptoBulk d + 1
 end
def uptoSmall : (H : Type) → List (DataW H) → Bool := fun _ ds => decide (uptoBulkAll ds ≤ 1048576)
def OpenSpec.upto (s : _root_.Go.ChangeSpec) : _root_.Go.OpenSpec := { _root_.Go.OpenSpec.ofChange s with cond := some uptoSmall }

/-- 'rostrumlaw02.FrameBytes', WHERE WHAT IT READS IS OF BULK AT MOST 1048576: true; the input reads as it did. -/
def frameBytesUptoRow : OpenClaim := { program := "ytcbihioflmfgjaadoor", sum := "519c0fbb9a814ff39367368c8434e2a2537847c53d4bb93f33b65c625af03b8f", func := "rostrum/rostrumlaw02.FrameBytes", spec := "frameBytes", inPlace := ["internal/reflectlite.TypeOf"], unfollowed := true, recurses := true, named := ["rostrum/frame.errFrame", "rostrum/frame.errOld"], plainKeys := false, apart := false, laid := [("rostrum/frame.errFrame", laid_rostrum_frame_errFrame), ("rostrum/frame.errOld", laid_rostrum_frame_errOld)], narrowed := true }
def FrameBytesUptoSaid : Prop := frameBytesUptoRow.holds Tryd.pinned (OpenSpec.upto frameBytesSpec)

/-- 'rostrumlaw02.FrameDecodes', WHERE WHAT IT READS IS OF BULK AT MOST 1048576: true; the input reads as it did. -/
def frameDecodesUptoRow : OpenClaim := { program := "ytcbihioflmfgjaadoor", sum := "519c0fbb9a814ff39367368c8434e2a2537847c53d4bb93f33b65c625af03b8f", func := "rostrum/rostrumlaw02.FrameDecodes", spec := "frameDecodes", inPlace := ["internal/reflectlite.TypeOf"], unfollowed := true, recurses := true, named := ["rostrum/frame.errFrame", "rostrum/frame.errOld"], plainKeys := false, apart := false, laid := [("rostrum/frame.errFrame", laid_rostrum_frame_errFrame), ("rostrum/frame.errOld", laid_rostrum_frame_errOld)], narrowed := true }
def FrameDecodesUptoSaid : Prop := frameDecodesUptoRow.holds Tryd.pinned (OpenSpec.upto frameDecodesSpec)

/-- 'rostrumlaw02.FrameBack', WHERE WHAT IT READS IS OF BULK AT MOST 1048576: true; the input reads as it did. -/
def frameBackUptoRow : OpenClaim := { program := "ytcbihioflmfgjaadoor", sum := "519c0fbb9a814ff39367368c8434e2a2537847c53d4bb93f33b65c625af03b8f", func := "rostrum/rostrumlaw02.FrameBack", spec := "frameBack", inPlace := ["internal/reflectlite.TypeOf"], unfollowed := true, recurses := true, named := ["rostrum/frame.errFrame", "rostrum/frame.errOld"], plainKeys := false, apart := false, laid := [("rostrum/frame.errFrame", laid_rostrum_frame_errFrame), ("rostrum/frame.errOld", laid_rostrum_frame_errOld)], narrowed := true }
def FrameBackUptoSaid : Prop := frameBackUptoRow.holds Tryd.pinned (OpenSpec.upto frameBackSpec)

/-- 'rostrumlaw02.FrameLong', WHERE WHAT IT READS IS OF BULK AT MOST 1048576: true; the input reads as it did. -/
def frameLongUptoRow : OpenClaim := { program := "ytcbihioflmfgjaadoor", sum := "519c0fbb9a814ff39367368c8434e2a2537847c53d4bb93f33b65c625af03b8f", func := "rostrum/rostrumlaw02.FrameLong", spec := "frameLong", inPlace := ["internal/reflectlite.TypeOf"], unfollowed := true, recurses := true, named := ["rostrum/frame.errFrame", "rostrum/frame.errOld"], plainKeys := false, apart := false, laid := [("rostrum/frame.errFrame", laid_rostrum_frame_errFrame), ("rostrum/frame.errOld", laid_rostrum_frame_errOld)], narrowed := true }
def FrameLongUptoSaid : Prop := frameLongUptoRow.holds Tryd.pinned (OpenSpec.upto frameLongSpec)

/-- 'rostrumlaw02.FrameSizes', WHERE WHAT IT READS IS OF BULK AT MOST 1048576: true; the input reads as it did. -/
def frameSizesUptoRow : OpenClaim := { program := "ytcbihioflmfgjaadoor", sum := "519c0fbb9a814ff39367368c8434e2a2537847c53d4bb93f33b65c625af03b8f", func := "rostrum/rostrumlaw02.FrameSizes", spec := "frameSizes", inPlace := ["internal/reflectlite.TypeOf"], unfollowed := true, recurses := true, named := ["rostrum/frame.errFrame", "rostrum/frame.errOld"], plainKeys := false, apart := false, laid := [("rostrum/frame.errFrame", laid_rostrum_frame_errFrame), ("rostrum/frame.errOld", laid_rostrum_frame_errOld)], narrowed := true }
def FrameSizesUptoSaid : Prop := frameSizesUptoRow.holds Tryd.pinned (OpenSpec.upto frameSizesSpec)

/-- 'rostrumlaw02.FrameTurns', WHERE WHAT IT READS IS OF BULK AT MOST 1048576: true; the input reads as it did. -/
def frameTurnsUptoRow : OpenClaim := { program := "ytcbihioflmfgjaadoor", sum := "519c0fbb9a814ff39367368c8434e2a2537847c53d4bb93f33b65c625af03b8f", func := "rostrum/rostrumlaw02.FrameTurns", spec := "frameTurns", inPlace := ["internal/reflectlite.TypeOf"], unfollowed := true, recurses := true, named := ["rostrum/frame.errFrame", "rostrum/frame.errOld"], plainKeys := false, apart := false, laid := [("rostrum/frame.errFrame", laid_rostrum_frame_errFrame), ("rostrum/frame.errOld", laid_rostrum_frame_errOld)], narrowed := true }
def FrameTurnsUptoSaid : Prop := frameTurnsUptoRow.holds Tryd.pinned (OpenSpec.upto frameTurnsSpec)

/-- 'rostrumlaw02.FrameKeeps', WHERE WHAT IT READS IS OF BULK AT MOST 1048576: true; the input reads as it did. -/
def frameKeepsUptoRow : OpenClaim := { program := "ytcbihioflmfgjaadoor", sum := "519c0fbb9a814ff39367368c8434e2a2537847c53d4bb93f33b65c625af03b8f", func := "rostrum/rostrumlaw02.FrameKeeps", spec := "frameKeeps", inPlace := ["internal/reflectlite.TypeOf"], unfollowed := true, recurses := true, named := ["rostrum/frame.errFrame", "rostrum/frame.errOld"], plainKeys := false, apart := false, laid := [("rostrum/frame.errFrame", laid_rostrum_frame_errFrame), ("rostrum/frame.errOld", laid_rostrum_frame_errOld)], narrowed := true }
def FrameKeepsUptoSaid : Prop := frameKeepsUptoRow.holds Tryd.pinned (OpenSpec.upto frameKeepsSpec)

/-- 'rostrumlaw02.FrameFinds', WHERE WHAT IT READS IS OF BULK AT MOST 1048576: true; the input reads as it did. -/
def frameFindsUptoRow : OpenClaim := { program := "ytcbihioflmfgjaadoor", sum := "519c0fbb9a814ff39367368c8434e2a2537847c53d4bb93f33b65c625af03b8f", func := "rostrum/rostrumlaw02.FrameFinds", spec := "frameFinds", inPlace := ["internal/reflectlite.TypeOf"], unfollowed := true, recurses := true, named := ["rostrum/frame.errFrame", "rostrum/frame.errOld"], plainKeys := false, apart := false, laid := [("rostrum/frame.errFrame", laid_rostrum_frame_errFrame), ("rostrum/frame.errOld", laid_rostrum_frame_errOld)], narrowed := true }
def FrameFindsUptoSaid : Prop := frameFindsUptoRow.holds Tryd.pinned (OpenSpec.upto frameFindsSpec)

end Rows
end Go.Proofs.YtcbihioflmfgjaaDoor
