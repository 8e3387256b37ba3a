/-
  What the two sentinels' row gives the walks; the door's own heap meets it. Conditions: none.
-/
import Derived.Test.YtcbihioflmfgjaaDoorFrmA
import Derived.Test.YtcbihioflmfgjaaDoorRows
import Derived.Stop.LaidTwo
import Derived.LaidMore
import Derived.LaidLaws
import Derived.ProofKit
namespace Go.Proofs.YtcbihioflmfgjaaDoor
open Go.RowKit Go.Shelf Ros Go.ChangeShapes Go.WideShapes Go.ChangeAt
/-- The two sentinels' names, and their kind's, as the row lists them. -/
def nm0 : String := Rows.frameBytesRow.named.headD ""
def nm1 : String := Rows.frameBytesRow.named.tail.headD ""
def nmT : String := match (Rows.laid_rostrum_frame_errFrame : DataW Unit) with
  | .iface n _ => n
  | _ => ""
def laid2 : List (String × DataW Unit) := [(nm0, Rows.laid_rostrum_frame_errFrame), (nm1, Rows.laid_rostrum_frame_errOld)]
theorem gFrame : Tryd.prog.globalNamed nm0 = some 0 := by kernel_rfl
theorem gOld : Tryd.prog.globalNamed nm1 = some 1 := by kernel_rfl
theorem tFrame : (Tryd.prog.globals[0]?).map (·.type) = some 53 := by kernel_rfl
theorem tOld : (Tryd.prog.globals[1]?).map (·.type) = some 53 := by kernel_rfl
theorem rowErr (u : TypeId) (h : Tryd.prog.typeName? 3 u = some nmT) : u = 96 :=
  typeName_ptr_named (nm := "errors.errorString") (by kernel_rfl) (by kernel_rfl) (by decide) u (h.trans (by kernel_rfl))
theorem cellsErr : Tryd.prog.cellsOf 121 = 1 := by kernel_rfl
theorem cellsStr : Tryd.prog.cellsOf 9 = 1 := by kernel_rfl
theorem snt_of_laid {W : World} (h : laidMetH Tryd.prog laid2 W) : ∃ a0 a1, Snt W a0 a1 := by
  rw [MakeChecks.laidMetH_plain _ _ _ (by kernel_rfl)] at h
  obtain ⟨a0, a1, s0, s1, c0, c1, t0, t1, hv0, hv1, _, _, _, _, _, _, hne, hb0, hb1⟩ := laid_sentinels2 h gFrame tFrame gOld tOld Tryd.underlying53 rowErr Tryd.underlying96 Tryd.underlying121 rfl rfl Tryd.underlying9 cellsErr cellsStr
  refine ⟨a0, a1, ?_, ?_, hne, ⟨c0, t0, hb0⟩, ⟨c1, t1, hb1⟩⟩
  · have := World.var?_cell gFrame hv0 0
    simpa using this
  · have := World.var?_cell gOld hv1 0
    simpa using this
/-- The door's own heap meets the condition. -/
theorem door_met (os : Os) (args : Array Value) : laidMetH Tryd.prog laid2 ((World.doorLaid Tryd.prog 47 os).forCall (fun _ _ => 0) ⟨#[], args, []⟩).memory :=
  laidMetH_of_parts3 (fuel := 8) (laidMet_of_run' 8 (by kernel_rfl) (by kernel_rfl)) (by kernel_rfl) (by kernel_rfl)
end Go.Proofs.YtcbihioflmfgjaaDoor
