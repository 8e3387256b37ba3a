/-
  Texts joined; a record's bytes, by journal and by its reference. Conditions: strings are at most as long as Go allows.
-/
import Derived.Test.YtlboeaapmfpipaaJouP
import Derived.Test.YtlboeaapmfpipaaArg
import Derived.Deep.RegionLaw
import Derived.Deep.RegionHeld3
import Derived.Deep.DeepCutAuto
namespace Ros
open Go Go.RowKit
theorem ArgAt.fresh {W : World} {t : TypeId} {fz : Nat × Nat} (vs : List Value) : ArgAt (W.alloc (.cells vs.toArray t fz)) 1 (some ⟨W.heap.size, 0, none⟩) vs.length vs := by
  refine ⟨by simp, fun _ => ⟨_, rfl, by simp, fun j u hu => ?_⟩⟩
  rw [addr_add, Nat.zero_add, cell_row (World.alloc_heap_new W _)]
  simpa using hu
theorem rec_str (s : ByteArray) : str (bl (joinB [⟨#[52]⟩, str (toB 4 s.size), s]) ++ toB 4 (sum (bl (joinB [⟨#[52]⟩, str (toB 4 s.size), s])))) = str (recL (bl s)) := by
  rw [bl_joinB, recL_def, seal4]; simp [bl_str, size_bl, show bl ⟨#[52]⟩ = [52] from rfl]
/-- Whether data is short enough; the record, the error. -/
def recE (d : List UInt8) : Nat := if d.length ≤ 4096 then 0 else 30
def recS (d : List UInt8) : List UInt8 := if d.length ≤ 4096 then recL d else []
end Ros
namespace Go.Proofs.Ytlboeaapmfpipaa
open Go.RowKit Go.Shelf Ros
attribute [local go_sem] Oper.semAt_some

theorem bt {a b c : World} (h : Below a.heap.size a b) (k : Below b.heap.size b c) : Below a.heap.size a c := h.trans (k.mono h.size)
theorem bal {a b : World} (h : Below a.heap.size a b) (o : Obj) : Below a.heap.size a (b.alloc o) := h.alloc h.size o

theorem rec_all {s : ByteArray} : (if s.size ≤ 4096 then (str (recL (bl s)), (0 : Int)) else (⟨#[]⟩, 30)) = (str (recS (bl s)), ((recE (bl s) : Nat) : Int)) := by
  unfold recS recE; rw [← size_bl]; split <;> rfl
end Go.Proofs.Ytlboeaapmfpipaa
