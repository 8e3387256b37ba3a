/-
  BallotOne's acts as an argument. Conditions: none but the argument's own.
-/
import Derived.Test.YtcfaeddjohpohaaOneB
namespace Go.Proofs.Ytcfaeddjohpohaa
open Go.RowKit Go.Shelf Ros
open Go.Joins Go.ChangeShapes Go.WideShapes Go.Deep
variable {H : Type} {enc : TypeId × Value → H} {w : World} {base : Nat} {held : Bool}
theorem rng_i64 {n : Int} (h : (Lit.int .i64 n).wf = true) : -9223372036854775808 ≤ n ∧ n ≤ 9223372036854775807 := by
  simp [Lit.wf, IntKind.min, IntKind.max, IntKind.signed, IntKind.bits] at h
  omega
theorem open_acts8 {A : Option Addr} {l c : Nat} {d : DataW H} {p : List MemPlace} (h : DataW.Trod enc Try.prog w base (fun _ => true) held 47 (.slice A l c) d p) : ∃ xs : List Ac8, xs.length = l ∧ ArgAt w 3 A l (xs.flatMap cellsA) ∧ (∀ x ∈ xs, x.ok) ∧ l ≤ c ∧ c ≤ maxLen :=
  open_argN cellsA Ac8.ok Try.underlying47 Try.underlying54 (by kernel_rfl) (by kernel_rfl) cellsA_length (fun vs hvs hf => by
    match vs, hvs with
    | [v0, v1, v2], _ =>
      obtain ⟨k0, y0, t0⟩ := hf 0 _ v0 rfl rfl
      obtain ⟨k1, y1, t1⟩ := hf 1 _ v1 rfl rfl
      obtain ⟨k2, y2, t2⟩ := hf 2 _ v2 rfl rfl
      obtain ⟨n0, e0, _, w0⟩ := DataW.trod_int Try.underlying3 t0
      obtain ⟨n1, e1, _, w1⟩ := DataW.trod_int Try.underlying3 t1
      obtain ⟨n2, e2, _, w2⟩ := DataW.trod_int Try.underlying3 t2
      cases e0; cases e1; cases e2
      exact ⟨⟨n0, n1, n2⟩, rfl, rng_i64 w0, rng_i64 w1, rng_i64 w2⟩) (by show 0 < 3; omega) h
end Go.Proofs.Ytcfaeddjohpohaa
