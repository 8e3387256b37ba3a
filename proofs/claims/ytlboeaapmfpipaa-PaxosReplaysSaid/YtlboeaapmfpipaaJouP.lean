/-
  Records at their places, lists of strings as cells: plain laws. Conditions: none.
-/
import Derived.Test.YtlboeaapmfpipaaJouM
import Derived.Test.YtlboeaapmfpipaaObj
namespace Ros
open Go Go.RowKit
theorem oneN_len {s : List UInt8} (h : oneN s ≠ 0) : oneN s = (oneD s).length + 9 := by
  cases hk : okOne s with
  | false => exact absurd (one_no hk).2 h
  | true =>
    obtain ⟨h1, h2, h3, h4, h5⟩ := (okOne_iff s).1 hk
    rw [(one_yes hk).1, (one_yes hk).2, openL_yes h5]
    simp [List.length_drop, List.length_take]; omega
/-- A record's data and how many bytes it has. -/
def rd (d : List UInt8) : List UInt8 × Nat := (d, d.length + 9)
/-- What stands at each place; in the end none. -/
def plS (s : List UInt8) : List (List UInt8 × Nat) := (readL s).1.map rd ++ [([], 0)]
theorem plS_zero {s : List UInt8} (h : oneN s = 0) : plS s = [([], 0)] := by unfold plS; rw [readL_zero h]; rfl
theorem plS_step {s : List UInt8} (h : oneN s ≠ 0) : plS s = (oneD s, oneN s) :: plS (s.drop (oneN s)) := by
  unfold plS
  rw [readL_step h, List.map_cons, List.cons_append]
  congr 1
  rw [rd, oneN_len h]
def goodP (pre : List (List UInt8 × Nat)) : Nat := (pre.map (·.2)).sum
theorem goodP_snoc (pre : List (List UInt8 × Nat)) (x : List UInt8 × Nat) : goodP (pre ++ [x]) = goodP pre + x.2 := by simp [goodP]
def dataP (pre : List (List UInt8 × Nat)) : List (List UInt8) := pre.map (·.1)
theorem dataP_snoc (pre : List (List UInt8 × Nat)) (x : List UInt8 × Nat) : dataP (pre ++ [x]) = dataP pre ++ [x.1] := by simp [dataP]
theorem readL_sum (s : List UInt8) : (readL s).2 = goodP ((readL s).1.map rd) := by
  refine readL_ind (P := fun s => (readL s).2 = goodP ((readL s).1.map rd)) (fun s h => ?_) (fun s h ih => ?_) s
  · rw [readL_zero h]; rfl
  · rw [readL_step h]
    simp only [List.map_cons, goodP, List.sum_cons] at ih ⊢
    rw [ih, rd, oneN_len h]
theorem dataP_rd (l : List (List UInt8)) : dataP (l.map rd) = l := by simp [dataP, rd, Function.comp_def]
theorem goodP_le_of {a b : List (List UInt8 × Nat)} (h : a <+: b) : goodP a ≤ goodP b := by
  obtain ⟨c, rfl⟩ := h; simp [goodP]
theorem goodP_len {a : List (List UInt8 × Nat)} {l : List (List UInt8)} (h : a <+: l.map rd) : 9 * a.length ≤ goodP a := by
  have hall : ∀ x ∈ a, 9 ≤ x.2 := fun x hx => by
    obtain ⟨d, _, rfl⟩ := List.mem_map.1 (h.subset hx)
    simp [rd]
  clear h
  induction a with
  | nil => simp [goodP]
  | cons x t ih =>
    have h1 := ih fun y hy => hall y (List.mem_cons_of_mem _ hy)
    have h2 := hall x List.mem_cons_self
    simp only [goodP, List.map_cons, List.sum_cons, List.length_cons] at h1 ⊢
    omega
theorem pl_mid {s : List UInt8} {pre post : List (List UInt8 × Nat)} {x : List UInt8 × Nat} (h : plS s = pre ++ x :: post) :
    (x.2 = 0 ∧ x.1 = [] ∧ pre = (readL s).1.map rd) ∨ (x.2 ≠ 0 ∧ x.2 = x.1.length + 9 ∧ (pre ++ [x]) <+: (readL s).1.map rd ∧ goodP (pre ++ [x]) ≤ s.length ∧ 9 * (pre ++ [x]).length ≤ s.length) := by
  unfold plS at h
  rcases List.eq_nil_or_concat post with rfl | ⟨p, z, rfl⟩
  · have h' := List.append_inj' h rfl
    have := List.singleton_inj.1 h'.2
    subst this
    exact .inl ⟨rfl, rfl, h'.1.symm⟩
  · rw [List.concat_eq_append, ← List.cons_append, ← List.append_assoc] at h
    have h' := (List.append_inj' h rfl).1
    have hx : x ∈ (readL s).1.map rd := by rw [h']; simp
    obtain ⟨d, _, rfl⟩ := List.mem_map.1 hx
    have hp : (pre ++ [rd d]) <+: (readL s).1.map rd := ⟨p, by rw [h']; simp⟩
    have h1 := goodP_le_of hp
    rw [← readL_sum] at h1
    have h2 := (readL_le s).1
    have h3 := goodP_len hp
    exact .inr ⟨by simp [rd], rfl, hp, by omega, by omega⟩
theorem pl_all {s : List UInt8} (h : ∀ x ∈ plS s, x.2 ≠ 0) : False := h ([], 0) (by simp [plS]) rfl
theorem read_len (s : List UInt8) : (readL s).2 ≤ s.length ∧ 9 * (readL s).1.length ≤ s.length := by
  have := readL_le s; omega
/-- Strings as cells. -/
def cellsS (l : List (List UInt8)) : List Value := l.map fun d => Value.string (str d)
theorem cellsS_snoc (l : List (List UInt8)) (d : List UInt8) : cellsS (l ++ [d]) = cellsS l ++ [.string (str d)] := by simp [cellsS]
theorem cellsS_length (l : List (List UInt8)) : (cellsS l).length = l.length := by simp [cellsS]
theorem cellsS_take (l : List (List UInt8)) (k : Nat) : (cellsS l).take k = cellsS (l.take k) := by simp [cellsS, List.map_take]
theorem cellsS_drop (l : List (List UInt8)) (k : Nat) : (cellsS l).drop k = cellsS (l.drop k) := by simp [cellsS, List.map_drop]
theorem cellsS_map (l : List (List UInt8)) : cellsS l = (l.map str).map Value.string := by simp [cellsS, Function.comp_def]
theorem map_str_eq (l m : List (List UInt8)) : l.map str = m.map str ↔ l = m := by
  refine ⟨fun h => ?_, fun h => by rw [h]⟩
  have := congrArg (List.map bl) h
  simpa [Function.comp_def, bl_str] using this
/-- Texts, one behind the other. -/
def joinB (l : List ByteArray) : ByteArray := l.foldl (· ++ ·) ⟨#[]⟩
theorem bl_foldl (l : List ByteArray) (a : ByteArray) : bl (l.foldl (· ++ ·) a) = bl a ++ l.flatMap bl := by
  induction l generalizing a with
  | nil => simp
  | cons x t ih => rw [List.foldl_cons, ih, bl_append]; simp
theorem bl_joinB (l : List ByteArray) : bl (joinB l) = l.flatMap bl := by rw [joinB, bl_foldl]; simp [bl]
theorem joinB_take (l : List ByteArray) (k : Nat) (hk : k < l.length) : joinB (l.take k) ++ l[k] = joinB (l.take (k + 1)) := by
  unfold joinB
  rw [← List.take_append_getElem hk, List.foldl_append]; rfl
theorem joinB_size (l : List ByteArray) (k : Nat) : (joinB (l.take k)).size ≤ (joinB l).size := by
  rw [size_bl, size_bl, bl_joinB, bl_joinB]
  conv => rhs; rw [← List.take_append_drop k l, List.flatMap_append]
  simp
end Ros
