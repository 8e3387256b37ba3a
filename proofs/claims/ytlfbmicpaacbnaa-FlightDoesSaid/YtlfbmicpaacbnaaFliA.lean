/-
  What the functions of flight compute, one by one: the flight in memory ('FlA'), its sending. Conditions: at most a thousand notes lie there.
-/
import Derived.Test.YtlfbmicpaacbnaaObj
import Derived.Test.YtlfbmicpaacbnaaCrcP
import Derived.Deep.RegionHeld3
import Derived.StillTailTactics
namespace Ros
open Go Go.RowKit
/-- A note: number, node, bytes. -/
structure Nt where
  id : Nat
  to : Int
  s : ByteArray
  deriving DecidableEq
def cellsN (x : Nt) : List Value := [.int .u32 (x.id : Int), .int .i64 x.to, .string x.s]
def cellsNs (l : List Nt) : List Value := l.flatMap cellsN
theorem cellsNs_length (l : List Nt) : (cellsNs l).length = l.length * 3 := by
  induction l with
  | nil => rfl
  | cons a t ih => simp [cellsNs, cellsN] at ih ⊢; omega
theorem cellsNs_append (l m : List Nt) : cellsNs (l ++ m) = cellsNs l ++ cellsNs m := by simp [cellsNs]
theorem cellsNs_one (x : Nt) : cellsNs [x] = [.int .u32 (x.id : Int), .int .i64 x.to, .string x.s] := by simp [cellsNs, cellsN]
theorem cellsNs_at (l : List Nt) (i j : Nat) (hi : i < l.length) (hj : j < 3) : (cellsNs l)[i * 3 + j]? = (cellsN l[i])[j]? := by
  induction l generalizing i with
  | nil => simp at hi
  | cons a t ih =>
    cases i with
    | zero => simp [cellsNs, cellsN]; match j, hj with | 0, _ => rfl | 1, _ => rfl | 2, _ => rfl
    | succ i =>
      have := ih i (by simpa using hi)
      simp only [cellsNs, List.flatMap_cons, List.getElem_cons_succ] at this ⊢
      rw [List.getElem?_append_right (by simp [cellsN]; omega)]
      rw [← this]
      congr 1
      simp [cellsN]; omega
theorem cellsNs_take (l : List Nt) (k : Nat) : (cellsNs l).take (k * 3) = cellsNs (l.take k) := by
  induction l generalizing k with
  | nil => simp [cellsNs]
  | cons a t ih =>
    cases k with
    | zero => simp [cellsNs]
    | succ k =>
      have := ih k
      simp only [cellsNs, cellsN, List.flatMap_cons, List.take_succ_cons, List.cons_append, List.nil_append] at this ⊢
      rw [show (k + 1) * 3 = k * 3 + 3 by omega]
      simp only [List.take_succ_cons]
      rw [this]
theorem cellsNs_drop (l : List Nt) (k : Nat) : (cellsNs l).drop (k * 3) = cellsNs (l.drop k) := by
  induction l generalizing k with
  | nil => simp [cellsNs]
  | cons a t ih =>
    cases k with
    | zero => simp [cellsNs]
    | succ k =>
      have := ih k
      simp only [cellsNs, cellsN, List.flatMap_cons, List.drop_succ_cons, List.cons_append, List.nil_append] at this ⊢
      rw [show (k + 1) * 3 = k * 3 + 3 by omega]
      simp only [List.drop_succ_cons]
      rw [this]
theorem cellsNs_set (l : List Nt) (i : Nat) (s : ByteArray) (hi : i < l.length) : (cellsNs l).set (i * 3 + 2) (.string s) = cellsNs (l.set i { l[i] with s := s }) := by
  induction l generalizing i with
  | nil => simp at hi
  | cons a t ih =>
    cases i with
    | zero => simp [cellsNs, cellsN]
    | succ i =>
      have := ih i (by simpa using hi)
      simp only [cellsNs, cellsN, List.flatMap_cons, List.set_cons_succ, List.cons_append, List.nil_append, List.getElem_cons_succ] at this ⊢
      rw [show (i + 1) * 3 = i * 3 + 2 + 1 by omega, List.set_cons_succ, this]
theorem cellsNs_one' (l : List Nt) : ∀ u ∈ cellsNs l, u.oneCell' = true := by
  intro u hu
  simp only [cellsNs, List.mem_flatMap, cellsN] at hu
  obtain ⟨x, _, hx⟩ := hu
  simp at hx
  rcases hx with rfl | rfl | rfl <;> rfl
end Ros
namespace Go.Proofs.Ytlfbmicpaacbnaa
open Go.RowKit Go.Shelf Ros
attribute [local go_sem] Oper.semAt_some

/-- A flight in memory. -/
def FlA (w : World) (S : Nat → Prop) (g : Nat) (n : Nat) (l : List Nt) : Prop :=
  ∃ v, w.heap[g]? = some (.cells #[.int .u32 (n : Int), v] 61 (0, 0)) ∧ Row w 35 3 v l.length (cellsNs l) ∧ ∀ k, S k ↔ k = g ∨ v.ownBlock = some k

theorem FlA.lt {w : World} {S : Nat → Prop} {g n : Nat} {l : List Nt} (h : FlA w S g n l) : ∀ k, S k → k < w.heap.size := by
  obtain ⟨v, hg, hr, hS⟩ := h
  intro k hk
  rcases (hS k).1 hk with rfl | h
  · exact obj_lt hg
  · exact hr.lt h
theorem FlA.keep {w w' : World} {S : Nat → Prop} {g n : Nat} {l : List Nt} (h : FlA w S g n l) (hk : ∀ k, S k → w'.heap[k]? = w.heap[k]?) : FlA w' S g n l := by
  obtain ⟨v, hg, hr, hS⟩ := h
  exact ⟨v, (hk g ((hS g).2 (.inl rfl))).trans hg, hr.keep fun k h => hk k ((hS k).2 (.inr h)), hS⟩
theorem FlA.below {w w' : World} {S : Nat → Prop} {g n : Nat} {l : List Nt} (h : FlA w S g n l) (hb : Below w.heap.size w w') : FlA w' S g n l := h.keep fun k hk => hb.block k (h.lt k hk)

theorem note_info : (Try.prog.info? 35).map (fun i => (i.zero, i.size, i.bytes)) = some (some (.agg #[.int .u32 0, .int .i64 0, .string ⟨#[]⟩]), 3, 32) := by kernel_rfl

set_option maxHeartbeats 400000 in
theorem new_any (w : World) :
    Calls Try.prog 11 #[] w fun e w' => e = .returned (.pointer (some ⟨w.heap.size, 0, none⟩)) ∧ FlA w' (fun k => k = w.heap.size) w.heap.size 0 [] ∧ Below w.heap.size w w' := by
  go_enter Try.func11, Try.ntmps11
  go_wp2
  go_ret
  refine ⟨rfl, ⟨_, World.alloc_heap_new w _, Row.nil _ _ _, fun k => by simp [Value.ownBlock]⟩, (Below.refl _ w).alloc (Nat.le_refl _) _⟩

set_option maxHeartbeats 400000 in
theorem next_any (g n : Nat) (v : Value) (t : TypeId) (w : World) (hg : w.heap[g]? = some (.cells #[.int .u32 (n : Int), v] t (0, 0))) :
    Calls Try.prog 32 #[.pointer (some ⟨g, 0, none⟩)] w fun e w' => e = .returned (.int .u32 (((n + 1) % 4294967296 : Nat) : Int)) ∧ w' = w.setCell ⟨g, 0, none⟩ (.int .u32 (((n + 1) % 4294967296 : Nat) : Int)) := by
  have hc : w.cell? ⟨g, 0, none⟩ = some (.int .u32 (n : Int)) := cell_row hg 0
  have hf := obj_frozen hg 0
  have HW := Lib.hid (show ((n : Int) + 1) % 4294967296 = (((n + 1) % 4294967296 : Nat) : Int) by omega)
  clear hg
  go_enter Try.func32, Try.ntmps32
  go_wp2
  go_ret
  exact ⟨by rw [← HW.out]; rfl, by rw [← HW.out]⟩

set_option maxHeartbeats 400000 in
theorem lay_any (S : Nat → Prop) (g n b : Nat) (l : List Nt) (x : Nt) (w : World) (h : FlA w S g n l) (hb : w.heap[b]? = some (.cells #[.int .u32 (x.id : Int), .int .i64 x.to, .string x.s] 35 (0, 0))) (hl : l.length ≤ 100000) :
    Calls Try.prog 33 #[.pointer (some ⟨g, 0, none⟩), .slice (some ⟨b, 0, none⟩) 1 1] w fun e w' => (∃ v, e = .returned v) ∧ ∃ S', FlA w' S' g n (l ++ [x]) ∧ Turn S S' w w' := by
  have hlt := h.lt
  obtain ⟨v, hg, hr, hS⟩ := h
  obtain ⟨i0, hi0, hz0, hz1, hz2⟩ := info_parts note_info
  have hc : w.cell? ⟨g, 1, none⟩ = some v := cell_row hg 1
  have hsrc : Src Try.prog 3 29 (.slice (some ⟨b, 0, none⟩) 1 1) 1 (cellsNs [x]) w :=
    Src.ofSlice w Try.underlying29 _ 1 1 _ (by rw [cellsNs_length]; rfl) (by rw [cellsNs_one]; exact World.news_of_block hb) (cellsNs_one' _)
  have hne := hr.ne_ hg (by decide)
  have HG := Lib.hid hg
  clear hb hg
  go_enter Try.func33, Try.ntmps33
  go_wp2_with (first
    | (at_builtin
       refine wpList_append_row _ rfl (.tmp 8) (.tmp 9) _ _ rfl 35 i0 _ 3 32 Try.underlying29 hi0 hz0 hz1 hz2 rfl v l.length (cellsNs l) rfl hr _ 1 _ rfl hsrc (by unfold maxLen; omega) (by omega) ?_
       intro A1 c1 w1 hr1 hg1 hat1
       have hg2 := Lib.hid (obj_grown HG.out hg1 hne)
       have hc1 := (World.cell?_of_block (a := ⟨g, 1, none⟩) (hg2.out.trans HG.out.symm)).trans hc
       have hf1 := obj_frozen hg2.out 1))
  go_end0
  have hb1 := obj_set hg2.out 1 (.slice A1 (l.length + 1) c1)
  have hg0 := HG.out
  have hne1 := hr1.ne_ hg2.out (by decide)
  refine ⟨⟨_, rfl⟩, fun k => k = g ∨ (Value.slice A1 (l.length + 1) c1).ownBlock = some k, ⟨_, by simpa using hb1, ?_, fun k => Iff.rfl⟩, ?_⟩
  · rw [cellsNs_append, List.length_append]
    exact hr1.keep fun k hk => Below.heap_setCell _ _ _ _ (fun e => hne1 (by rw [hk, e]))
  · have ht : Turn S S w w1 := (Turn.refl hlt).grown hg1 fun k hk => .inl ((hS k).2 (.inr hk))
    refine ((ht.re (S'' := fun k => k = g ∨ (Value.slice A1 (l.length + 1) c1).ownBlock = some k) ?_ ?_).set_ (.inl ((hS g).2 (.inl rfl))) _)
    · rintro k (rfl | hk)
      · exact .inl ((hS k).2 (.inl rfl))
      · rcases hat1 with e | e
        · exact .inl ((hS k).2 (.inr (by rw [← e]; exact hk)))
        · rw [e] at hk; exact .inr (by simp at hk; omega)
    · rintro k (rfl | hk)
      · exact obj_lt hg2.out
      · exact hr1.lt hk
end Go.Proofs.Ytlfbmicpaacbnaa
