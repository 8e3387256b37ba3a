/-
  What the functions of store compute, one by one: the store in memory ('StA'), its medium. Conditions: at most 2^21 bytes lie there.
-/
import Derived.Test.YtcepdmpdabiglaaStoM
import Derived.Deep.RegionLaw
import Derived.Laws.IdiomStrings
namespace Ros
open Go Go.RowKit
def cellsB (l : List UInt8) : List Value := l.map fun b => Value.int .u8 (b.toNat : Int)
theorem cellsB_length (l : List UInt8) : (cellsB l).length = l.length := by simp [cellsB]
theorem cellsB_append (l m : List UInt8) : cellsB (l ++ m) = cellsB l ++ cellsB m := by simp [cellsB]
theorem cellsB_one (l : List UInt8) : ∀ u ∈ cellsB l, u.oneCell' = true := by
  intro u hu
  obtain ⟨b, _, rfl⟩ := List.mem_map.1 hu
  rfl
theorem cellsB_take (l : List UInt8) (k : Nat) : (cellsB l).take k = cellsB (l.take k) := by simp [cellsB, List.map_take]
/-- Bytes out of a string: the block that is made. -/
theorem conv_bytes {P : Program} {src dst e : TypeId} (hs : P.underlying src = some .string) (hd : P.underlying dst = some (.slice e)) (he : P.underlying e = some (.int .u8)) (u : ByteArray) :
    ∃ (cp : World → Nat) (ob : World → Obj), (∀ W : World, (convert src dst (.string u)).run P W = .ok (.slice (some ⟨W.heap.size, 0, none⟩) u.size (cp W)) (W.drew.alloc (ob W))) ∧
      ∀ W : World, ∃ c t fz, ob W = .cells c t fz ∧ ∀ (j : Nat) (v : Value), (cellsB (bl u))[j]? = some v → c[j]? = some v := by
  refine ⟨fun W => grownCap W u.size 0 e, fun W => .cells (bytesRow u (grownCap W u.size 0 e)) e ((bytesRow u (grownCap W u.size 0 e)).size, (bytesRow u (grownCap W u.size 0 e)).size + 1), fun W => run_bytes_of_string W src dst e u hs hd he, fun W => ⟨_, _, _, rfl, fun j v hj => ?_⟩⟩
  have hj' : j < (bl u).length := by have := (List.getElem?_eq_some_iff.1 hj).1; rwa [cellsB_length] at this
  rw [bytesRow, Array.getElem?_append_left (by simpa [bl] using hj')]
  simpa [cellsB, bl] using hj
end Ros
namespace Go.Proofs.Ytcepdmpdabiglaa
open Go.RowKit Go.Shelf Ros
attribute [local go_sem] Oper.semAt_some

theorem byte_info : (Try.prog.info? 5).map (fun i => (i.zero, i.size, i.bytes)) = some (some (.int .u8 0), 1, 1) := by kernel_rfl

/-- A store in memory. -/
def StA (w : World) (S : Nat → Prop) (g : Nat) (s : St) : Prop :=
  ∃ v, w.heap[g]? = some (.cells (cellsSt v s) 48 (0, 0)) ∧ Row w 5 1 v s.log.length (cellsB s.log) ∧ ∀ k, S k ↔ k = g ∨ v.ownBlock = some k
theorem StA.lt {w : World} {S : Nat → Prop} {g : Nat} {s : St} (h : StA w S g s) : ∀ k, S k → k < w.heap.size := by
  obtain ⟨v, hg, hr, hS⟩ := h
  intro k hk
  rcases (hS k).1 hk with rfl | h
  · exact obj_lt hg
  · exact hr.lt h
theorem StA.keep {w w' : World} {S : Nat → Prop} {g : Nat} {s : St} (h : StA w S g s) (hk : ∀ k, S k → w'.heap[k]? = w.heap[k]?) : StA w' S g s := by
  obtain ⟨v, hg, hr, hS⟩ := h
  exact ⟨v, (hk g ((hS g).2 (.inl rfl))).trans hg, hr.keep fun k h => hk k ((hS k).2 (.inr h)), hS⟩
theorem StA.below {w w' : World} {S : Nat → Prop} {g : Nat} {s : St} (h : StA w S g s) (hb : Below w.heap.size w w') : StA w' S g s := h.keep fun k hk => hb.block k (h.lt k hk)

set_option maxHeartbeats 400000 in
theorem snew_any (c : Int) (w : World) (h1 : 64 ≤ c) (h2 : c ≤ 1048576) :
    Calls Try.prog 8 #[.int .i64 c] w fun e w' => e = .returned (.tuple #[.pointer (some ⟨w.heap.size, 0, none⟩), .int .i64 0]) ∧ StA w' (fun k => k = w.heap.size) w.heap.size ⟨[], ⟨#[]⟩, c, false, 0, false⟩ ∧ Below w.heap.size w w' := by
  have hb : ((1048576 : Int) < c) = False := eq_false (by omega)
  go_enter Try.func8, Try.ntmps8
  go_wp2
  go_ret2
  refine ⟨rfl, ⟨_, World.alloc_heap_new w _, Row.nil _ _ _, fun k => by simp [Value.ownBlock]⟩, (Below.refl _ w).alloc (Nat.le_refl _) _⟩
set_option maxHeartbeats 400000 in
theorem snew_no (c : Int) (w : World) (h1 : c < 64) :
    Calls Try.prog 8 #[.int .i64 c] w fun e w' => e = .returned (.tuple #[.pointer none, .int .i64 2]) ∧ w = w' := by
  go_enter Try.func8, Try.ntmps8
  go_wp2
  go_ret2
  exact ⟨rfl, rfl⟩

set_option maxHeartbeats 400000 in
theorem holds_any (S : Nat → Prop) (g : Nat) (s : St) (w : World) (h : StA w S g s) (hl : s.log.length ≤ 2000000) (hs : s.snap.size ≤ 2000000) :
    Calls Try.prog 18 #[.pointer (some ⟨g, 0, none⟩)] w fun e w' => e = .returned (.int .i64 (s.holds : Int)) ∧ Below w.heap.size w w' := by
  obtain ⟨v, hg, hr, hS⟩ := h
  have hc0 : w.cell? ⟨g, 0, none⟩ = some v := cell_row hg 0
  have hc1 : w.cell? ⟨g, 1, none⟩ = some (.string s.snap) := cell_row hg 1
  obtain ⟨A, c, rfl, _, _⟩ := hr.form
  have HH := Lib.hid (show ((s.holds : Nat) : Int) = (s.log.length : Int) + (s.snap.size : Int) by unfold St.holds; omega)
  clear hg hr hS
  go_enter Try.func18, Try.ntmps18
  go_wp2
  go_quiet (fail)
  go_wp2
  go_ret
  exact ⟨by rw [HH.out]; rfl, below_dn (Below.refl _ w) _⟩

set_option maxHeartbeats 400000 in
theorem lay_any (S : Nat → Prop) (g : Nat) (s : St) (B : Option Addr) (n c : Nat) (m : List UInt8) (w : World) (h : StA w S g s) (hsrc : Src Try.prog 1 44 (.slice B n c) n (cellsB m) w) (hn : n ≤ 2000000) (hl : s.log.length ≤ 2000000) (hm : m.length = n) :
    Calls Try.prog 25 #[.pointer (some ⟨g, 0, none⟩), .slice B n c] w fun e w' => (∃ v, e = .returned v) ∧ ∃ S', StA w' S' g { s with log := s.log ++ m } ∧ Turn S S' w w' := by
  have hlt := h.lt
  obtain ⟨v, hg, hr, hS⟩ := h
  obtain ⟨i0, hi0, hz0, hz1, hz2⟩ := info_parts byte_info
  have hc : w.cell? ⟨g, 0, none⟩ = some v := cell_row hg 0
  have hne := hr.ne_ hg (by decide)
  have HG := Lib.hid hg
  have hb1 : s.log.length + n ≤ maxLen := by unfold maxLen; omega
  have hb2 : (s.log.length + n) * 1 ≤ 140737488355328 := by omega
  clear hg
  go_enter Try.func25, Try.ntmps25
  go_wp2_with (at_builtin; generalize hG : wpList _ _ _ _ _ _ = G)
  subst hG
  refine wpList_append_row _ rfl (.tmp 8) (.tmp 9) _ _ rfl 5 i0 _ 1 1 Try.underlying44 hi0 hz0 hz1 hz2 rfl v s.log.length (cellsB s.log) rfl hr _ n _ rfl hsrc hb1 hb2 ?_
  intro A1 c1 w1 hr1 hg1 hat1
  have hg2 := Lib.hid (obj_grown HG.out hg1 hne)
  have hc1 := (World.cell?_of_block (a := ⟨g, 0, none⟩) (hg2.out.trans HG.out.symm)).trans hc
  have hf1 := obj_frozen hg2.out 0
  go_wp2
  go_end0
  have hb1 := obj_set hg2.out 0 (.slice A1 (s.log.length + n) c1)
  have hg0 := HG.out
  have hne1 := hr1.ne_ hg2.out (by decide)
  refine ⟨⟨_, rfl⟩, fun k => k = g ∨ (Value.slice A1 (s.log.length + n) c1).ownBlock = some k, ⟨_, by simpa [cellsSt] using hb1, ?_, fun k => Iff.rfl⟩, ?_⟩
  · rw [cellsB_append, List.length_append, hm]
    exact hr1.keep fun k hk => Below.heap_setCell _ _ _ _ (fun e => hne1 (by rw [hk, e]))
  · have ht : Turn S S w w1 := (Turn.refl hlt).grown hg1 fun k hk => .inl ((hS k).2 (.inr hk))
    refine ((ht.re (S'' := fun k => k = g ∨ (Value.slice A1 (s.log.length + n) c1).ownBlock = some k) ?_ ?_).set_ (.inl ((hS g).2 (.inl rfl))) _)
    · rintro k (rfl | hk)
      · exact .inl ((hS k).2 (.inl rfl))
      · rcases hat1 with e | e
        · exact .inl ((hS k).2 (.inr (by rw [← e]; exact hk)))
        · rw [e] at hk; exact .inr (by simp at hk; omega)
    · rintro k (rfl | hk)
      · exact obj_lt hg2.out
      · exact hr1.lt hk
end Go.Proofs.Ytcepdmpdabiglaa
