/-
  The document's flight in memory ('RfA'), its sending. Conditions: at most a thousand notes lie there.
-/
import Derived.Test.YtlfbmicpaacbnaaFliP
import Derived.Test.YtlfbmicpaacbnaaFliW
namespace Go.Proofs.Ytlfbmicpaacbnaa
open Go.RowKit Go.Shelf Ros
attribute [local go_sem] Oper.semAt_some
/-- The document's flight in memory. -/
def RfA (w : World) (S : Nat → Prop) (g : Nat) (n : Nat) (l : List Nt) : Prop :=
  ∃ v, w.heap[g]? = some (.cells #[v, .int .u32 (n : Int)] 55 (0, 0)) ∧ Row w 35 3 v l.length (cellsNs l) ∧ ∀ k, S k ↔ k = g ∨ v.ownBlock = some k
theorem RfA.lt {w : World} {S : Nat → Prop} {g n : Nat} {l : List Nt} (h : RfA w S g n l) : ∀ k, S k → k < w.heap.size := by
  obtain ⟨v, hg, hr, hS⟩ := h
  intro k hk
  rcases (hS k).1 hk with rfl | h
  · exact obj_lt hg
  · exact hr.lt h
theorem RfA.keep {w w' : World} {S : Nat → Prop} {g n : Nat} {l : List Nt} (h : RfA w S g n l) (hk : ∀ k, S k → w'.heap[k]? = w.heap[k]?) : RfA w' S g n l := by
  obtain ⟨v, hg, hr, hS⟩ := h
  exact ⟨v, (hk g ((hS g).2 (.inl rfl))).trans hg, hr.keep fun k h => hk k ((hS k).2 (.inr h)), hS⟩
theorem RfA.below {w w' : World} {S : Nat → Prop} {g n : Nat} {l : List Nt} (h : RfA w S g n l) (hb : Below w.heap.size w w') : RfA w' S g n l := h.keep fun k hk => hb.block k (h.lt k hk)
/-- A flight whose slice was set behind a growth. -/
theorem rf_end {S : Nat → Prop} {g n c1 m : Nat} {l2 : List Nt} {v : Value} {w W w1 : World} {A1 : Option Addr} (hg : W.heap[g]? = some (.cells #[v, .int .u32 (n : Int)] 55 (0, 0))) (hS : ∀ k, S k ↔ k = g ∨ v.ownBlock = some k) (hT : Turn S S w W)
    (hr : Row w1 35 3 (.slice A1 m c1) m (cellsNs l2)) (hm : m = l2.length) {u : Option Nat} (hgrow : W.grownBy w1 u) (hgu : u ≠ some g) (hu : ∀ k, u = some k → S k ∨ w.heap.size ≤ k) (hat : (Value.slice A1 m c1).ownBlock = u ∨ (Value.slice A1 m c1).ownBlock = some W.heap.size) :
    ∃ S', RfA (w1.setCell ⟨g, 0, none⟩ (.slice A1 m c1)) S' g n l2 ∧ Turn S S' w (w1.setCell ⟨g, 0, none⟩ (.slice A1 m c1)) := by
  subst hm
  have hg2 := obj_grown hg hgrow hgu
  have hne := hr.ne_ hg2 (by decide)
  refine ⟨fun k => k = g ∨ (Value.slice A1 l2.length c1).ownBlock = some k, ⟨_, by simpa using obj_set hg2 0 (.slice A1 l2.length c1), hr.keep fun k hk => Below.heap_setCell _ _ _ _ (fun e => hne (by rw [hk, e])), fun k => Iff.rfl⟩, ?_⟩
  have ht : Turn S S w w1 := hT.grown hgrow hu
  refine ((ht.re (S'' := fun k => k = g ∨ (Value.slice A1 l2.length c1).ownBlock = some k) ?_ ?_).set_ (.inl ((hS g).2 (.inl rfl))) _)
  · rintro k (rfl | hk)
    · exact .inl ((hS k).2 (.inl rfl))
    · rcases hat with e | e
      · exact hu k (e.symm.trans hk)
      · rw [e] at hk; have := hT.size; exact .inr (by simp at hk; omega)
  · rintro k (rfl | hk)
    · exact obj_lt hg2
    · exact hr.lt hk
set_option maxRecDepth 100000 in
set_option maxHeartbeats 1000000 in
theorem rsend_any (S : Nat → Prop) (g n : Nat) (l : List Nt) (to : Int) (s : ByteArray) (w : World) (h : RfA w S g n l) (hl : l.length ≤ 1000) :
    Calls Try.prog 28 #[.pointer (some ⟨g, 0, none⟩), .int .i64 to, .string s] w fun e w' => e = .returned (.tuple #[.int .u32 ((msend ⟨n, l⟩ to s).1.1 : Int), .int .i64 (msend ⟨n, l⟩ to s).1.2]) ∧
      ∃ S', RfA w' S' g (msend ⟨n, l⟩ to s).2.n (msend ⟨n, l⟩ to s).2.l ∧ Turn S S' w w' := by
  have HT := Lib.hid (Turn.refl h.lt)
  have HF := Lib.hid h
  obtain ⟨v, hg, hr, hS⟩ := h
  obtain ⟨A, c, rfl, _, _⟩ := hr.form
  have q0 : w.cell? ⟨g, 0, none⟩ = some (.slice A l.length c) := cell_row hg 0
  have q1 : w.cell? ⟨g, 1, none⟩ = some (.int .u32 (n : Int)) := cell_row hg 1
  have f0 := obj_frozen hg 0
  have f1 := obj_frozen hg 1
  have HG := Lib.hid hg
  have HR := Lib.hid hr
  have HS := Lib.hid hS
  clear hg hr hS
  unfold msend
  by_cases h1 : to < 0 ∨ 16 ≤ to
  · rw [if_pos h1]
    rcases h1 with h1 | h1
    all_goals
      go_enter Try.func28, Try.ntmps28
      go_wp2
      go_ret2
      exact ⟨rfl, S, HF.out, HT.out⟩
  · rw [if_neg h1]
    unfold mlaunch
    dsimp only
    by_cases h2 : 1000 ≤ l.length
    · rw [if_pos h2]
      go_enter Try.func28, Try.ntmps28
      go_wp2
      go_ret2
      exact ⟨rfl, S, HF.out, HT.out⟩
    · rw [if_neg h2]
      dsimp only
      obtain ⟨i0, hi0, hz0, hz1, hz2⟩ := info_parts note_info
      have HW := Lib.hid (show ((n : Int) + 1) % 4294967296 = (((n + 1) % 4294967296 : Nat) : Int) by omega)
      have hgl := obj_lt HG.out
      generalize (n + 1) % 4294967296 = m at *
      have hne := HR.out.ne_ HG.out (by decide)
      have HGW := Lib.hid (show (w.setCell ⟨g, 1, none⟩ (.int .u32 (m : Int))).heap[g]? = some (.cells #[.slice A l.length c, .int .u32 (m : Int)] 55 (0, 0)) from by simpa using obj_set HG.out 1 (.int .u32 (m : Int)))
      have HRW := Lib.hid (show Row (w.setCell ⟨g, 1, none⟩ (.int .u32 (m : Int))) 35 3 (.slice A l.length c) l.length (cellsNs l) from HR.out.keep fun k hk => Below.heap_setCell _ _ _ _ (fun e => hne (by rw [hk, e])))
      have HTW := Lib.hid (HT.out.set_ (p := ⟨g, 1, none⟩) (.inl ((HS.out g).2 (.inl rfl))) (.int .u32 (m : Int)))
      have HNE := Lib.hid hne
      clear hne
      go_enter Try.func28, Try.ntmps28
      go_wp2
      rw [HW.out]
      generalize w.setCell ⟨g, 1, none⟩ (.int .u32 (m : Int)) = W at *
      clear q0 q1 f0 f1
      have q0 : W.cell? ⟨g, 0, none⟩ = some (.slice A l.length c) := cell_row HGW.out 0
      have q1 : W.cell? ⟨g, 1, none⟩ = some (.int .u32 (m : Int)) := cell_row HGW.out 1
      have f0 := obj_frozen HGW.out 0
      have hgW := obj_lt HGW.out
      have q0' : (W.alloc (.cells #[.int .u32 (m : Int), .int .i64 to, .string s] 35)).cell? ⟨g, 0, none⟩ = some (.slice A l.length c) := cell_row (obj_alloc HGW.out _) 0
      have HSRC := Lib.hid (Src.ofSlice (P := Try.prog) (size := 3) (W.alloc (.cells #[.int .u32 (m : Int), .int .i64 to, .string s] 35)).drew Try.underlying29 ⟨W.heap.size, 0, none⟩ 1 1 (cellsNs [⟨m, to, s⟩]) (by rw [cellsNs_length]; rfl) (by rw [cellsNs_one]; exact World.news_of_block (World.alloc_heap_new W _)) (cellsNs_one' _))
      have HB1 := Lib.hid (show l.length + 1 ≤ maxLen by unfold maxLen; omega)
      have HB2 := Lib.hid (show (l.length + 1) * 32 ≤ 140737488355328 by omega)
      have HGA := Lib.hid (show (W.alloc (.cells #[.int .u32 (m : Int), .int .i64 to, .string s] 35)).drew.heap[g]? = _ from obj_alloc HGW.out _)
      have HTA := Lib.hid ((HTW.out.alloc (.cells #[.int .u32 (m : Int), .int .i64 to, .string s] 35)).drew)
      go_region_law
        ((refine step_append_row _ (by rfl) _ _ _ _ (by rfl) 35 i0 _ 3 32 Try.underlying29 hi0 hz0 hz1 hz2 rfl (.slice A l.length c) l.length (cellsNs l) (by rfl) ((HRW.out.alloc _).drew) _ 1 (cellsNs [⟨m, to, s⟩]) (by rfl) HSRC.out HB1.out HB2.out ?_; intro A1 c1 w1 hr1 hgrow hat; have hgg := Lib.hid (obj_grown HGA.out hgrow HNE.out); have p0 := cell_row hgg.out 0; have p1 := cell_row hgg.out 1; have pf := obj_frozen hgg.out 0))
      all_goals
        have HE := Lib.hid (rf_end HGA.out HS.out HTA.out (l2 := l ++ [⟨m, to, s⟩]) (by rw [cellsNs_append]; exact hr1) (by simp) hgrow HNE.out (fun k hk => .inl ((HS.out k).2 (.inr hk))) hat)
        clear hr1 hgrow hat
        go_wp2
        go_ret2
        exact ⟨rfl, HE.out⟩
end Go.Proofs.Ytlfbmicpaacbnaa
