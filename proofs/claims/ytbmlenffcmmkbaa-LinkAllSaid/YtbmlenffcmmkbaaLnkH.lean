/-
  A link receives a frame of data. Conditions: numbers are as the program's types allow.
-/
import Derived.Test.YtbmlenffcmmkbaaLnkG
import Derived.OwnWalk
import Derived.BigRegion
namespace Ros
open Go Go.RowKit
def lrecv (s : Lk) (life seq : Nat) (d : ByteArray) : List ByteArray × List Fr × Lk :=
  ((if (lcome s life seq).1 && (lcome s life seq).2.1 then [d] else []), (if (lcome s life seq).1 then [lframe (lcome s life seq).2.2 2 (lcome s life seq).2.2.peerLife 0 ⟨#[]⟩] else []), (lcome s life seq).2.2)
theorem lcome_waits {s : Lk} (life seq : Nat) (h : s.waits < 4294967296) : (lcome s life seq).2.2.waits < 4294967296 := by
  unfold lcome
  repeat' split
  all_goals first | exact h | (dsimp only; omega) | (dsimp only; split <;> omega)
theorem row_fresh {w : World} {e : TypeId} {n size g : Nat} {xs : List Value} (h : w.heap[g]? = some (.cells xs.toArray e (0, 0))) (hn : xs.length = n * size) (hm : n ≤ maxLen) : Row w e size (.slice (some ⟨g, 0, none⟩) n n) n xs :=
  ⟨hn, .inr ⟨g, n, _, rfl, h, Nat.le_refl _, hm, by simp [hn], by simp [← hn]⟩⟩
end Ros
namespace Go.Proofs.Ytbmlenffcmmkbaa
open Go.RowKit Go.Shelf Ros Go.Maps
attribute [local go_sem] Oper.semAt_some
theorem recv_nil (f : Fr) (w : World) :
    Calls Try.prog 12 #[.pointer none, frV f] w fun e w' => e = .returned (.tuple #[.slice none 0 0, .slice none 0 0, .int .i64 1]) ∧ Below w.heap.size w w' := by
  unfold frV
  go_enter Try.func12, Try.ntmps12
  go_wp2
  go_ret3
  exact ⟨rfl, (Below.refl _ w).alloc (Nat.le_refl _) _⟩
set_option maxHeartbeats 2000000 in
theorem recv_err (f : Fr) (w : World) (S : Nat → Prop) (g : Nat) (s : Lk) (h : LkA w S g s) (hf : f.src ≠ s.peer) :
    Calls Try.prog 12 #[.pointer (some ⟨g, 0, none⟩), frV f] w fun e w' => e = .returned (.tuple #[.slice none 0 0, .slice none 0 0, .int .i64 60]) ∧ Below w.heap.size w w' := by
  have hq : (f.src != s.peer) = true := by rw [bne_iff_ne]; exact hf
  have hl := h.below ((Below.refl _ w).alloc (Nat.le_refl _) (.cells #[.int .i64 f.wire, .int .i64 f.kind, .int .i64 f.src, .int .i64 f.dst, .int .u32 (f.life : Int), .int .u32 (f.seq : Int), .int .u32 (f.ack : Int), .int .u32 (f.hint : Int), .string f.data] 37))
  obtain ⟨_, _, _, _, _, p6, p7, _, _, _, _⟩ := lk_cells hl
  obtain ⟨_, c1, c2, c3, _⟩ := cells9 (World.alloc_heap_new w (.cells #[.int .i64 f.wire, .int .i64 f.kind, .int .i64 f.src, .int .i64 f.dst, .int .u32 (f.life : Int), .int .u32 (f.seq : Int), .int .u32 (f.ack : Int), .int .u32 (f.hint : Int), .string f.data] 37))
  have hb := Lib.hid ((Below.refl _ w).alloc (Nat.le_refl _) (.cells #[.int .i64 f.wire, .int .i64 f.kind, .int .i64 f.src, .int .i64 f.dst, .int .u32 (f.life : Int), .int .u32 (f.seq : Int), .int .u32 (f.ack : Int), .int .u32 (f.hint : Int), .string f.data] 37))
  clear hl h
  unfold frV
  go_enter Try.func12, Try.ntmps12
  go_wp2
  generalize w.alloc (.cells #[.int .i64 f.wire, .int .i64 f.kind, .int .i64 f.src, .int .i64 f.dst, .int .u32 (f.life : Int), .int .u32 (f.seq : Int), .int .u32 (f.ack : Int), .int .u32 (f.hint : Int), .string f.data] 37) = W at *
  clear hf
  go_quiet (fail)
  go_wp2
  go_ret3
  exact ⟨rfl, below_dN hb.out _⟩
set_option maxHeartbeats 4000000 in
theorem recv_data (f : Fr) (w : World) (S : Nat → Prop) (g : Nat) (s : Lk) (h : LkA w S g s) (hf1 : f.src = s.peer) (hf2 : f.dst = s.self) (hf3 : f.kind = 1) (hw : s.waits < 4294967296) :
    Calls Try.prog 12 #[.pointer (some ⟨g, 0, none⟩), frV f] w fun e w' => ∃ sv av, e = .returned (.tuple #[sv, av, .int .i64 0]) ∧ LkA w' S g (lrecv s f.life f.seq f.data).2.2 ∧ Turn S S w w' ∧
      Row w' 9 1 sv (lrecv s f.life f.seq f.data).1.length ((lrecv s f.life f.seq f.data).1.map .string) ∧ Row w' 37 9 av (lrecv s f.life f.seq f.data).2.1.length ((lrecv s f.life f.seq f.data).2.1.flatMap frL) ∧
      (∀ k, sv.ownBlock = some k → w.heap.size ≤ k) ∧ (∀ k, av.ownBlock = some k → w.heap.size ≤ k) := by
  have hl := h.below ((Below.refl _ w).alloc (Nat.le_refl _) (.cells #[.int .i64 f.wire, .int .i64 f.kind, .int .i64 f.src, .int .i64 f.dst, .int .u32 (f.life : Int), .int .u32 (f.seq : Int), .int .u32 (f.ack : Int), .int .u32 (f.hint : Int), .string f.data] 37))
  obtain ⟨_, _, _, _, _, p6, p7, _, _, _, _⟩ := lk_cells hl
  have hfo := World.alloc_heap_new w (.cells #[.int .i64 f.wire, .int .i64 f.kind, .int .i64 f.src, .int .i64 f.dst, .int .u32 (f.life : Int), .int .u32 (f.seq : Int), .int .u32 (f.ack : Int), .int .u32 (f.hint : Int), .string f.data] 37)
  have HB := Lib.hid ((Below.refl _ w).alloc (Nat.le_refl _) (.cells #[.int .i64 f.wire, .int .i64 f.kind, .int .i64 f.src, .int .i64 f.dst, .int .u32 (f.life : Int), .int .u32 (f.seq : Int), .int .u32 (f.ack : Int), .int .u32 (f.hint : Int), .string f.data] 37))
  have HLT := Lib.hid h.lt
  have HL := Lib.hid hl
  have HC := Lib.hid (fun (W : World) (hW : LkA W S g s) => come_any f.life f.seq W S g s hW)
  have HSZ := Lib.hid (show w.heap.size < (w.alloc (.cells #[.int .i64 f.wire, .int .i64 f.kind, .int .i64 f.src, .int .i64 f.dst, .int .u32 (f.life : Int), .int .u32 (f.seq : Int), .int .u32 (f.ack : Int), .int .u32 (f.hint : Int), .string f.data] 37)).heap.size by simp)
  have hw2 := lcome_waits (s := s) f.life f.seq hw
  unfold lrecv
  generalize lcome s f.life f.seq = lc at *
  obtain ⟨hd, tk, s2⟩ := lc
  dsimp only at hw2 HC ⊢
  have HFM := Lib.hid (fun (W : World) (hW : LkA W S g s2) => (show Calls Try.prog 18 #[.pointer (some ⟨g, 0, none⟩), .int .i64 2, .int .u32 (s2.peerLife : Int), .int .u32 0, .string ⟨#[]⟩] W fun e w' => e = .returned (frV (lframe s2 2 s2.peerLife 0 ⟨#[]⟩)) ∧ Below W.heap.size W w' from frame_any W S g s2 hW hw2 2 s2.peerLife 0 ⟨#[]⟩))
  obtain ⟨fr, hfr⟩ : ∃ fr, fr = lframe s2 2 s2.peerLife 0 ⟨#[]⟩ := ⟨_, rfl⟩
  rw [← hfr] at HFM ⊢
  obtain ⟨L1, hL1⟩ : ∃ L1 : List ByteArray, L1 = if hd && tk then [f.data] else [] := ⟨_, rfl⟩
  obtain ⟨L2, hL2⟩ : ∃ L2 : List Fr, L2 = if hd then [fr] else [] := ⟨_, rfl⟩
  rw [← hL1, ← hL2]
  have HL1 := Lib.hid hL1
  have HL2 := Lib.hid hL2
  clear hL1 hL2 hfr
  unfold frV
  rw [hf1, hf2, hf3] at *
  clear hl h hf1 hf2 hf3 hw hw2
  go_enter Try.func12, Try.ntmps12
  go_wp2
  generalize w.alloc (.cells #[.int .i64 f.wire, .int .i64 1, .int .i64 s.peer, .int .i64 s.self, .int .u32 (f.life : Int), .int .u32 (f.seq : Int), .int .u32 (f.ack : Int), .int .u32 (f.hint : Int), .string f.data] 37) = W at *
  obtain ⟨_, c1, c2, c3, c4, c5, _, _, c8, _, _⟩ := cells9 hfo
  have HFO := Lib.hid (fun n => (show (W.drewN n).heap[w.heap.size]? = W.heap[w.heap.size]? from rfl).trans hfo)
  clear hfo
  go_quiet (fail)
  go_wp2
  generalize hW5 : W.drewN _ = W5
  have HL5 := Lib.hid (show LkA W5 S g s from by rw [← hW5]; exact HL.out.drewN _)
  have HFO5 := Lib.hid ((congrArg (fun X : World => X.heap[w.heap.size]?) hW5).symm.trans (HFO.out _))
  have HB5 := Lib.hid (show Below w.heap.size w W5 from by rw [← hW5]; exact below_dN HB.out _)
  have HB5L := Lib.hid (show w.heap.size < W5.heap.size from by rw [← hW5]; exact HSZ.out)
  have HNS := Lib.hid (fun hS : S w.heap.size => Nat.lt_irrefl _ (HLT.out _ hS))
  clear hW5 HL HFO HB c1 c2 c3 c4 c5 c8 p6 p7
  have HSS := Lib.hid HSZ.out
  obtain ⟨_, c1, c2, c3, c4, c5, _, _, c8, _, _⟩ := cells9 HFO5.out
  cases hd
  · have e1 : L1 = [] := HL1.out
    have e2 : L2 = [] := HL2.out
    subst e1 e2
    clear HFM HL1 HL2
    go_region_law ((go_simp; go_at_call 20; (with_reducible refine (HC.out _ HL5.out.drew).mono ?_); rintro e w6 ⟨rfl, hl6, ht6⟩; have HL6 := Lib.hid hl6; have HT6 := Lib.hid ((Turn.of_below HB5.out.drew HLT.out).trans ht6); clear hl6 ht6))
    all_goals
      go_wp2
      go_ret3
      exact ⟨.slice none 0 0, .slice none 0 0, rfl, HL6.out, HT6.out, Row.nil _ _ _, Row.nil _ _ _, ⟨fun k hk => (by cases hk), fun k hk => (by cases hk)⟩⟩
  have e2 : L2 = [fr] := HL2.out
  subst e2
  have e1 : L1 = (if tk then [f.data] else []) := HL1.out
  clear HL1 HL2
  cases tk
  · have e1 : L1 = [] := e1
    subst e1
    go_region_law ((go_simp; go_at_call 20; (with_reducible refine (HC.out _ HL5.out.drew).mono ?_); rintro e w6 ⟨rfl, hl6, ht6⟩; have HL6 := Lib.hid hl6; have HT6 := Lib.hid ((Turn.of_below HB5.out.drew HLT.out).trans ht6); clear hl6 ht6; obtain ⟨_, _, _, p4, p5, _, _, _, _, _, _⟩ := lk_cells HL6.out))
    all_goals
      clear c1 c2 c3 c4 c5 c8
      go_wp2_with (first
        | (go_at_call 18; (with_reducible refine (HFM.out _ HL6.out).mono ?_); rintro e w7 ⟨rfl, b7⟩; have B7 := Lib.hid b7; clear b7; dsimp only [frV])
        | (go_at_call 21; (with_reducible refine (list_any _ _).mono ?_); rintro e w8 ⟨rfl, rfl⟩))
      go_ret3
      have hz := B7.out.size
      have hz2 := HT6.out.size
      refine ⟨.slice none 0 0, _, rfl, HL6.out.below (B7.out.alloc hz _), HT6.out.belowR (B7.out.alloc hz _), Row.nil _ _ _, row_fresh (g := w7.heap.size) (xs := frL fr) (World.alloc_heap_new w7 _) rfl (by simp [maxLen]), ⟨fun k hk => (by cases hk), fun k hk => ?_⟩⟩
      simp [Value.ownBlock] at hk
      omega
  · have e1 : L1 = [f.data] := e1
    subst e1
    go_region_law ((go_simp; go_at_call 20; (with_reducible refine (HC.out _ HL5.out.drew).mono ?_); rintro e w6 ⟨rfl, hl6, ht6⟩; have HL6 := Lib.hid hl6; have HFO6 := Lib.hid ((ht6.block w.heap.size HB5L.out HNS.out).trans HFO5.out); have HT6 := Lib.hid ((Turn.of_below HB5.out.drew HLT.out).trans ht6); clear hl6 ht6; obtain ⟨_, _, _, p4, p5, _, _, _, _, _, _⟩ := lk_cells HL6.out; obtain ⟨_, _, _, _, _, _, _, _, d8, _, _⟩ := cells9 HFO6.out))
    all_goals
      clear c1 c2 c3 c4 c5 c8
      go_wp2_with (first
        | (go_at_call 18; (with_reducible refine (HFM.out _ HL6.out).mono ?_); rintro e w7 ⟨rfl, b7⟩; have B7 := Lib.hid b7; have d9 := (cells9 (obj_alloc (obj_below HFO6.out b7 (obj_lt HFO6.out)) (.cells #[.int .i64 fr.wire, .int .i64 fr.kind, .int .i64 fr.src, .int .i64 fr.dst, .int .u32 (fr.life : Int), .int .u32 (fr.seq : Int), .int .u32 (fr.ack : Int), .int .u32 (fr.hint : Int), .string fr.data] 37))).2.2.2.2.2.2.2.2.1; clear b7; dsimp only [frV])
        | (go_at_call 21; (with_reducible refine (list_any _ _).mono ?_); rintro e w8 ⟨rfl, rfl⟩))
      go_ret3
      have hz := B7.out.size
      have hz2 := HT6.out.size
      have hz3 : w6.heap.size ≤ (w7.alloc (.cells #[.int .i64 fr.wire, .int .i64 fr.kind, .int .i64 fr.src, .int .i64 fr.dst, .int .u32 (fr.life : Int), .int .u32 (fr.seq : Int), .int .u32 (fr.ack : Int), .int .u32 (fr.hint : Int), .string fr.data] 37)).heap.size := by rw [World.size_alloc]; omega
      have B9 := (B7.out.alloc hz (.cells #[.int .i64 fr.wire, .int .i64 fr.kind, .int .i64 fr.src, .int .i64 fr.dst, .int .u32 (fr.life : Int), .int .u32 (fr.seq : Int), .int .u32 (fr.ack : Int), .int .u32 (fr.hint : Int), .string fr.data] 37)).alloc hz3 (.cells #[.string f.data] 9)
      refine ⟨_, _, rfl, HL6.out.below B9, HT6.out.belowR B9, row_fresh (g := w7.heap.size + 1) (xs := [.string f.data]) ?_ rfl (by simp [maxLen]), row_fresh (g := w7.heap.size) (xs := frL fr) (obj_alloc (World.alloc_heap_new w7 _) _) rfl (by simp [maxLen]), ⟨fun k hk => ?_, fun k hk => ?_⟩⟩
      · have := World.alloc_heap_new (w7.alloc (.cells #[.int .i64 fr.wire, .int .i64 fr.kind, .int .i64 fr.src, .int .i64 fr.dst, .int .u32 (fr.life : Int), .int .u32 (fr.seq : Int), .int .u32 (fr.ack : Int), .int .u32 (fr.hint : Int), .string fr.data] 37)) (.cells #[.string f.data] 9)
        rwa [World.size_alloc] at this
      · simp [Value.ownBlock] at hk
        omega
      · simp [Value.ownBlock] at hk
        omega
end Go.Proofs.Ytbmlenffcmmkbaa
