/-
  BallotProposals, walked. Conditions: none but the arguments' own.
-/
import Derived.Test.YtcfaeddjohpohaaBalR
import Derived.Test.YtcfaeddjohpohaaBalP
namespace Ros
open Go Go.RowKit
theorem someL_ok {l : List Vt} (h : ∀ x ∈ l, x.p < 18446744073709551616 ∧ x.b < 18446744073709551616) : ∀ x ∈ someL l, x.ok := by
  intro x hx
  obtain ⟨y, hy, rfl⟩ := List.mem_map.1 hx
  have := h y (List.mem_of_mem_take hy)
  have h2 := (cutV_size 4100 y.s).1
  exact ⟨this.1, this.2, by show (cutV 4100 y.s).size ≤ _; omega⟩
theorem cellsVs_snoc (l : List Vt) (x : Vt) : cellsVs (l ++ [x]) = cellsVs l ++ cellsV x := by simp [cellsVs]
end Ros
namespace Go.Proofs.Ytcfaeddjohpohaa
open Go.RowKit Go.Shelf Ros
attribute [local go_sem] Oper.semAt_some
set_option linter.unusedVariables false

set_option maxRecDepth 100000 in
set_option maxHeartbeats 1000000 in
theorem refdecided_no (A : Option Addr) (c : Nat) (l : List Vt) (w : World) (hl : l.length ≤ maxLen) (h : ¬ (1 ≤ l.length ∧ l.length ≤ 16)) :
    Calls Try.prog 24 #[.slice A l.length c] w fun e w' => e = .returned (.tuple #[.string ⟨#[]⟩, .bool false, .int .i64 81]) ∧ Below w.heap.size w w' := by
  unfold maxLen at hl
  by_cases h1 : (l.length : Int) < 1
  · go_enter Try.func24, Try.ntmps24
    go_wp2
    go_ret3
    exact ⟨rfl, Below.refl _ _⟩
  · have h2 : ¬ (l.length : Int) ≤ 16 := by omega
    have h3 : 16 < (l.length : Int) := by omega
    go_enter Try.func24, Try.ntmps24
    go_wp2
    go_ret3
    exact ⟨rfl, Below.refl _ _⟩
theorem refdecided_any (A : Option Addr) (c : Nat) (l : List Vt) (w : World) (ha : ArgAt w 3 A l.length (cellsVs l)) (hl : l.length ≤ maxLen) (hok : ∀ x ∈ l, x.ok) :
    Calls Try.prog 24 #[.slice A l.length c] w fun e w' => e = .returned (.tuple #[.string (mdec l).1.1, .bool (mdec l).1.2, .int .i64 (mdec l).2]) ∧ Below w.heap.size w w' := by
  by_cases h : 1 ≤ l.length ∧ l.length ≤ 16
  · exact refdecided_in A c l w ha h.1 h.2 hok
  · rw [mdec_group h]; exact refdecided_no A c l w hl h

set_option maxRecDepth 100000 in
set_option maxHeartbeats 2000000 in
theorem some_any (A : Option Addr) (n c : Nat) (xs : List Vt) (w : World) (ha : ArgAt w 3 A n (cellsVs xs)) (hx : ∀ x ∈ xs, okV x) (hn : xs.length = n) :
    Calls Try.prog 18 #[.slice A n c] w fun e w' => ∃ A1 c1, e = .returned (.slice A1 (someL xs).length c1) ∧ Row w' 24 3 (.slice A1 (someL xs).length c1) (someL xs).length (cellsVs (someL xs)) ∧ (∀ b, (Value.slice A1 (someL xs).length c1).ownBlock = some b → w.heap.size ≤ b) ∧ Below w.heap.size w w' := by
  obtain ⟨i0, hi0, hz0, hz1, hz2⟩ := info_parts vote_info
  have HA := Lib.hid ha
  subst hn
  clear ha
  go_enter Try.func18, Try.ntmps18
  go_wp2
  go_loopw [3, 4] (fun v i wr => ∃ (k : Nat) (A1 : Option Addr) (c1 : Nat), k ≤ 20 ∧ k ≤ xs.length ∧ i = .int .i64 k ∧ v = .slice A1 k c1 ∧ Row wr 24 3 (.slice A1 k c1) k (cellsVs ((xs.take k).map shortV)) ∧ (∀ b, (Value.slice A1 k c1).ownBlock = some b → w.heap.size ≤ b) ∧ Below w.heap.size w wr) (fun _ i _ => 20 - (intOf i).toNat)
  case atStart => exact ⟨0, none, 0, by omega, by omega, rfl, rfl, Row.nil _ _ _, fun b hb => by simp [Value.ownBlock] at hb, Below.refl _ _⟩
  case round =>
    obtain ⟨k, A1, c1, hk, hkm, rfl, rfl, hR, hO, hB⟩ := hrel
    by_cases hlt : k < xs.length ∧ k < 20
    · obtain ⟨hl1, hl2⟩ := hlt
      obtain ⟨a, rfl, hab, p0, p1, p2⟩ := vote_at (HA.out.below hB) k hl1
      have hxo := hx _ (List.getElem_mem hl1)
      have HT := Lib.hid (show (xs.take (k + 1)).map shortV = (xs.take k).map shortV ++ [shortV xs[k]] by rw [List.take_succ_eq_append_getElem hl1, List.map_append]; rfl)
      have HR := Lib.hid hR
      have HO := Lib.hid hO
      have HB := Lib.hid hB
      have HC := Lib.hid (fun w => cut_any xs[k].s w hxo.2.2)
      clear hR hO hB hxo
      obtain ⟨t, ht⟩ : ∃ t, t = cutV 4100 xs[k].s := ⟨_, rfl⟩
      rw [← ht] at HC
      have hsv : shortV xs[k] = ⟨xs[k].p, xs[k].b, t⟩ := by rw [ht]; rfl
      have HT3 := Lib.hid (HT.out.trans (by rw [hsv]))
      clear ht hsv HT
      generalize xs[k] = x at *
      have hsrc := Lib.hid (Src.ofSlice (P := Try.prog) (size := 3) ((wr.alloc (.cells #[.int .u64 (x.p : Int), .int .u64 (x.b : Int), .string t] 24)).alloc (.cells #[.int .u64 (x.p : Int), .int .u64 (x.b : Int), .string t] 24)) Try.underlying36 ⟨wr.heap.size + 1, 0, none⟩ 1 1 [.int .u64 (x.p : Int), .int .u64 (x.b : Int), .string t] rfl (World.news_of_block (new2 wr _ _)) (by intro u hu; simp at hu; rcases hu with rfl | rfl | rfl <;> rfl))
      have hb1 := Lib.hid (show k + 1 ≤ maxLen by unfold maxLen; omega)
      have hb2 := Lib.hid (show (k + 1) * 32 ≤ 140737488355328 by omega)
      go_wp2_with (first
        | (go_at_call 11; refine (HC.out _).mono ?_; rintro e w2 ⟨rfl, rfl⟩)
        | (at_builtin; refine wpList_append_row _ rfl (.tmp 24) (.tmp 26) _ _ rfl 24 i0 _ 3 32 Try.underlying36 hi0 hz0 hz1 hz2 rfl (.slice A1 k c1) k _ rfl ((HR.out.alloc _).alloc _) _ 1 _ rfl hsrc.out hb1.out hb2.out ?_; intro A2 c2 w2 hr2 hg2 hat2))
      go_roundw
      case rel =>
        refine ⟨k + 1, A2, c2, by omega, by omega, by go_num, rfl, ?_, ?_, ?_⟩
        · rw [HT3.out, cellsVs_snoc]; exact hr2
        · intro b hb
          rcases hat2 with e | e
          · exact HO.out b (e.symm.trans hb)
          · rw [e] at hb; have := HB.out.size; simp at hb; omega
        · exact ((HB.out.alloc HB.out.size _).alloc (by have := HB.out.size; simp; omega) _).grown hg2 (by have := HB.out.size; simp; omega) (fun b hb => HO.out b hb)
      case measure => simp [intOf]; omega
    · have hs : someL xs = (xs.take k).map shortV := by
        unfold someL
        by_cases h : k = 20
        · rw [h]
        · have e1 : xs.take 20 = xs := List.take_of_length_le (by omega)
          have e2 : xs.take k = xs := List.take_of_length_le (by omega)
          rw [e1, e2]
      have hl : ((xs.take k).map shortV).length = k := by simp; omega
      have HSL := Lib.hid hs
      have HLL := Lib.hid hl
      have HR := Lib.hid hR
      have HO := Lib.hid hO
      have HB := Lib.hid hB
      clear hR hO hB hs hl hx
      have hkm2 : ¬ k < xs.length ∨ ¬ k < 20 := by omega
      go_wp2
      all_goals first
        | (exfalso; omega)
        | (go_ret; rw [HSL.out, HLL.out]; exact ⟨A1, c1, rfl, HR.out, HO.out, HB.out⟩)

set_option maxRecDepth 100000 in
set_option maxHeartbeats 2000000 in
theorem ballotProposals_walk (n : Int) (A : Option Addr) (m c : Nat) (xs : List Vt) (s : ByteArray) (w : World) (ha : ArgAt w 3 A m (cellsVs xs)) (hx : ∀ x ∈ xs, okV x) (hm : xs.length = m) (hs : s.size ≤ maxLen) (hn1 : -9223372036854775808 ≤ n) (hn2 : n ≤ 9223372036854775807) :
    Calls Try.prog 7 #[.int .i64 n, .slice A m c, .string s] w fun e w' => e = .returned (.bool true) ∧ Below w.heap.size w w' := by
  have HS := Lib.hid (fun (W : World) (h : ArgAt W 3 A m (cellsVs xs)) => some_any A m c xs W h hx hm)
  have HA := Lib.hid ha
  have hok := someL_ok (l := xs) fun x h => ⟨(hx x h).1, (hx x h).2.1⟩
  have hll : (someL xs).length ≤ 20 := by unfold someL; simp; omega
  have HC := Lib.hid (fun w => cut_any s w hs)
  have hc := (cutV_size 4100 s).1
  generalize cutV 4100 s = t at *
  generalize someL xs = l at *
  have H1 := Lib.hid (fun W A c h => proposal_any n A c l t W h (by omega) hok (by omega) hn1 hn2)
  have H2 := Lib.hid (fun W A c h => refproposal_any n A c l t W h (by omega) hok (by omega) hn1 hn2)
  have H3 := Lib.hid (fun W A c h => decided_any A c l W h (by unfold maxLen; omega) hok)
  have H4 := Lib.hid (fun W A c h => refdecided_any A c l W h (by unfold maxLen; omega) hok)
  clear ha hx hs hok hc
  generalize mprop n l t = r at *
  generalize mdec l = q at *
  go_enter Try.func7, Try.ntmps7
  go_wp2_with (first
    | (go_at_call 10; refine (shown_any _).mono ?_; rintro e w1 ⟨rfl, b1⟩; have B1 := Lib.hid b1; clear b1)
    | (go_at_call 18; refine (HS.out _ (HA.out.below B1.out)).mono ?_; rintro e w2 ⟨A2, c2, rfl, hr2, _, b2⟩; have B2 := Lib.hid (bt' B1.out b2); have R2 := Lib.hid (ArgAt.of_row hr2); clear hr2 b2)
    | (go_at_call 11; refine (HC.out _).mono ?_; rintro e w3 ⟨rfl, rfl⟩)
    | (go_at_call 22; refine (H1.out _ _ _ R2.out).mono ?_; rintro e w4 ⟨rfl, b4⟩; have B4 := Lib.hid (bt' B2.out b4); have R4 := Lib.hid (R2.out.below b4); clear b4)
    | (go_at_call 23; refine (H2.out _ _ _ R4.out).mono ?_; rintro e w5 ⟨rfl, b5⟩; have B5 := Lib.hid (bt' B4.out b5); have R5 := Lib.hid (R4.out.below b5); clear b5)
    | (go_at_call 19; refine (H3.out _ _ _ R5.out).mono ?_; rintro e w6 ⟨rfl, b6⟩; have B6 := Lib.hid (bt' B5.out b6); have R6 := Lib.hid (R5.out.below b6); clear b6)
    | (go_at_call 24; refine (H4.out _ _ _ R6.out).mono ?_; rintro e w7 ⟨rfl, b7⟩; have B7 := Lib.hid (bt' B6.out b7); clear b7))
  all_goals
    go_ret
    exact ⟨by simp, B7.out⟩
end Go.Proofs.Ytcfaeddjohpohaa
