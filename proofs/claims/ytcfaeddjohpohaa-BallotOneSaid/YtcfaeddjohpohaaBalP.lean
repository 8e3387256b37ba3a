/-
  BallotOwn, BallotRises, walked. Conditions: none but the arguments' own.
-/
import Derived.Test.YtcfaeddjohpohaaBalO
namespace Ros
open Go Go.RowKit
theorem own_group (n : Int) (ps : List Nat) (s : ByteArray) (hs : s.size ≤ 4000) : mprop n (ps.map fun p => ⟨p, 0, ⟨#[]⟩⟩) s = if groupB n ps.length = true then (s, 0) else (⟨#[]⟩, 81) := by
  have hr : (ps.map fun p => (⟨p, 0, ⟨#[]⟩⟩ : Vt)).all rightB = true := by
    rw [List.all_eq_true]
    intro x hx
    obtain ⟨p, _, rfl⟩ := List.mem_map.1 hx
    exact (rightB_iff _).2 ⟨Nat.zero_le _, .inr rfl, by show 0 ≤ 4000; omega⟩
  have hb : ∀ (l : List Nat) (a : Vt), a.b = 0 → bestV a (l.map fun p => ⟨p, 0, ⟨#[]⟩⟩) = a := by
    intro l
    induction l with
    | nil => intro a _; rfl
    | cons p t ih =>
      intro a ha
      unfold bestV at ih ⊢
      rw [List.map_cons, List.foldl_cons, if_neg (by simp only []; omega)]
      exact ih a ha
  unfold mprop
  rw [List.length_map, hr]
  simp [hs, hb]
theorem group_no {n : Int} {k : Nat} (h : groupB n k = false) : n < 1 ∨ 16 < n ∨ n < (k : Int) ∨ 2 * (k : Int) ≤ n := by
  have : ¬ groupB n k = true := by rw [h]; simp
  rw [group_iff] at this
  omega
end Ros
namespace Go.Proofs.Ytcfaeddjohpohaa
open Go.RowKit Go.Shelf Ros
attribute [local go_sem] Oper.semAt_some
attribute [local go_sem ↓] Go.wp_at_zero Go.wp_at_succ
set_option linter.unusedVariables false

set_option maxRecDepth 100000 in
set_option maxHeartbeats 4000000 in
theorem ballotOwn_walk (n : Int) (A : Option Addr) (m c : Nat) (xs : List Nat) (s : ByteArray) (w : World) (ha : ArgAt w 1 A m (xs.map (fun x : Nat => Value.int .u64 (x : Int)))) (hx : ∀ x ∈ xs, x < 18446744073709551616) (hs : s.size ≤ maxLen) (hn1 : -9223372036854775808 ≤ n) (hn2 : n ≤ 9223372036854775807) :
    Calls Try.prog 9 #[.int .i64 n, .slice A m c, .string s] w fun e w' => e = .returned (.bool true) ∧ Below w.heap.size w w' := by
  obtain ⟨i0, hi0, hz0, hz1, hz2⟩ := info_parts vote_info
  have HA := Lib.hid ha
  unfold maxLen at hs
  have hlen : xs.length = m := by have := ha.1; simpa using this
  have HX := Lib.hid hx
  clear ha hx
  have HLEN := Lib.hid hlen
  clear hlen
  go_enter Try.func9, Try.ntmps9
  go_wp2_with (go_at_call 10; refine (shown_any _).mono ?_; rintro e W1 ⟨rfl, h1⟩)
  go_loopw [8, 9] (fun v i wr => ∃ (k : Nat) (A1 : Option Addr) (c1 : Nat), k ≤ 16 ∧ k ≤ m ∧ i = .int .i64 k ∧ v = .slice A1 k c1 ∧ Row wr 24 3 (.slice A1 k c1) k (cellsVs ((xs.take k).map fun p => ⟨p, 0, ⟨#[]⟩⟩)) ∧ (∀ b, (Value.slice A1 k c1).ownBlock = some b → w.heap.size ≤ b) ∧ Below w.heap.size w wr) (fun _ i _ => 16 - (intOf i).toNat)
  case atStart => exact ⟨0, none, 0, by omega, by omega, rfl, rfl, Row.nil _ _ _, fun b hb => by simp [Value.ownBlock] at hb, h1⟩
  case round =>
    obtain ⟨k, A1, c1, hk, hkm, rfl, rfl, hR, hO, hB⟩ := hrel
    clear h1
    by_cases hlt : k < m ∧ k < 16
    · obtain ⟨hl1, hl2⟩ := hlt
      obtain ⟨a, hlx, rfl, hab, c0⟩ := (HA.out.below hB).one k hl1
      have hxb := HX.out xs[k] (List.getElem_mem hlx)
      have HT := Lib.hid (show (xs.take (k + 1)).map (fun p => (⟨p, 0, ⟨#[]⟩⟩ : Vt)) = (xs.take k).map (fun p => (⟨p, 0, ⟨#[]⟩⟩ : Vt)) ++ [⟨xs[k], 0, ⟨#[]⟩⟩] by rw [List.take_succ_eq_append_getElem hlx, List.map_append]; rfl)
      have HR := Lib.hid hR
      have HO := Lib.hid hO
      have HB := Lib.hid hB
      clear hR hO hB
      generalize xs[k] = x at *
      have hsrc := Lib.hid (fun (W : World) => Src.ofSlice (P := Try.prog) (size := 3) (W.alloc (.cells #[.int .u64 (x : Int), .int .u64 0, .string ⟨#[]⟩] 24)) Try.underlying36 ⟨W.heap.size, 0, none⟩ 1 1 [.int .u64 (x : Int), .int .u64 0, .string ⟨#[]⟩] rfl (World.news_of_block (World.alloc_heap_new W _)) (by intro u hu; simp at hu; rcases hu with rfl | rfl | rfl <;> rfl))
      have hb1 := Lib.hid (show k + 1 ≤ maxLen by unfold maxLen; omega)
      have hb2 := Lib.hid (show (k + 1) * 32 ≤ 140737488355328 by omega)
      go_wp2_with (at_builtin; refine wpList_append_row _ rfl (.tmp 23) (.tmp 29) _ _ rfl 24 i0 _ 3 32 Try.underlying36 hi0 hz0 hz1 hz2 rfl (.slice A1 k c1) k _ rfl (HR.out.alloc _) _ 1 _ rfl (hsrc.out _) hb1.out hb2.out ?_; intro A2 c2 w2 hr2 hg2 hat2)
      go_roundw
      case rel =>
        refine ⟨k + 1, A2, c2, by omega, by omega, by go_num, rfl, ?_, ?_, ?_⟩
        · rw [HT.out]; unfold cellsVs; rw [List.flatMap_append]; exact hr2
        · intro b hb
          rcases hat2 with e | e
          · exact HO.out b (e.symm.trans hb)
          · rw [e] at hb; have := HB.out.size; simp at hb; omega
        · exact (HB.out.alloc HB.out.size _).grown hg2 (by have := HB.out.size; simp; omega) (fun b hb => HO.out b hb)
      case measure => simp [intOf]; omega
    · have hcs := cutV_size 4000 s
      have hall : ∀ x ∈ (xs.take k).map (fun p => (⟨p, 0, ⟨#[]⟩⟩ : Vt)), x.ok := fun x hx => by
        obtain ⟨p, hp, rfl⟩ := List.mem_map.1 hx
        exact ⟨HX.out p (List.mem_of_mem_take hp), by show 0 < _; omega, by show 0 ≤ _; omega⟩
      have hl : ((xs.take k).map (fun p => (⟨p, 0, ⟨#[]⟩⟩ : Vt))).length = k := by have := HLEN.out; simp; omega
      have hP := proposal_any n A1 c1 ((xs.take k).map (fun p => (⟨p, 0, ⟨#[]⟩⟩ : Vt))) (cutV 4000 s) wr (by rw [hl]; exact ArgAt.of_row hR) (by rw [hl]; omega) hall (by omega) hn1 hn2
      rw [own_group n _ _ hcs.1] at hP
      have hlt2 : (xs.take k).length = k := by rw [← hl]; simp
      rw [hl, hlt2] at hP
      have HP := Lib.hid hP
      have HB := Lib.hid hB
      have hkm2 : ¬ k < m ∨ ¬ k < 16 := by omega
      clear hP hB hR hO hall hl hlt2 hlt
      have hss : (s.size ≤ 4000 ∧ cutV 4000 s = s) ∨ (4000 < s.size ∧ cutV 4000 s = s.extract 0 4000) := by
        by_cases h : s.size ≤ 4000
        · exact .inl ⟨h, cutV_short _ _ h⟩
        · exact .inr ⟨by omega, cutV_long _ _ (by omega)⟩
      cases hg : groupB n k
      · rw [hg] at HP
        have hgg := group_no hg
        clear hg
        rcases hss with ⟨hs1, hs2⟩ | ⟨hs1, hs2⟩
        all_goals
          rw [hs2] at HP
          clear hs2 hcs
          rcases hgg with hgg | hgg | hgg | hgg
          all_goals
            go_wp2_with (go_at_call 22; refine HP.out.mono ?_; rintro e W2 ⟨rfl, b2⟩; have B2 := Lib.hid (bt' HB.out b2); clear b2)
            all_goals first
              | (exfalso; omega)
              | (go_ret; exact ⟨rfl, B2.out⟩)
      · rw [hg] at HP
        have hgg := (group_iff _ _).1 hg
        clear hg
        obtain ⟨g1, g2, g3, g4⟩ := hgg
        rcases hss with ⟨hs1, hs2⟩ | ⟨hs1, hs2⟩
        all_goals
          rw [hs2] at HP
          clear hs2 hcs
          go_wp2_with (go_at_call 22; refine HP.out.mono ?_; rintro e W2 ⟨rfl, b2⟩; have B2 := Lib.hid (bt' HB.out b2); clear b2)
          all_goals first
            | (exfalso; omega)
            | (go_ret; exact ⟨by simp, B2.out⟩)
theorem open_nums {H : Type} {enc : TypeId × Value → H} {w : World} {base : Nat} {held : Bool} {A : Option Addr} {l c : Nat} {d : DataW H} {p : List MemPlace} (h : DataW.Trod enc Try.prog w base (fun _ => true) held 33 (.slice A l c) d p) :
    ∃ xs : List Nat, ArgAt w 1 A l (xs.map (fun x : Nat => Value.int .u64 (x : Int))) ∧ ∀ x ∈ xs, x < 18446744073709551616 := by
  obtain ⟨xs, _, h1, h2, _⟩ := open_argU Try.underlying33 Try.underlying22 (by kernel_rfl) h
  exact ⟨xs, h1, h2⟩
theorem open_flags {H : Type} {enc : TypeId × Value → H} {w : World} {base : Nat} {held : Bool} {A : Option Addr} {l c : Nat} {d : DataW H} {p : List MemPlace} (h : DataW.Trod enc Try.prog w base (fun _ => true) held 34 (.slice A l c) d p) :
    ∃ xs : List Bool, ArgAt w 1 A l (xs.map Value.bool) ∧ True := by
  obtain ⟨xs, _, h1, _⟩ := open_argB Try.underlying34 Try.underlying4 (by kernel_rfl) h
  exact ⟨xs, h1, trivial⟩
end Go.Proofs.Ytcfaeddjohpohaa
