/-
  What is read of bytes, by the reference; whole, repaired, appended. Conditions: strings are at most 2^26 bytes long.
-/
import Derived.Test.YtnbdiifpldgkhaaJouC
namespace Ros
open Go Go.RowKit
theorem owns_below {W w1 : World} {b : Nat} {e : TypeId} {size n : Nat} {v : Value} {xs : List Value} (h : W.ownsRow b e size v n xs) (hb : Below W.heap.size W w1) : w1.ownsRow b e size v n xs :=
  h.kept (row := none) ⟨hb.os, hb.tape, hb.output, hb.size, fun k hk _ => hb.block k hk⟩ (by cases h' : v.ownBlock <;> simp)
theorem owns_form {W : World} {b : Nat} {e : TypeId} {size n : Nat} {v : Value} {xs : List Value} (h : W.ownsRow b e size v n xs) : ∃ A c, v = .slice A n c := by
  obtain ⟨A, c, h1, _⟩ := (row_of_owns h).form
  exact ⟨A, c, h1⟩
end Ros
namespace Go.Proofs.Ytnbdiifpldgkhaa
open Go.RowKit Go.Shelf Ros
attribute [local go_sem] Oper.semAt_some

set_option maxRecDepth 100000 in
set_option maxHeartbeats 1000000 in
theorem refread_any (s : ByteArray) (w : World) (hs : s.size ≤ 67108864) :
    Calls Try.prog 18 #[.string s] w fun e w' => ∃ A c, e = .returned (.tuple #[.slice A (readL (bl s)).1.length c, .int .i64 ((readL (bl s)).2 : Int)]) ∧
      Row w' 9 1 (.slice A (readL (bl s)).1.length c) (readL (bl s)).1.length (cellsS (readL (bl s)).1) ∧ Below w.heap.size w w' := by
  obtain ⟨i0, hi0, hz0, hz1, hz2⟩ := info_parts str_info
  go_enter Try.func18, Try.ntmps18
  go_wp2
  go_loopw [4, 5] (fun o i wr => ∃ (ds : List (List UInt8)) (k : Nat) (A : Option Addr) (c : Nat), i = .int .i64 k ∧ o = .slice A ds.length c ∧ k ≤ s.size ∧ 9 * ds.length ≤ k ∧ wr.ownsRow w.heap.size 9 1 (.slice A ds.length c) ds.length (cellsS ds) ∧
    readL (bl s) = (ds ++ (readL ((bl s).drop k)).1, k + (readL ((bl s).drop k)).2) ∧ Below w.heap.size w wr) (fun _ i _ => s.size - (intOf i).toNat)
  case atStart => exact ⟨[], 0, none, 0, rfl, rfl, by omega, by simp, World.ownsRow_nil _ _ _ _, by simp, Below.refl _ _⟩
  case round =>
    obtain ⟨ds, k, A, c, rfl, rfl, hk, h9, hrow, hR, hB⟩ := hrel
    have hsl := sl_l (P := Try.prog) Try.underlying9 s k hk (k : Int) rfl
    have HO := Lib.hid (fun W : World => one_any (s.extract k s.size) W (by rw [size_bl, bl_from, List.length_drop, ← size_bl]; omega))
    rw [bl_from] at HO
    have hle := oneN_le ((bl s).drop k)
    rw [List.length_drop, ← size_bl] at hle
    by_cases h0 : oneN ((bl s).drop k) = 0
    · rw [readL_zero h0] at hR
      rw [h0] at HO
      have HR := Lib.hid hR
      have HRow := Lib.hid hrow
      have HB := Lib.hid hB
      clear hR hrow hB hle h0
      generalize s.extract k s.size = u at *
      go_wp2_with (go_at_call 30; refine (HO.out _).mono ?_; rintro e w1 ⟨rfl, b1⟩)
      go_ret2
      rw [HR.out]
      simp only [List.append_nil, Nat.add_zero]
      exact ⟨A, c, rfl, row_of_owns (owns_below HRow.out b1), bt HB.out b1⟩
    · rw [readL_step h0, List.drop_drop] at hR
      have hz : ((oneN ((bl s).drop k) : Int) == 0) = false := by simpa using h0
      have HC := Lib.hid (cellsS_snoc ds (oneD ((bl s).drop k)))
      have HR := Lib.hid (show readL (bl s) = ((ds ++ [oneD ((bl s).drop k)]) ++ (readL ((bl s).drop (k + oneN ((bl s).drop k)))).1, k + oneN ((bl s).drop k) + (readL ((bl s).drop (k + oneN ((bl s).drop k)))).2) by rw [hR]; simp [Nat.add_assoc])
      have HL := Lib.hid (show (ds ++ [oneD ((bl s).drop k)]).length = ds.length + 1 by simp)
      have hB2 := hB.size
      have hB2' : ∀ o : Obj, ∀ W : World, w.heap.size ≤ W.heap.size → w.heap.size ≤ (W.alloc o).heap.size := fun o W h => by rw [World.size_alloc]; omega
      have HRow := Lib.hid hrow
      have HB := Lib.hid hB
      have hkn : k + oneN ((bl s).drop k) ≤ s.size := by omega
      have hn9 : 9 ≤ oneN ((bl s).drop k) := by omega
      clear hR hrow hB hle h0
      generalize ds ++ [oneD ((bl s).drop k)] = ds2 at *
      generalize str (oneD ((bl s).drop k)) = d at *
      generalize oneN ((bl s).drop k) = n at *
      generalize s.extract k s.size = u at *
      have hm1 : ds.length + 1 ≤ maxLen := by unfold maxLen; omega
      have hm2 : (ds.length + 1) * 16 ≤ 140737488355328 := by omega
      go_wp2_with (first
        | (go_at_call 30; refine (HO.out _).mono ?_; rintro e w1 ⟨rfl, b1⟩; have r1 := (owns_below HRow.out b1).alloc (.cells #[.string d] 9); have hl1 := hB2' (.cells #[.string d] 9) w1 (Nat.le_trans hB2 b1.size))
        | (at_builtin; generalize hG : wpList _ _ _ _ _ _ = G))
      subst hG
      refine wpList_append_own _ rfl _ _ 22 rfl w.heap.size 9 i0 (.string ⟨#[]⟩) 1 16 Try.underlying22 hi0 hz0 hz1 hz2 rfl (by decide) _ _ _ rfl r1 ⟨w1.heap.size, 0, none⟩ 1 1 [.string d] rfl rfl (cell_one_new _ _ _) (by simp [Value.oneCell']) hm1 hm2 hl1 ?_
      intro v' w2 hown' hgrow _
      obtain ⟨g', cap', rfl⟩ := ownsRow_succ hown'
      have HB2 := Lib.hid ((bal (bt HB.out b1) (.cells #[.string d] 9)).grown hgrow hl1 (fun j e => (r1.lt _ e).1))
      rw [← HC.out] at hown'
      have HO' := Lib.hid hown'
      clear hown' hgrow r1 hsl
      go_wp2
      go_roundw
      case rel => exact ⟨ds2, k + n, some ⟨g', 0, none⟩, cap', by go_num, by rw [HL.out], hkn, by rw [HL.out]; omega, by rw [HL.out]; exact HO'.out, HR.out, HB2.out⟩
      case measure => simp [intOf]; omega
end Go.Proofs.Ytnbdiifpldgkhaa
