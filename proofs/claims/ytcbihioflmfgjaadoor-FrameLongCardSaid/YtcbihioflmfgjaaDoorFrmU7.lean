/-
  FrameLong: the walk. Conditions: the frame is as its type allows; the two sentinels stand in memory.
-/
import Derived.Test.YtcbihioflmfgjaaDoorFrmT
import Derived.Laws.MakeOwn
import Derived.Laws.IdiomStrings
import Derived.Deep.DeepCutAuto
namespace Go.Proofs.YtcbihioflmfgjaaDoor
open Go.RowKit Go.Shelf Ros Go.Maps
attribute [local go_sem] Oper.semAt_some
set_option linter.unusedVariables false
theorem madeF_zeros (n : Nat) : madeCells #[Value.int .u8 0] n = cellsOf (List.replicate n 0) := by
  apply Array.ext_getElem?
  intro j
  by_cases hj : j < n
  · simp [madeCells, cellsOf, hj, Nat.mod_one]
  · simp [madeCells, cellsOf, hj]
theorem u8F_info : (Tryd.prog.info? 5).map (fun i => (i.zero, i.size, i.bytes)) = some (some (.int .u8 0), 1, 1) := by kernel_rfl
theorem makeF_zeros (n : Nat) (hn : n ≤ 1000000) (W : World) :
    (Instr.makeSlice 36 (.int .i64 (n : Int)) (.int .i64 (n : Int))).run Tryd.prog W = .ok (.slice (some ⟨W.heap.size, 0, none⟩) n n) (W.alloc (.cells (cellsOf (List.replicate n 0)) 5)) := by
  obtain ⟨i0, hi0, hz0, hz1, hz2⟩ := info_parts u8F_info
  have h := run_make (P := Tryd.prog) W 36 5 i0 (.int .u8 0) Tryd.underlying36 hi0 hz0 .i64 .i64 (n : Int) (n : Int) (by omega) (Int.le_refl _) (by rw [hz2]; omega) (by omega)
  rw [hz1, Nat.mul_one, Int.toNat_natCast, show (Value.int .u8 0).cells = #[Value.int .u8 0] from rfl, madeF_zeros] at h
  exact h
theorem convF_zeros (n : Nat) (W : World) :
    (convert 36 9 (.slice (some ⟨W.heap.size, 0, none⟩) n n)).run Tryd.prog (W.alloc (.cells (cellsOf (List.replicate n 0)) 5)) = .ok (.string (str (List.replicate n 0))) (W.alloc (.cells (cellsOf (List.replicate n 0)) 5)) := by
  have h := run_convert_bytes_back (P := Tryd.prog) (W.alloc (.cells (cellsOf (List.replicate n 0)) 5)) 36 9 5 ⟨W.heap.size, 0, none⟩ n (List.replicate n 0) Tryd.underlying36 Tryd.underlying5 Tryd.underlying9 (cells_new rfl)
  rw [List.length_replicate] at h
  exact h
def longF (wi : Int) (z : ByteArray) : Fr := ⟨wi, 0, 0, 0, 0, 0, 0, 0, z⟩
theorem z0 : -9223372036854775808 ≤ (0 : Int) ∧ (0 : Int) ≤ 9223372036854775807 := by omega
theorem n0 : (0 : Nat) < 4294967296 := by omega
theorem longF_ok {wi : Int} {z : ByteArray} (hw : isW wi) (hz : z.size ≤ 1000000) : okF (longF wi z) :=
  ⟨by show -9223372036854775808 ≤ wi ∧ wi ≤ 9223372036854775807; rcases hw with e | e <;> omega, z0, z0, z0, n0, n0, n0, n0, by show z.size ≤ maxLen; unfold maxLen; omega⟩
theorem longF_right {wi : Int} {z : ByteArray} (hw : isW wi) : rightB (longF wi z) = decide (z.size ≤ 4096) := by
  unfold rightB
  rw [decide_eq_decide]
  exact ⟨fun h => h.2.2.1, fun h => ⟨hw, (by omega : (0 : Int) ≤ 0 ∧ (0 : Int) ≤ 31), h, (by omega : (0 : Int) ≤ 0 ∧ (0 : Int) < 16), (by omega : (0 : Int) ≤ 0 ∧ (0 : Int) < 16), .inr rfl⟩⟩
set_option maxRecDepth 100000 in
set_option maxHeartbeats 4000000 in
theorem frameLong_walk (n : Int) (two : Bool) (hn1 : -9223372036854775808 ≤ n) (hn2 : n ≤ 9223372036854775807) (a0 a1 : Addr) (w : World) (hS : Snt w a0 a1) : Calls Tryd.prog 6 #[.int .i64 n, .bool two] w fun e w' => e = .returned (.bool true) ∧ Below w.heap.size w w' := by
  have HSH := Lib.hid (fun (W : World) (h : Below w.heap.size w W) => shownF_any a0 a1 W (hS.below h))
  clear hS
  by_cases hlo : n < 4090
  · go_enter Tryd.func6, Tryd.ntmps6
    go_wp2_with (go_at_call 11; (with_reducible refine (HSH.out _ (Below.refl _ w)).mono ?_); rintro e w1 ⟨rfl, b1⟩; have B1 := Lib.hid b1; clear b1)
    go_ret
    exact ⟨rfl, B1.out⟩
  by_cases hhi : 4100 < n
  · go_enter Tryd.func6, Tryd.ntmps6
    go_wp2_with (go_at_call 11; (with_reducible refine (HSH.out _ (Below.refl _ w)).mono ?_); rintro e w1 ⟨rfl, b1⟩; have B1 := Lib.hid b1; clear b1)
    go_ret
    exact ⟨rfl, B1.out⟩
  obtain ⟨m, rfl⟩ := Int.eq_ofNat_of_zero_le (show 0 ≤ n by omega)
  have hmk := makeF_zeros m (by omega)
  have hcv := convF_zeros m
  have hsz : (str (List.replicate m 0)).size = m := by rw [str_size, List.length_replicate]
  generalize str (List.replicate m 0) = z at *
  generalize cellsOf (List.replicate m 0) = Z at *
  cases two with
  | false =>
    have hr := longF_right (wi := 1) (z := z) (.inl rfl)
    have HEN := Lib.hid (fun W => (show Calls Tryd.prog 13 #[.agg #[.int .i64 1, .int .i64 0, .int .i64 0, .int .i64 0, .int .u32 0, .int .u32 0, .int .u32 0, .int .u32 0, .string z]] W fun e w' => e = .returned (.tuple #[.string (encS (longF 1 z)), .int .i64 (encE (longF 1 z))]) ∧ Below W.heap.size W w' from encode_any (longF 1 z) (longF_ok (.inl rfl) (by omega)) W))
    by_cases hm : m ≤ 4096
    · rw [hsz, decide_eq_true hm] at hr
      have he := encS_size hr
      rw [show (if (longF 1 z).wire = 2 then 28 else 24) + (longF 1 z).data.size = 24 + z.size from rfl, hsz] at he
      rw [show encE (longF 1 z) = 0 by unfold encE; rw [if_pos hr]] at HEN
      generalize encS (longF 1 z) = E at *
      have hE : (E.size : Int) = 24 + (m : Int) := by omega
      have hm1 : (m : Int) ≤ 4096 := by omega
      clear hr he hsz
      go_enter Tryd.func6, Tryd.ntmps6
      go_wp2_with (first | (go_at_call 11; (with_reducible refine (HSH.out _ (Below.refl _ w)).mono ?_); rintro e w1 ⟨rfl, b1⟩; have B1 := Lib.hid b1; clear b1) | (go_at_call 13; (with_reducible refine (HEN.out _).mono ?_); rintro e w3 ⟨rfl, b3⟩; have B3 := Lib.hid (btL2 ((B1.out.alloc B1.out.size (.cells Z 5)).alloc (B1.out.alloc B1.out.size (.cells Z 5)).size (.cells #[.int .i64 1, .int .i64 0, .int .i64 0, .int .i64 0, .int .u32 0, .int .u32 0, .int .u32 0, .int .u32 0, .string z] 24)) b3); clear b3))
      go_ret
      exact ⟨rfl, B3.out⟩
    · rw [hsz, decide_eq_false hm] at hr
      rw [show encE (longF 1 z) = 20 by unfold encE; rw [hr]; rfl] at HEN
      generalize encS (longF 1 z) = E at *
      have hm1 : ¬ ((m : Int) ≤ 4096) := by omega
      clear hr hsz
      go_enter Tryd.func6, Tryd.ntmps6
      go_wp2_with (first | (go_at_call 11; (with_reducible refine (HSH.out _ (Below.refl _ w)).mono ?_); rintro e w1 ⟨rfl, b1⟩; have B1 := Lib.hid b1; clear b1) | (go_at_call 13; (with_reducible refine (HEN.out _).mono ?_); rintro e w3 ⟨rfl, b3⟩; have B3 := Lib.hid (btL2 ((B1.out.alloc B1.out.size (.cells Z 5)).alloc (B1.out.alloc B1.out.size (.cells Z 5)).size (.cells #[.int .i64 1, .int .i64 0, .int .i64 0, .int .i64 0, .int .u32 0, .int .u32 0, .int .u32 0, .int .u32 0, .string z] 24)) b3); clear b3))
      go_ret
      refine ⟨?_, B3.out⟩
      show Ending.returned (.bool (!decide ((m : Int) ≤ 4096))) = _
      rw [decide_eq_false (by omega)]
      rfl
  | true =>
    have hr := longF_right (wi := 2) (z := z) (.inr rfl)
    have HEN := Lib.hid (fun W => (show Calls Tryd.prog 13 #[.agg #[.int .i64 2, .int .i64 0, .int .i64 0, .int .i64 0, .int .u32 0, .int .u32 0, .int .u32 0, .int .u32 0, .string z]] W fun e w' => e = .returned (.tuple #[.string (encS (longF 2 z)), .int .i64 (encE (longF 2 z))]) ∧ Below W.heap.size W w' from encode_any (longF 2 z) (longF_ok (.inr rfl) (by omega)) W))
    by_cases hm : m ≤ 4096
    · rw [hsz, decide_eq_true hm] at hr
      have he := encS_size hr
      rw [show (if (longF 2 z).wire = 2 then 28 else 24) + (longF 2 z).data.size = 28 + z.size from rfl, hsz] at he
      rw [show encE (longF 2 z) = 0 by unfold encE; rw [if_pos hr]] at HEN
      generalize encS (longF 2 z) = E at *
      have hE : (E.size : Int) = 28 + (m : Int) := by omega
      have hm1 : (m : Int) ≤ 4096 := by omega
      clear hr he hsz
      go_enter Tryd.func6, Tryd.ntmps6
      go_wp2_with (first | (go_at_call 11; (with_reducible refine (HSH.out _ (Below.refl _ w)).mono ?_); rintro e w1 ⟨rfl, b1⟩; have B1 := Lib.hid b1; clear b1) | (go_at_call 13; (with_reducible refine (HEN.out _).mono ?_); rintro e w3 ⟨rfl, b3⟩; have B3 := Lib.hid (btL2 ((B1.out.alloc B1.out.size (.cells Z 5)).alloc (B1.out.alloc B1.out.size (.cells Z 5)).size (.cells #[.int .i64 2, .int .i64 0, .int .i64 0, .int .i64 0, .int .u32 0, .int .u32 0, .int .u32 0, .int .u32 0, .string z] 24)) b3); clear b3))
      go_ret
      exact ⟨rfl, B3.out⟩
    · rw [hsz, decide_eq_false hm] at hr
      rw [show encE (longF 2 z) = 20 by unfold encE; rw [hr]; rfl] at HEN
      generalize encS (longF 2 z) = E at *
      have hm1 : ¬ ((m : Int) ≤ 4096) := by omega
      clear hr hsz
      go_enter Tryd.func6, Tryd.ntmps6
      go_wp2_with (first | (go_at_call 11; (with_reducible refine (HSH.out _ (Below.refl _ w)).mono ?_); rintro e w1 ⟨rfl, b1⟩; have B1 := Lib.hid b1; clear b1) | (go_at_call 13; (with_reducible refine (HEN.out _).mono ?_); rintro e w3 ⟨rfl, b3⟩; have B3 := Lib.hid (btL2 ((B1.out.alloc B1.out.size (.cells Z 5)).alloc (B1.out.alloc B1.out.size (.cells Z 5)).size (.cells #[.int .i64 2, .int .i64 0, .int .i64 0, .int .i64 0, .int .u32 0, .int .u32 0, .int .u32 0, .int .u32 0, .string z] 24)) b3); clear b3))
      go_ret
      refine ⟨?_, B3.out⟩
      show Ending.returned (.bool (!decide ((m : Int) ≤ 4096))) = _
      rw [decide_eq_false (by omega)]
      rfl
end Go.Proofs.YtcbihioflmfgjaaDoor
