/-
  A node's part: records, halves, whether an instance is one. Conditions: numbers are as the program's types allow.
-/
import Derived.Test.YtlboeaapmfpipaaPaxA
import Derived.Deep.RegionLaw
namespace Ros
open Go Go.RowKit Go.Maps Go.ChangeMaps
theorem halves_str (n : Nat) : str (toB 4 (n % 4294967296)) ++ str (toB 4 (n / 4294967296)) = str (halvesL n) := by
  apply bl_inj; rw [bl_append, bl_str, bl_str, bl_str]; rfl
theorem rec_start (b : UInt8) (i : Nat) : (⟨#[b]⟩ : ByteArray) ++ str (toB 4 i) = str (b :: toB 4 i) := by
  apply bl_inj; rw [bl_append, bl_str, bl_str]; rfl
theorem rec_join (b : UInt8) (i : Nat) (l : List ByteArray) : str (b :: toB 4 i) ++ joinB l = str (b :: (toB 4 i ++ l.flatMap bl)) := by
  apply bl_inj; rw [bl_append, bl_joinB, bl_str, bl_str]; rfl
theorem halvesL_len (n : Nat) : (halvesL n).length = 8 := by unfold halvesL; rw [List.length_append, toB_length, toB_length]
end Ros
namespace Go.Proofs.Ytlboeaapmfpipaa
open Go.RowKit Go.Shelf Ros
attribute [local go_sem] Oper.semAt_some

set_option maxHeartbeats 400000 in
theorem isInst_any (i : Int) (w : World) :
    Calls Try.prog 28 #[.int .i64 i] w fun e w' => e = .returned (.bool (isI i)) ∧ w = w' := by
  by_cases h1 : 1 ≤ i
  · by_cases h2 : i ≤ 10000
    · rw [isI_iff.2 ⟨h1, h2⟩]
      go_enter Try.func28, Try.ntmps28
      go_wp2
      go_ret
      exact ⟨rfl, rfl⟩
    · have : isI i = false := by rw [← Bool.not_eq_true, isI_iff]; omega
      rw [this]
      have h3 : ¬ i ≤ 10000 := h2
      go_enter Try.func28, Try.ntmps28
      go_wp2
      go_ret
      exact ⟨rfl, rfl⟩
  · have : isI i = false := by rw [← Bool.not_eq_true, isI_iff]; omega
    rw [this]
    go_enter Try.func28, Try.ntmps28
    go_wp2
    go_ret
    exact ⟨rfl, rfl⟩

set_option maxHeartbeats 400000 in
theorem halves_any (n : Nat) (w : World) (hn : n < 18446744073709551616) :
    Calls Try.prog 26 #[.int .u64 (n : Int)] w fun e w' => e = .returned (.string (str (halvesL n))) ∧ Below w.heap.size w w' := by
  obtain ⟨r, hr⟩ : ∃ r, r = n % 4294967296 := ⟨_, rfl⟩
  obtain ⟨q, hq⟩ : ∃ q, q = n / 4294967296 := ⟨_, rfl⟩
  have hr2 : r < 4294967296 := by omega
  have hq2 : q < 4294967296 := by omega
  have e1 : (n : Int) % 4294967296 = (r : Int) := by omega
  have e3 : (n : Int) / 4294967296 = (q : Int) := by omega
  have HE := Lib.hid (halves_str n)
  rw [← hr, ← hq] at HE
  clear hr hq
  have HA := Lib.hid (fun W : World => put_any r W (by omega))
  have HB := Lib.hid (fun W : World => put_any q W (by omega))
  have hz1 : (str (toB 4 r)).size ≤ 4 := by rw [size_str, toB_length]; omega
  have hz2 : (str (toB 4 q)).size ≤ 4 := by rw [size_str, toB_length]; omega
  rw [← HE.out]
  generalize str (toB 4 r) = a at *
  generalize str (toB 4 q) = b at *
  clear HE
  go_enter Try.func26, Try.ntmps26
  go_wp2_with (first
    | (go_at_call 32; (with_reducible refine (HA.out _).mono ?_); rintro e w1 ⟨rfl, b1⟩)
    | (go_at_call 32; (with_reducible refine (HB.out _).mono ?_); rintro e w2 ⟨rfl, b2⟩))
  go_ret
  exact ⟨rfl, bt b1 b2⟩

set_option maxHeartbeats 1000000 in
theorem record_any (b : UInt8) (kv : Int) (hkv : kv = (b.toNat : Int)) (i : Nat) (hi : i ≤ 10000) (A : Option Addr) (c : Nat) (l : List ByteArray) (w : World) (ha : ArgAt w 1 A l.length (l.map Value.string)) (hl : l.length ≤ 1000) (hs : (joinB l).size ≤ 100000) :
    Calls Try.prog 25 #[.int .u8 kv, .int .i64 (i : Int), .slice A l.length c] w fun e w' => e = .returned (.string (str (b :: (toB 4 i ++ l.flatMap bl)))) ∧ Below w.heap.size w w' := by
  have HA := Lib.hid ha
  have HP := Lib.hid (fun W : World => put_any i W (by omega))
  have HE := Lib.hid (rec_start b i)
  have HJ := Lib.hid (rec_join b i l)
  have hz0 : (str (toB 4 i)).size ≤ 4 := by rw [size_str, toB_length]; omega
  have hz1 : (str (b :: toB 4 i)).size ≤ 5 := by rw [size_str, List.length_cons, toB_length]; omega
  rw [← HJ.out]
  clear ha HJ
  have hwr : IntKind.u32.wrap (i : Int) = (i : Int) := by simp [IntKind.wrap, IntKind.signed, IntKind.bits]; omega
  have hcv : ∀ W : World, (convert 75 9 (.slice (some ⟨W.heap.size, 0, none⟩) 1 1)).run Try.prog (W.alloc (.cells #[.int .u8 kv] 5)) = .ok (.string ⟨#[b]⟩) (W.alloc (.cells #[.int .u8 kv] 5)) := fun W => by
    subst hkv
    exact run_convert_bytes_back (P := Try.prog) (W.alloc (.cells #[.int .u8 (b.toNat : Int)] 5)) 75 9 5 ⟨W.heap.size, 0, none⟩ 1 [b] Try.underlying75 Try.underlying5 Try.underlying9 (@cells_new W _ 5 [b] rfl)
  have hcv2 : ∀ W : World, (convert 75 9 (.slice (some ⟨W.heap.size, 0, none⟩) 1 1)).run Try.prog (W.alloc (.cells #[.int .u8 kv] 5)).drew = .ok (.string ⟨#[b]⟩) (W.alloc (.cells #[.int .u8 kv] 5)).drew := fun W => hcv W.drew
  have HCV := Lib.hid (fun (w1 : World) (b1 : Below (w.alloc (.cells #[.int .u8 kv] 5)).drew.heap.size (w.alloc (.cells #[.int .u8 kv] 5)).drew w1) => (show (convert 75 9 (.slice (some ⟨w.heap.size, 0, none⟩) 1 1)).run Try.prog w1 = .ok (.string ⟨#[b]⟩) w1 from by
    have hh : w1.heap[w.heap.size]? = some (.cells #[.int .u8 kv] 5 (0, 0)) := (b1.block w.heap.size (by show _ < (w.alloc _).heap.size; simp)).trans (World.alloc_heap_new w _)
    refine run_convert_bytes_back (P := Try.prog) w1 75 9 5 ⟨w.heap.size, 0, none⟩ 1 [b] Try.underlying75 Try.underlying5 Try.underlying9 (fun j hj => ?_)
    obtain rfl : j = 0 := by simpa using hj
    rw [addr_add, cell_row hh, hkv]; rfl))
  clear hkv
  generalize str (b :: toB 4 i) = s0 at *
  generalize str (toB 4 i) = p at *
  generalize (⟨#[b]⟩ : ByteArray) = s1 at *
  have hsz1 : s1.size ≤ 5 := by
    have h := HE.out
    have h2 : (s1 ++ p).size = s0.size := by rw [h]
    rw [ByteArray.size_append'] at h2; omega
  have hcc : (9223372036854775807 < s1.size + p.size) = False := eq_false (by omega)
  go_enter Try.func25, Try.ntmps25
  go_upto_region 1 with fail
  go_cut [7] (fun v wx => v = .string s0 ∧ Below w.heap.size w wx)
  case first =>
    go_region_law ((go_simp; go_at_call 32; refine (HP.out _).mono ?_; rintro e w1 ⟨rfl, b1⟩; try have q1 := HCV.out w1 b1))
    all_goals
      go_wp2_with fail
      go_meet
      refine ⟨by rw [HE.out], ?_⟩
      repeat (first | assumption | exact Below.refl _ _ | apply bal | apply Below.drew | (apply bt; rotate_left; assumption))
  case rest =>
    obtain ⟨rfl, hB⟩ := hcut
    have HB := Lib.hid hB
    clear hB hcv hcv2 HCV HP HE
    go_wp2
    go_loop [7, 19] (fun s j => ∃ k : Nat, k ≤ l.length ∧ j = .int .i64 k ∧ s = .string (s0 ++ joinB (l.take k))) (fun _ j => l.length - (intOf j).toNat)
    case atStart => exact ⟨0, by omega, rfl, by simp [joinB, show (⟨#[]⟩ : ByteArray) = ByteArray.empty from rfl]⟩
    case round =>
      obtain ⟨k, hk, rfl, rfl⟩ := hrel
      by_cases hlt : k < l.length
      · obtain ⟨a, hl1, rfl, _, c0⟩ := (HA.out.below HB.out).one k hlt
        have HS := Lib.hid (show (s0 ++ joinB (l.take k)) ++ l[k] = s0 ++ joinB (l.take (k + 1)) by rw [ByteArray.append_assoc, joinB_take l k hlt])
        have h1 : (joinB (l.take k) ++ l[k]).size ≤ 100000 := by rw [joinB_take l k hlt]; exact Nat.le_trans (joinB_size _ _) hs
        have h2 : ((s0 ++ joinB (l.take k))).size + l[k].size ≤ 200000 := by rw [ByteArray.size_append'] at h1 ⊢; omega
        generalize l[k] = x at *
        generalize s0 ++ joinB (l.take k) = s2 at *
        go_wp2
        go_round
        case rel => exact ⟨k + 1, by omega, by go_num, by rw [HS.out]⟩
        case measure => simp [intOf]; omega
      · obtain rfl : k = l.length := by omega
        go_wp2
        go_ret
        exact ⟨rfl, HB.out⟩
end Go.Proofs.Ytlboeaapmfpipaa
