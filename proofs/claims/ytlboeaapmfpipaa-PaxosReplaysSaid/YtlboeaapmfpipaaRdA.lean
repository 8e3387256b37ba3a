/-
  What a record tells: decided, number, the plain told, read in part. Conditions: strings are at most as long as Go allows.
-/
import Derived.Test.YtlboeaapmfpipaaPaxN
import Derived.Test.YtlboeaapmfpipaaPaxK
import Derived.Deep.QuietTactic
import Derived.BigQuiet
namespace Go.Proofs.Ytlboeaapmfpipaa
open Go.RowKit Go.Shelf Ros
attribute [local go_sem] Oper.semAt_some
set_option maxHeartbeats 1000000 in
theorem decidedN_any (i : Int) (hi : -9223372036854775808 ≤ i ∧ i ≤ 9223372036854775807) (w : World) (S : Nat → Prop) (g c : Nat) (s : Nd) (h : NdA w S g s c) :
    Calls Try.prog 20 #[.pointer (some ⟨g, 0, none⟩), .int .i64 i] w fun e w' => e = .returned (.tuple #[.string ((s.known i).getD ⟨#[]⟩), .bool (s.known i).isSome]) ∧ Below w.heap.size w w' := by
  obtain ⟨bk, c1, _, _, l1, l2⟩ := known_look h hi
  clear l2
  generalize (s.known i).getD ⟨#[]⟩ = y at *
  generalize (s.known i).isSome = b at *
  clear h
  go_enter Try.func20, Try.ntmps20
  go_wp2
  go_ret2
  exact ⟨rfl, (Below.refl _ w).alloc (Nat.le_refl _) _⟩
end Go.Proofs.Ytlboeaapmfpipaa
namespace Ros
open Go
def numB (s : ByteArray) : Nat := le (bl (s.extract 0 4)) + 4294967296 * le (bl (s.extract 4 8))
theorem or_halves {lo hi : Nat} (h1 : lo < 4294967296) (h2 : hi < 4294967296) : bits .or .u64 (IntKind.u64.wrap (IntKind.u64.wrap (hi : Int) * 4294967296)) (IntKind.u64.wrap (lo : Int)) = ((lo + 4294967296 * hi : Nat) : Int) := by
  have e1 : IntKind.u64.wrap (hi : Int) = (hi : Int) := by simp [IntKind.wrap, IntKind.signed, IntKind.bits]; omega
  have e2 : IntKind.u64.wrap (lo : Int) = (lo : Int) := by simp [IntKind.wrap, IntKind.signed, IntKind.bits]; omega
  have e3 : IntKind.u64.wrap ((hi : Int) * 4294967296) = ((4294967296 * hi : Nat) : Int) := by simp [IntKind.wrap, IntKind.signed, IntKind.bits]; omega
  rw [e1, e2, e3, u64_or_nat _ _ (by omega) (by omega)]
  have h := Nat.two_pow_add_eq_or_of_lt (i := 32) (b := lo) (by simpa using h1) hi
  rw [show (2 : Nat) ^ 32 = 4294967296 by decide] at h
  rw [← h, Nat.add_comm]
end Ros
namespace Go.Proofs.Ytlboeaapmfpipaa
open Go.RowKit Go.Shelf Ros
attribute [local go_sem] Oper.semAt_some
set_option maxHeartbeats 1000000 in
theorem number_any (s : ByteArray) (w : World) (hs : s.size = 8) :
    Calls Try.prog 36 #[.string s] w fun e w' => e = .returned (.int .u64 (numB s : Int)) ∧ Below w.heap.size w w' := by
  have h1 : (s.extract 0 4).size = 4 := by rw [ByteArray.size_extract]; omega
  have h2 : (s.extract 4 8).size = 4 := by rw [ByteArray.size_extract]; omega
  have HA := Lib.hid (fun W => get_yes (s.extract 0 4) W h1)
  have HB := Lib.hid (fun W => get_yes (s.extract 4 8) W h2)
  have l1 : le (bl (s.extract 0 4)) < 4294967296 := by have := le_lt (bl (s.extract 0 4)); rw [← size_bl, h1] at this; simpa using this
  have l2 : le (bl (s.extract 4 8)) < 4294967296 := by have := le_lt (bl (s.extract 4 8)); rw [← size_bl, h2] at this; simpa using this
  have HO := Lib.hid (or_halves l1 l2)
  clear l1 l2
  generalize hl : le (bl (s.extract 0 4)) = lo at *
  generalize hh : le (bl (s.extract 4 8)) = hi at *
  go_enter Try.func36, Try.ntmps36
  go_wp2_with (first
    | (go_at_call 35; (with_reducible refine (HA.out _).mono ?_); rintro e w1 ⟨rfl, b1⟩)
    | (go_at_call 35; (with_reducible refine (HB.out _).mono ?_); rintro e w2 ⟨rfl, b2⟩))
  go_ret
  refine ⟨?_, bt b1 b2⟩
  unfold numB
  rw [hl, hh]
  exact congrArg (fun x => Ending.returned (.int .u64 x)) HO.out
end Go.Proofs.Ytlboeaapmfpipaa
namespace Ros
open Go Go.RowKit
structure Told where
  kind : UInt8
  inst : Nat
  number : Nat
  value : ByteArray
def instOf (s : ByteArray) : Nat := le (bl (s.extract 1 5))
def nread (s : ByteArray) : Option Told :=
  if h : 5 ≤ s.size then
    (if 1 ≤ instOf s ∧ instOf s ≤ 10000 then
      (if s[0]'(by omega) = 100 then (if s.size - 5 ≤ 4000 then some ⟨100, instOf s, 0, s.extract 5 s.size⟩ else none)
      else if (s[0]'(by omega) = 112 ∨ s[0]'(by omega) = 118) ∧ 13 ≤ s.size then
        (if (s[0]'(by omega) = 112 ∧ s.size ≠ 13) ∨ ¬ (1 ≤ numB (s.extract 5 13) ∧ s.size - 13 ≤ 4000) then none else some ⟨s[0]'(by omega), instOf s, numB (s.extract 5 13), s.extract 13 s.size⟩)
      else none)
    else none)
  else none
def encTold (t : Told) : Value := .agg #[.int .u8 (t.kind.toNat : Int), .int .i64 (t.inst : Int), .int .u64 (t.number : Int), .string t.value]
end Ros
namespace Ros
open Go Go.RowKit
theorem cells4f {w : World} {g : Nat} {a b c d : Value} {t : TypeId} (h : w.heap[g]? = some (.cells #[a, b, c, d] t (0, 0))) :
    w.cell? ⟨g, 0, none⟩ = some a ∧ w.cell? ⟨g, 1, none⟩ = some b ∧ w.cell? ⟨g, 2, none⟩ = some c ∧ w.cell? ⟨g, 3, none⟩ = some d ∧ w.frozen? ⟨g, 0, none⟩ = false ∧ w.frozen? ⟨g, 1, none⟩ = false ∧ w.frozen? ⟨g, 2, none⟩ = false ∧ w.frozen? ⟨g, 3, none⟩ = false ∧ g < w.heap.size :=
  ⟨cell_row h 0, cell_row h 1, cell_row h 2, cell_row h 3, obj_frozen h 0, obj_frozen h 1, obj_frozen h 2, obj_frozen h 3, obj_lt h⟩
theorem instOf_lt (s : ByteArray) : instOf s < 4294967296 ∨ s.size < 5 := by
  by_cases h : 5 ≤ s.size
  · left
    have h1 : (s.extract 1 5).size = 4 := by rw [ByteArray.size_extract]; omega
    have := le_lt (bl (s.extract 1 5)); rw [← size_bl, h1] at this; unfold instOf; simpa using this
  · right; omega
end Ros
namespace Go.Proofs.Ytlboeaapmfpipaa
open Go.RowKit Go.Shelf Ros
attribute [local go_sem] Oper.semAt_some
def tv0 : Value := .agg #[.int .u8 0, .int .i64 0, .int .u64 0, .string ⟨#[]⟩]
set_option maxHeartbeats 1000000 in
theorem readN_short (s : ByteArray) (w : World) (h5 : s.size < 5) :
    Calls Try.prog 30 #[.string s] w fun e w' => e = .returned (.tuple #[tv0, .bool false]) ∧ Below w.heap.size w w' := by
  have hd : decide ((s.size : Int) < 5) = true := by simp; omega
  go_enter Try.func30, Try.ntmps30
  go_wp2
  refine bodyPost_ret (v := .tuple #[tv0, .bool false]) ?_ rfl ⟨rfl, ?_⟩
  · rw [results_cell_tmp rfl]
    go_simp
    rfl
  · repeat first | (refine Below.alloc ?_ (by first | omega | (simp; omega)) _) | (refine Below.setCell ?_ (by simp; try omega) _) | exact Below.refl _ _
set_option maxHeartbeats 1000000 in
theorem readN_inst (s : ByteArray) (w : World) (h5 : 5 ≤ s.size) (hm : s.size ≤ 140737488355328) (hi : ¬ (1 ≤ instOf s ∧ instOf s ≤ 10000)) :
    Calls Try.prog 30 #[.string s] w fun e w' => e = .returned (.tuple #[tv0, .bool false]) ∧ Below w.heap.size w w' := by
  have hd : decide ((s.size : Int) < 5) = false := by simp; omega
  have h1 : (s.extract 1 5).size = 4 := by rw [ByteArray.size_extract]; omega
  have hsl := sl_ab (P := Try.prog) Try.underlying9 s 1 5 (by omega) (by omega) 1 5 rfl rfl
  have HA := Lib.hid (fun W => get_yes (s.extract 1 5) W h1)
  have hlt : instOf s < 4294967296 := by rcases instOf_lt s with h | h <;> omega
  have HI := Lib.hid (fun W : World => isInst_any (instOf s : Int) W)
  unfold instOf at hi hlt HI
  generalize hl : le (bl (s.extract 1 5)) = m at *
  clear h1
  by_cases hg : 10000 < m
  · have hgd : decide ((m : Int) > 10000) = true := by simp; omega
    clear hi
    go_enter Try.func30, Try.ntmps30
    go_wp2_with (go_at_call 35; (with_reducible refine (HA.out _).mono ?_); rintro e w1 ⟨rfl, hb⟩; obtain ⟨a0, a1, a2, a3, f0, f1, f2, f3, z0⟩ := cells4f (boxes1 hb); have HB := Lib.hid (below1 hb); clear hb)
    refine bodyPost_ret (v := .tuple #[tv0, .bool false]) ?_ rfl ⟨rfl, ?_⟩
    · rw [results_cell_tmp rfl]
      go_simp
      rfl
    · repeat first | exact HB.out | (refine Below.alloc ?_ (by first | omega | (simp; omega)) _) | (refine Below.setCell ?_ (by simp; try omega) _)
  · have hgd : decide ((m : Int) > 10000) = false := by simp; omega
    have hz : isI (m : Int) = false := by rw [← Bool.not_eq_true, isI_iff]; omega
    rw [hz] at HI
    clear hi hz
    go_enter Try.func30, Try.ntmps30
    go_wp2_with (first
      | (go_at_call 35; (with_reducible refine (HA.out _).mono ?_); rintro e w1 ⟨rfl, hb⟩; obtain ⟨a0, a1, a2, a3, f0, f1, f2, f3, z0⟩ := cells4f (boxes1 hb); have HB := Lib.hid (below1 hb); clear hb)
      | (go_at_call 28; (with_reducible refine (HI.out _).mono ?_); rintro e w2 ⟨rfl, rfl⟩))
    refine bodyPost_ret (v := .tuple #[tv0, .bool false]) ?_ rfl ⟨rfl, ?_⟩
    · rw [results_cell_tmp rfl]
      go_simp
      rfl
    · repeat first | exact HB.out | (refine Below.alloc ?_ (by first | omega | (simp; omega)) _) | (refine Below.setCell ?_ (by simp; try omega) _)
end Go.Proofs.Ytlboeaapmfpipaa
namespace Go.Proofs.Ytlboeaapmfpipaa
open Go.RowKit Go.Shelf Ros
attribute [local go_sem] Oper.semAt_some
set_option maxHeartbeats 1000000 in
theorem readN_dec (s : ByteArray) (w : World) (h5 : 5 ≤ s.size) (hm : s.size ≤ 140737488355328) (hi : 1 ≤ instOf s ∧ instOf s ≤ 10000) (h0 : 0 < s.size) (hk : s[0].toNat = 100) :
    Calls Try.prog 30 #[.string s] w fun e w' => e = .returned (.tuple #[encTold ⟨100, instOf s, 0, s.extract 5 s.size⟩, .bool (decide (s.size - 5 ≤ 4000))]) ∧ Below w.heap.size w w' := by
  have hd : decide ((s.size : Int) < 5) = false := by simp; omega
  have h1 : (s.extract 1 5).size = 4 := by rw [ByteArray.size_extract]; omega
  have h6 : (s.extract 5 s.size).size = s.size - 5 := by rw [ByteArray.size_extract]; omega
  have hsl := sl_ab (P := Try.prog) Try.underlying9 s 1 5 (by omega) (by omega) 1 5 rfl rfl
  have HA := Lib.hid (fun W => get_yes (s.extract 1 5) W h1)
  have HI := Lib.hid (fun W : World => isInst_any (instOf s : Int) W)
  have hz : isI (instOf s : Int) = true := by rw [isI_iff]; omega
  rw [hz] at HI
  have hsl5 := sl_l (P := Try.prog) Try.underlying9 s 5 (by omega) 5 rfl
  unfold instOf at hi HI ⊢
  generalize hl : le (bl (s.extract 1 5)) = m at *
  clear h1 hz
  have hgd : decide ((m : Int) > 10000) = false := by simp; omega
  go_enter Try.func30, Try.ntmps30
  go_wp2_with (first
    | (go_at_call 35; (with_reducible refine (HA.out _).mono ?_); rintro e w1 ⟨rfl, hb⟩; obtain ⟨a0, a1, a2, a3, f0, f1, f2, f3, z0⟩ := cells4f (boxes1 hb); have HB := Lib.hid (below1 hb); clear hb)
    | (go_at_call 28; (with_reducible refine (HI.out _).mono ?_); rintro e w2 ⟨rfl, rfl⟩))
  go_region_law fail
  all_goals
    go_wp2
    refine bodyPost_ret (v := .tuple #[encTold ⟨100, m, 0, s.extract 5 s.size⟩, .bool (decide (s.size - 5 ≤ 4000))]) ?_ rfl ⟨rfl, ?_⟩
    · rw [results_cell_tmp rfl]
      go_simp
      exact ⟨rfl, by omega⟩
    · repeat first | exact HB.out | (refine Below.alloc ?_ (by first | omega | (simp; omega)) _) | (refine Below.setCell ?_ (by simp; try omega) _) | refine Below.drew ?_
end Go.Proofs.Ytlboeaapmfpipaa
namespace Go.Proofs.Ytlboeaapmfpipaa
open Go.RowKit Go.Shelf Ros
attribute [local go_sem] Oper.semAt_some
set_option maxHeartbeats 1000000 in
theorem readN_kind (s : ByteArray) (w : World) (h5 : 5 ≤ s.size) (hm : s.size ≤ 140737488355328) (hi : 1 ≤ instOf s ∧ instOf s ≤ 10000) (h0 : 0 < s.size) (hk1 : ¬ s[0].toNat = 100) (hk2 : ¬ s[0].toNat = 112) (hk3 : ¬ s[0].toNat = 118) :
    Calls Try.prog 30 #[.string s] w fun e w' => e = .returned (.tuple #[tv0, .bool false]) ∧ Below w.heap.size w w' := by
  have hd : decide ((s.size : Int) < 5) = false := by simp; omega
  have h1 : (s.extract 1 5).size = 4 := by rw [ByteArray.size_extract]; omega
  have hsl := sl_ab (P := Try.prog) Try.underlying9 s 1 5 (by omega) (by omega) 1 5 rfl rfl
  have HA := Lib.hid (fun W => get_yes (s.extract 1 5) W h1)
  have HI := Lib.hid (fun W : World => isInst_any (instOf s : Int) W)
  have hz : isI (instOf s : Int) = true := by rw [isI_iff]; omega
  rw [hz] at HI
  unfold instOf at hi HI
  generalize hl : le (bl (s.extract 1 5)) = m at *
  clear h1 hz
  have hgd : decide ((m : Int) > 10000) = false := by simp; omega
  have k1 : ((s[0].toNat : Int) == 100) = false := by simp; omega
  have k2 : ((s[0].toNat : Int) == 112) = false := by simp; omega
  have k3 : ((s[0].toNat : Int) == 118) = false := by simp; omega
  go_enter Try.func30, Try.ntmps30
  go_wp2_with (first
    | (go_at_call 35; (with_reducible refine (HA.out _).mono ?_); rintro e w1 ⟨rfl, hb⟩; obtain ⟨a0, a1, a2, a3, f0, f1, f2, f3, z0⟩ := cells4f (boxes1 hb); have HB := Lib.hid (below1 hb); clear hb)
    | (go_at_call 28; (with_reducible refine (HI.out _).mono ?_); rintro e w2 ⟨rfl, rfl⟩))
  refine bodyPost_ret (v := .tuple #[tv0, .bool false]) ?_ rfl ⟨rfl, ?_⟩
  · rw [results_cell_tmp rfl]
    go_simp
    rfl
  · repeat first | exact HB.out | (refine Below.alloc ?_ (by first | omega | (simp; omega)) _) | (refine Below.setCell ?_ (by simp; try omega) _) | refine Below.drew ?_
set_option maxHeartbeats 1000000 in
theorem readN_small_p (s : ByteArray) (w : World) (h5 : 5 ≤ s.size) (hm : s.size < 13) (hi : 1 ≤ instOf s ∧ instOf s ≤ 10000) (h0 : 0 < s.size) (hk : s[0].toNat = 112) :
    Calls Try.prog 30 #[.string s] w fun e w' => e = .returned (.tuple #[tv0, .bool false]) ∧ Below w.heap.size w w' := by
  have hd : decide ((s.size : Int) < 5) = false := by simp; omega
  have h1 : (s.extract 1 5).size = 4 := by rw [ByteArray.size_extract]; omega
  have hsl := sl_ab (P := Try.prog) Try.underlying9 s 1 5 (by omega) (by omega) 1 5 rfl rfl
  have HA := Lib.hid (fun W => get_yes (s.extract 1 5) W h1)
  have HI := Lib.hid (fun W : World => isInst_any (instOf s : Int) W)
  have hz : isI (instOf s : Int) = true := by rw [isI_iff]; omega
  rw [hz] at HI
  unfold instOf at hi HI
  generalize hl : le (bl (s.extract 1 5)) = m at *
  clear h1 hz
  have hgd : decide ((m : Int) > 10000) = false := by simp; omega
  have h13 : decide ((s.size : Int) < 13) = true := by simp; omega
  go_enter Try.func30, Try.ntmps30
  go_wp2_with (first
    | (go_at_call 35; (with_reducible refine (HA.out _).mono ?_); rintro e w1 ⟨rfl, hb⟩; obtain ⟨a0, a1, a2, a3, f0, f1, f2, f3, z0⟩ := cells4f (boxes1 hb); have HB := Lib.hid (below1 hb); clear hb)
    | (go_at_call 28; (with_reducible refine (HI.out _).mono ?_); rintro e w2 ⟨rfl, rfl⟩))
  refine bodyPost_ret (v := .tuple #[tv0, .bool false]) ?_ rfl ⟨rfl, ?_⟩
  · rw [results_cell_tmp rfl]
    go_simp
    rfl
  · repeat first | exact HB.out | (refine Below.alloc ?_ (by first | omega | (simp; omega)) _) | (refine Below.setCell ?_ (by simp; try omega) _) | refine Below.drew ?_
set_option maxHeartbeats 1000000 in
theorem readN_small_v (s : ByteArray) (w : World) (h5 : 5 ≤ s.size) (hm : s.size < 13) (hi : 1 ≤ instOf s ∧ instOf s ≤ 10000) (h0 : 0 < s.size) (hk : s[0].toNat = 118) :
    Calls Try.prog 30 #[.string s] w fun e w' => e = .returned (.tuple #[tv0, .bool false]) ∧ Below w.heap.size w w' := by
  have hd : decide ((s.size : Int) < 5) = false := by simp; omega
  have h1 : (s.extract 1 5).size = 4 := by rw [ByteArray.size_extract]; omega
  have hsl := sl_ab (P := Try.prog) Try.underlying9 s 1 5 (by omega) (by omega) 1 5 rfl rfl
  have HA := Lib.hid (fun W => get_yes (s.extract 1 5) W h1)
  have HI := Lib.hid (fun W : World => isInst_any (instOf s : Int) W)
  have hz : isI (instOf s : Int) = true := by rw [isI_iff]; omega
  rw [hz] at HI
  unfold instOf at hi HI
  generalize hl : le (bl (s.extract 1 5)) = m at *
  clear h1 hz
  have hgd : decide ((m : Int) > 10000) = false := by simp; omega
  have h13 : decide ((s.size : Int) < 13) = true := by simp; omega
  go_enter Try.func30, Try.ntmps30
  go_wp2_with (first
    | (go_at_call 35; (with_reducible refine (HA.out _).mono ?_); rintro e w1 ⟨rfl, hb⟩; obtain ⟨a0, a1, a2, a3, f0, f1, f2, f3, z0⟩ := cells4f (boxes1 hb); have HB := Lib.hid (below1 hb); clear hb)
    | (go_at_call 28; (with_reducible refine (HI.out _).mono ?_); rintro e w2 ⟨rfl, rfl⟩))
  refine bodyPost_ret (v := .tuple #[tv0, .bool false]) ?_ rfl ⟨rfl, ?_⟩
  · rw [results_cell_tmp rfl]
    go_simp
    rfl
  · repeat first | exact HB.out | (refine Below.alloc ?_ (by first | omega | (simp; omega)) _) | (refine Below.setCell ?_ (by simp; try omega) _) | refine Below.drew ?_
end Go.Proofs.Ytlboeaapmfpipaa
