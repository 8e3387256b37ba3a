/-
  The frame of opened bytes. Conditions: at most a million bytes.
-/
import Derived.Test.YtcbihioflmfgjaaDoorFrmF
import Derived.Deep.CutBlock
import Derived.BigRegion
namespace Ros
open Go Go.RowKit
/-- A byte of a string. -/
def byteN (s : ByteArray) (i : Nat) : Nat := (s.data.getD i 0).toNat
def numN (s : ByteArray) (i : Nat) : Nat := getN (bl (s.extract i (i + 4)))
def aheadN (s : ByteArray) : Nat := if byteN s 1 = 2 then 24 else 20
theorem byte_at (s : ByteArray) (i : Nat) (h : i < s.size) : (s[i]'h).toNat = byteN s i := by
  unfold byteN
  rw [Array.getD_eq_getD_getElem?, Array.getElem?_eq_getElem (by exact h)]
  rfl
theorem byteN_lt (s : ByteArray) (i : Nat) : byteN s i < 256 := (s.data.getD i 0).toNat_lt
/-- The frame that bytes are. -/
def frameOf (s : ByteArray) : Fr := ⟨(byteN s 1 : Int), (byteN s 2 : Int), ((byteN s 3 / 16 : Nat) : Int), ((byteN s 3 % 16 : Nat) : Int), numN s 4, numN s 8, numN s 12, if byteN s 1 = 2 then numN s 16 else 0, s.extract (aheadN s) s.size⟩
def sizeN (s : ByteArray) : Nat := numN s (aheadN s - 4)
def readE (s : ByteArray) : Int :=
  if s.size < 2 ∨ byteN s 0 ≠ 72 then 20 else if ¬ isW (byteN s 1 : Int) then 22 else if s.size < aheadN s then 20 else
    if sizeN s ≠ s.size - aheadN s ∨ rightB (frameOf s) = false then 20 else 0
end Ros
namespace Go.Proofs.YtcbihioflmfgjaaDoor
open Go.RowKit Go.Shelf Ros Go.Maps
attribute [local go_sem] Oper.semAt_some
set_option linter.unusedVariables false
def readR (s : ByteArray) : Fr := if readE s = 0 then frameOf s else zeroFr
def errV (a0 a1 : Addr) (e : Int) : Value := if e = 0 then .nilIface else if e = 22 then .iface 96 (.pointer (some a1)) else .iface 96 (.pointer (some a0))
set_option maxRecDepth 100000 in
set_option maxHeartbeats 4000000 in
theorem read_short (s : ByteArray) (a0 a1 : Addr) (w : World) (hs : s.size ≤ 1000000) (hS : Snt w a0 a1) (h : s.size < 2 ∨ byteN s 0 ≠ 72) :
    Calls Tryd.prog 32 #[.string s] w fun e w' => e = .returned (.tuple #[frV zeroFr, .iface 96 (.pointer (some a0))]) ∧ Below w.heap.size w w' := by
  have hz := (hS.below ((Below.refl _ w).alloc (Nat.le_refl _) (.cells #[.int .i64 0, .int .i64 0, .int .i64 0, .int .i64 0, .int .u32 0, .int .u32 0, .int .u32 0, .int .u32 0, .string ⟨#[]⟩] 24)))
  have g0 := hz.c0
  have HZ := Lib.hid (World.alloc_heap_new w (.cells #[.int .i64 0, .int .i64 0, .int .i64 0, .int .i64 0, .int .u32 0, .int .u32 0, .int .u32 0, .int .u32 0, .string ⟨#[]⟩] 24))
  have HB := Lib.hid ((Below.refl _ w).alloc (Nat.le_refl _) (.cells #[.int .i64 0, .int .i64 0, .int .i64 0, .int .i64 0, .int .u32 0, .int .u32 0, .int .u32 0, .int .u32 0, .string ⟨#[]⟩] 24))
  have hlow : 1 < w.heap.size := World.block_lt_of_cell? _ _ hS.c1
  have n0 : ¬ (0 = w.heap.size) := by omega
  have n1 : ¬ (w.heap.size = 0) := by omega
  have n2 : ¬ (1 = w.heap.size) := by omega
  have n3 : ¬ (w.heap.size = 1) := by omega
  clear hz hS hlow
  unfold frV zeroFr
  by_cases h2 : s.size < 2
  · have e1 : decide ((s.size : Int) < 2) = true := by simp; omega
    clear h
    refine calls_marksP Tryd.func32 rfl ?_
    simp only [Tryd.ntmps32, List.size_toArray, List.length_cons, List.length_nil, Nat.reduceAdd, Nat.reduceSub, Array.replicate_succ, Array.replicate_zero, List.push_toArray, List.append_toArray, List.nil_append, List.cons_append]
    go_wp2
    refine wp_scope_straight ?_
    go_upto_region 2 with fail
    generalize w.alloc (.cells #[.int .i64 0, .int .i64 0, .int .i64 0, .int .i64 0, .int .u32 0, .int .u32 0, .int .u32 0, .int .u32 0, .string ⟨#[]⟩] 24) = W at *
    obtain ⟨d0, d1, d2, d3, d4, d5, d6, d7, d8, df, dl⟩ := cells9 HZ.out
    have k0 := df 0
    have k1 := df 1
    have k2 := df 2
    have k3 := df 3
    have k4 := df 4
    have k5 := df 5
    have k6 := df 6
    have k7 := df 7
    have k8 := df 8
    clear df
    go_region
    all_goals
      go_wp2
      rw [Exit.noGoto_ret]
      refine leaves_plain ?_ ⟨rfl, ?_⟩
      rotate_left
      · refine Below.drew ?_
        repeat first | with_reducible exact HB.out | (with_reducible refine Below.setCell ?_ (by first | exact Nat.le_refl _ | exact Nat.le_succ _) _)
      · rw [results_cell2 rfl]
        go_simp
  · have e1 : decide ((s.size : Int) < 2) = false := by simp; omega
    have h0 : byteN s 0 ≠ 72 := by rcases h with h | h; exact absurd h h2; exact h
    have hl0 : 0 < s.size := by omega
    have E0 := byte_at s 0 hl0
    have e2 : ((byteN s 0 : Int) != 72) = true := by rw [bne_iff_ne]; omega
    generalize byteN s 0 = b0 at *
    clear h h0
    refine calls_marksP Tryd.func32 rfl ?_
    simp only [Tryd.ntmps32, List.size_toArray, List.length_cons, List.length_nil, Nat.reduceAdd, Nat.reduceSub, Array.replicate_succ, Array.replicate_zero, List.push_toArray, List.append_toArray, List.nil_append, List.cons_append]
    go_wp2
    refine wp_scope_straight ?_
    go_upto_region 2 with fail
    generalize w.alloc (.cells #[.int .i64 0, .int .i64 0, .int .i64 0, .int .i64 0, .int .u32 0, .int .u32 0, .int .u32 0, .int .u32 0, .string ⟨#[]⟩] 24) = W at *
    obtain ⟨d0, d1, d2, d3, d4, d5, d6, d7, d8, df, dl⟩ := cells9 HZ.out
    have k0 := df 0
    have k1 := df 1
    have k2 := df 2
    have k3 := df 3
    have k4 := df 4
    have k5 := df 5
    have k6 := df 6
    have k7 := df 7
    have k8 := df 8
    clear df
    go_region
    all_goals
      go_wp2
      rw [Exit.noGoto_ret]
      refine leaves_plain ?_ ⟨rfl, ?_⟩
      rotate_left
      · refine Below.drew ?_
        repeat first | with_reducible exact HB.out | (with_reducible refine Below.setCell ?_ (by first | exact Nat.le_refl _ | exact Nat.le_succ _) _)
      · rw [results_cell2 rfl]
        go_simp
set_option maxRecDepth 100000 in
set_option maxHeartbeats 4000000 in
theorem read_old (s : ByteArray) (a0 a1 : Addr) (w : World) (hs : s.size ≤ 1000000) (hS : Snt w a0 a1) (h2 : 2 ≤ s.size) (h0 : byteN s 0 = 72) (h1 : ¬ isW (byteN s 1 : Int)) :
    Calls Tryd.prog 32 #[.string s] w fun e w' => e = .returned (.tuple #[frV zeroFr, .iface 96 (.pointer (some a1))]) ∧ Below w.heap.size w w' := by
  have HZ := Lib.hid (World.alloc_heap_new w (.cells #[.int .i64 0, .int .i64 0, .int .i64 0, .int .i64 0, .int .u32 0, .int .u32 0, .int .u32 0, .int .u32 0, .string ⟨#[]⟩] 24))
  have hlow : 1 < w.heap.size := World.block_lt_of_cell? _ _ hS.c1
  have n0 : ¬ (0 = w.heap.size) := by omega
  have n1 : ¬ (w.heap.size = 0) := by omega
  have n2 : ¬ (1 = w.heap.size) := by omega
  have n3 : ¬ (w.heap.size = 1) := by omega
  have HS := Lib.hid hS
  have e1 : decide ((s.size : Int) < 2) = false := by simp; omega
  have hl0 : 0 < s.size := by omega
  have hl1 : 1 < s.size := by omega
  have E0 := byte_at s 0 hl0
  have E1 := byte_at s 1 hl1
  have hb1 := byteN_lt s 1
  rw [h0] at E0
  generalize byteN s 1 = b1 at *
  have HG := Lib.hid (fun W => agree_any (b1 : Int) (b1 : Int) W ⟨by omega, by omega⟩ ⟨by omega, by omega⟩)
  rw [show agreeE (b1 : Int) (b1 : Int) = 22 from if_neg (fun e => h1 e.1)] at HG
  generalize agreeN (b1 : Int) (b1 : Int) = an at *
  unfold frV zeroFr
  clear h0 h1 hlow hS h2
  refine calls_marksP Tryd.func32 rfl ?_
  simp only [Tryd.ntmps32, List.size_toArray, List.length_cons, List.length_nil, Nat.reduceAdd, Nat.reduceSub, Array.replicate_succ, Array.replicate_zero, List.push_toArray, List.append_toArray, List.nil_append, List.cons_append]
  go_wp2
  refine wp_scope_straight ?_
  go_upto_region 6 with (go_at_call 22; (with_reducible refine (HG.out _).mono ?_); rintro e w2 ⟨rfl, b2⟩; have B2 := Lib.hid (below_bx (below_bx b2)); have HZ2 := Lib.hid (obj_below (obj_alloc HZ.out _) b2 (obj_lt (obj_alloc HZ.out _))); have g1 := (HS.out.below B2.out).c1; clear b2)
  obtain ⟨d0, d1, d2, d3, d4, d5, d6, d7, d8, df, dl⟩ := cells9 HZ2.out
  have k0 := df 0
  have k1 := df 1
  have k2 := df 2
  have k3 := df 3
  have k4 := df 4
  have k5 := df 5
  have k6 := df 6
  have k7 := df 7
  have k8 := df 8
  clear df
  go_region
  all_goals
    go_wp2
    rw [Exit.noGoto_ret]
    refine leaves_plain ?_ ⟨rfl, ?_⟩
    rotate_left
    · refine Below.drew ?_
      repeat first | with_reducible exact B2.out | (with_reducible refine Below.setCell ?_ (by first | exact Nat.le_refl _ | exact Nat.le_succ _) _)
    · rw [results_cell2 rfl]
      go_simp
end Go.Proofs.YtcbihioflmfgjaaDoor
