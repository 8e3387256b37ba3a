/-
  The laws' first words: whether a frame's bytes are known; a frame that is cut. Conditions: the two sentinels stand in memory.
-/
import Derived.Test.YtcbihioflmfgjaaDoorFrmR
namespace Ros
open Go Go.RowKit
theorem slF_h {P : Program} {t : TypeId} (ht : P.underlying t = some .string) (s : ByteArray) (b : Nat) (hb : b ≤ s.size) (j : Int) (hj : j = (b : Int)) (W : World) :
    (Instr.slice t (.string s) none (some (.int .i64 j)) none).run P W = .ok (.string (s.extract 0 b)) W := by
  subst hj
  simp [Instr.slice, Instr.sliceBounds, Instr.sliceBound, asIntOf, run_underlying ht, hb]
theorem bl_encS {x : Fr} (hr : rightB x = true) : bl (encS x) = seal4 (bytesF x) := by
  unfold encS
  rw [if_pos hr, bl_str]
theorem encS_size {x : Fr} (hr : rightB x = true) : (encS x).size = (if x.wire = 2 then 28 else 24) + x.data.size := by
  rw [size_bl, bl_encS hr, seal4_length, bytesF_length]
  split <;> omega
theorem decE_str {l : List UInt8} (h : openB l = true) : decE (str l) = readE (str (openL l)) := by
  unfold decE
  rw [bl_str, if_pos h]
theorem decE_bad {s : ByteArray} (h : openB (bl s) = false) : decE s = 21 := by
  unfold decE
  rw [h]
  rfl
end Ros
namespace Go.Proofs.YtcbihioflmfgjaaDoor
open Go.RowKit Go.Shelf Ros Go.Maps
attribute [local go_sem] Oper.semAt_some
set_option linter.unusedVariables false
theorem decR_yes {s : ByteArray} (h : openB (bl s) = true) : decR s = readR (str (openL (bl s))) := by
  unfold decR
  rw [if_pos h]
theorem decR_bad {s : ByteArray} (h : openB (bl s) = false) : decR s = zeroFr := by
  unfold decR
  rw [h]
  rfl
theorem dec_enc (x : Fr) (ho : okF x) (hr : rightB x = true) : decR (encS x) = x ∧ decE (encS x) = 0 := by
  have hb := bl_encS hr
  have hop : openB (bl (encS x)) = true := by rw [hb]; exact (open_seal _).1
  have hl : openL (bl (encS x)) = bytesF x := by rw [hb]; exact (open_seal _).2
  obtain ⟨h1, h2⟩ := read_back x ho hr
  refine ⟨?_, ?_⟩
  · rw [decR_yes hop, hl]
    unfold readR
    rw [if_pos h1, h2]
  · unfold decE
    rw [if_pos hop, hl, h1]
theorem dec_no {s : ByteArray} (h : decE s ≠ 0) : decR s = zeroFr := by
  cases ho : openB (bl s) with
  | false => exact decR_bad ho
  | true =>
    rw [decR_yes ho]
    unfold decE at h
    rw [if_pos ho] at h
    unfold readR
    rw [if_neg h]
theorem dec_yes {s : ByteArray} (hs : s.size ≤ 1000000) (h : decE s = 0) : encS (decR s) = s ∧ rightB (decR s) = true ∧ okF (decR s) := by
  cases ho : openB (bl s) with
  | false => rw [decE_bad ho] at h; cases h
  | true =>
    rw [decR_yes ho]
    unfold decE at h
    rw [if_pos ho] at h
    have hu : (str (openL (bl s))).size ≤ 1000000 := by
      rw [str_size]
      have := openL_len (bl s)
      rw [← size_bl] at this
      omega
    obtain ⟨h1, h2, h3⟩ := read_forth _ hu h
    unfold readR
    rw [if_pos h]
    refine ⟨?_, h2, h3⟩
    unfold encS
    rw [if_pos h2, h1, bl_str, open_sealed ho, str_bl]
def fr0 : Fr := ⟨1, 1, 2, 3, 0, 0, 0, 0, ⟨#[]⟩⟩
theorem fr0_ok : okF fr0 := ⟨by decide, by decide, by decide, by decide, by decide, by decide, by decide, by decide, by decide⟩
theorem fr0_right : rightB fr0 = true := by decide
theorem fr0_bytes : (encS fr0).extract 0 4 = ⟨#[72, 1, 1, 35]⟩ := by
  apply bl_inj
  rw [bl_extract0, bl_encS fr0_right]
  rfl
set_option maxRecDepth 100000 in
set_option maxHeartbeats 2000000 in
theorem shownF_any (a0 a1 : Addr) (w : World) (hS : Snt w a0 a1) : Calls Tryd.prog 11 #[] w fun e w' => e = .returned (.bool true) ∧ Below w.heap.size w w' := by
  have hE : encE fr0 = 0 := by unfold encE; rw [if_pos fr0_right]
  have HE := Lib.hid (fun W => (show Calls Tryd.prog 13 #[.agg #[.int .i64 1, .int .i64 1, .int .i64 2, .int .i64 3, .int .u32 0, .int .u32 0, .int .u32 0, .int .u32 0, .string ⟨#[]⟩]] W fun e w' => e = .returned (.tuple #[.string (encS fr0), .int .i64 0]) ∧ Below W.heap.size W w' from by
    have := encode_any fr0 fr0_ok W
    rw [hE] at this
    exact this))
  have hsz := encS_size fr0_right
  rw [show (if fr0.wire = 2 then 28 else 24) + fr0.data.size = 24 from rfl] at hsz
  obtain ⟨hd, hd2⟩ := dec_enc fr0 fr0_ok fr0_right
  have HD1 := Lib.hid (fun (W : World) (h : Below w.heap.size w W) => (show Calls Tryd.prog 18 #[.string (encS fr0)] W fun e w' => e = .returned (.tuple #[.agg #[.int .i64 1, .int .i64 1, .int .i64 2, .int .i64 3, .int .u32 0, .int .u32 0, .int .u32 0, .int .u32 0, .string ⟨#[]⟩], .int .i64 0]) ∧ Below W.heap.size W w' from by
    have := decode_any (encS fr0) a0 a1 W (by omega) (hS.below h)
    rw [hd, hd2] at this
    exact this))
  have HD2 := Lib.hid (fun (W : World) (h : Below w.heap.size w W) => (show Calls Tryd.prog 18 #[.string ⟨#[]⟩] W fun e w' => e = .returned (.tuple #[.agg #[.int .i64 0, .int .i64 0, .int .i64 0, .int .i64 0, .int .u32 0, .int .u32 0, .int .u32 0, .int .u32 0, .string ⟨#[]⟩], .int .i64 21]) ∧ Below W.heap.size W w' from by
    have := decode_any ⟨#[]⟩ a0 a1 W (by decide) (hS.below h)
    have ho : openB (bl (⟨#[]⟩ : ByteArray)) = false := openB_short (by decide)
    rw [decR_bad ho, decE_bad ho] at this
    exact this))
  have HSL : ∀ W, (Instr.slice 9 (.string (encS fr0)) none (some (.int .i64 4)) none).run Tryd.prog W = .ok (.string ⟨#[72, 1, 1, 35]⟩) W := fun W => by
    rw [← fr0_bytes]
    have := slF_h (P := Tryd.prog) Tryd.underlying9 (encS fr0) 4 (by omega) 4 rfl W
    exact this
  have heq : ∀ W, (binOp .eql 24 (.agg #[.int .i64 1, .int .i64 1, .int .i64 2, .int .i64 3, .int .u32 0, .int .u32 0, .int .u32 0, .int .u32 0, .string ⟨#[]⟩]) (.agg #[.int .i64 1, .int .i64 1, .int .i64 2, .int .i64 3, .int .u32 0, .int .u32 0, .int .u32 0, .int .u32 0, .string ⟨#[]⟩])).run Tryd.prog W = .ok (.bool true) W := fun W => by
    have := eql_fr fr0 fr0 W
    rw [decide_eq_true rfl] at this
    exact this
  generalize encS fr0 = E at *
  clear hd hd2 hE hS
  go_enter Tryd.func11, Tryd.ntmps11
  go_wp2_with (first
    | (go_at_call 13; (with_reducible refine (HE.out _).mono ?_); rintro e w2 ⟨rfl, b2⟩; have B2 := Lib.hid b2; clear b2)
    | (go_at_call 18; (with_reducible refine (HD1.out _ B2.out).mono ?_); rintro e w3 ⟨rfl, b3⟩; have B3 := Lib.hid ((btL2 B2.out b3).alloc (btL2 B2.out b3).size (.cells #[.int .i64 1, .int .i64 1, .int .i64 2, .int .i64 3, .int .u32 0, .int .u32 0, .int .u32 0, .int .u32 0, .string ⟨#[]⟩] 24)); clear b3)
    | (go_at_call 18; (with_reducible refine (HD2.out _ B3.out).mono ?_); rintro e w4 ⟨rfl, b4⟩; have B4 := Lib.hid ((btL2 B3.out b4).alloc (btL2 B3.out b4).size (.cells #[.int .i64 0, .int .i64 0, .int .i64 0, .int .i64 0, .int .u32 0, .int .u32 0, .int .u32 0, .int .u32 0, .string ⟨#[]⟩] 24)); obtain ⟨c0, c1, c2, c3, c4, c5, c6, c7, c8, _, _⟩ := cells9 (obj_alloc (obj_below (World.alloc_heap_new w3 _) b4 (by simp)) (.cells #[.int .i64 0, .int .i64 0, .int .i64 0, .int .i64 0, .int .u32 0, .int .u32 0, .int .u32 0, .int .u32 0, .string ⟨#[]⟩] 24)); have hn : ¬ (w3.heap.size = w4.heap.size) := (by have := b4.size; simp at this; omega); clear b4))
  go_ret
  exact ⟨rfl, B4.out⟩
end Go.Proofs.YtcbihioflmfgjaaDoor
