/-
  The numbers of bytes, gone through. Conditions: strings are at most as long as Go allows.
-/
import Derived.Test.YtcbihioflmfgjaaDoorFrmE
import Derived.Test.YtcbihioflmfgjaaDoorIter
namespace Ros
open Go Go.RowKit
/-- The whole numbers of four bytes each. -/
def numL (s : ByteArray) : List (Nat × Nat) := (List.range (s.size / 4)).map fun i => (i, getN (bl (s.extract (4 * i) (4 * i + 4))))
def encNu (x : Nat × Nat) : Array Value := #[.int .i64 (x.1 : Int), .int .u32 (x.2 : Int)]
theorem numL_len (s : ByteArray) : (numL s).length = s.size / 4 := by simp [numL]
theorem numL_get (s : ByteArray) (k : Nat) (h : k < (numL s).length) : (numL s)[k] = (k, getN (bl (s.extract (4 * k) (4 * k + 4)))) := by simp [numL]
theorem slF_ab {P : Program} {t : TypeId} (ht : P.underlying t = some .string) (s : ByteArray) (a b : Nat) (hab : a ≤ b) (hb : b ≤ s.size) (i j : Int) (hi : i = (a : Int)) (hj : j = (b : Int)) (W : World) :
    (Instr.slice t (.string s) (some (.int .i64 i)) (some (.int .i64 j)) none).run P W = .ok (.string (s.extract a b)) W := by
  subst hi; subst hj
  simp [Instr.slice, Instr.sliceBounds, Instr.sliceBound, asIntOf, run_underlying ht, hab, hb]
theorem slF_l {P : Program} {t : TypeId} (ht : P.underlying t = some .string) (s : ByteArray) (a : Nat) (ha : a ≤ s.size) (i : Int) (hi : i = (a : Int)) (W : World) :
    (Instr.slice t (.string s) (some (.int .i64 i)) none none).run P W = .ok (.string (s.extract a s.size)) W := by
  subst hi
  simp [Instr.slice, Instr.sliceBounds, Instr.sliceBound, asIntOf, run_underlying ht, ha]

end Ros
namespace Go.Proofs.YtcbihioflmfgjaaDoor
open Go.RowKit Go.Shelf Ros Go.Maps
attribute [local go_sem] Oper.semAt_some
set_option linter.unusedVariables false
theorem numbers_any (s : ByteArray) (w : World) :
    Calls Tryd.prog 42 #[.string s] w fun e w' => e = .returned (.func (.func 49) #[] #[.pointer (some ⟨w.heap.size, 0, none⟩)]) ∧ w.alloc (.cells #[.string s] 9) = w' := by
  go_enter Tryd.func42, Tryd.ntmps42
  go_wp2
  go_ret
  exact ⟨rfl, rfl⟩
def NumR (Bs : Nat) (s : ByteArray) (_ : List (Nat × Nat)) (W : World) : Prop := W.cell? ⟨Bs, 0, none⟩ = some (.string s)
set_option maxRecDepth 100000 in
set_option maxHeartbeats 2000000 in
theorem numbers1_iter (Bs : Nat) (s : ByteArray) (hs : s.size ≤ 1000000) :
    IterOn Tryd.prog 49 #[.pointer (some ⟨Bs, 0, none⟩)] encNu (NumR Bs s) (numL s) := by
  intro L J Jx W gJ gJx hRd hY h0
  have hc0 := hRd _ _ h0
  unfold NumR at hc0
  refine callsIn_of_wp Tryd.func49 rfl trivial ?_ rfl
  simp only [Tryd.ntmps49, List.size_toArray, List.length_cons, List.length_nil, Nat.reduceAdd, Nat.reduceSub, Array.replicate_succ, Array.replicate_zero, List.push_toArray, List.append_toArray, List.nil_append, List.cons_append]
  gi_wp2
  obtain ⟨n, hnd⟩ : ∃ n, s.size / 4 = n := ⟨_, rfl⟩
  have HN := Lib.hid (show n * 4 ≤ s.size ∧ n = s.size / 4 by omega)
  have hq : ((s.size : Int)) / 4 = (n : Int) := by omega
  rw [hq]
  have hlen : (numL s).length = n := by rw [numL_len, hnd]
  have HLEN := Lib.hid hlen
  have hn6 : n ≤ 250000 := by omega
  clear hq hlen hnd hc0
  gi_loopw [9] (fun i wr => ∃ k : Nat, k ≤ n ∧ i = .int .i64 (k : Int) ∧ J ((numL s).take k) wr) (fun i _ => n - (intOf i).toNat)
  case atStart => exact ⟨0, by omega, by go_num, by simpa using h0⟩
  case round =>
    obtain ⟨k, hk, rfl, hj⟩ := hrel
    by_cases hlt : k < n
    · have hko : k < (numL s).length := by rw [HLEN.out]; exact hlt
      have hsp : numL s = (numL s).take k ++ (numL s)[k] :: (numL s).drop (k + 1) := by rw [List.getElem_cons_drop, List.take_append_drop]
      have hsp2 : (numL s).take k ++ [(numL s)[k]] = (numL s).take (k + 1) := List.take_append_getElem hko
      have hY2 := fun W1 hW1 => hY _ _ _ W1 hsp hW1
      rw [hsp2, numL_get s k hko] at hY2
      have e0 : wr.cell? ⟨Bs, 0, none⟩ = some (.string s) := hRd _ _ hj
      have HSL := fun W => slF_ab (P := Tryd.prog) Tryd.underlying9 s (4 * k) (4 * k + 4) (by omega) (by have := HN.out; omega) (4 * (k : Int)) (4 * (k : Int) + 4) (by omega) (by omega) W
      have HGT := Lib.hid (fun W => get_all (s.extract (4 * k) (4 * k + 4)) W)
      unfold encNu at hY2
      dsimp only at hY2
      generalize s.extract (4 * k) (4 * k + 4) = ch at *
      have HJ := Lib.hid hj
      have HY2 := Lib.hid hY2
      have hkn : (k : Int) < (n : Int) := by omega
      clear hsp hsp2 hY hY2 hj hko
      gi_wp2_with (gi_at_call 50; refine (in_wide _ (HGT.out _)).mono ?_; rintro e w2 ⟨rfl, b2⟩; have HJ2 := Lib.hid (grows_below gJ HJ.out b2); clear b2; obtain ⟨fn, tmps, assign, body, hy, hR⟩ := HY2.out _ HJ2.out)
      refine hR.mono ?_
      rintro e W3 (⟨rfl, hJ3⟩ | ⟨rfl, hJx3⟩)
      · gi_wp2
        go_roundw
        case rel => exact ⟨k + 1, by omega, by go_num, hJ3⟩
        case measure => simp [intOf]; omega
      · gi_wp2
        refine bodyPost_ret (results_none rfl _ _ _) rfl ?_
        exact ⟨⟨_, rfl⟩, .inr ⟨_, List.take_prefix _ _, hJx3⟩⟩
    · obtain rfl : k = n := by omega
      rw [List.take_of_length_le (by rw [HLEN.out]; exact Nat.le_refl _)] at hj
      gi_wp2
      go_end0
      exact ⟨⟨_, rfl⟩, .inl hj⟩
end Go.Proofs.YtcbihioflmfgjaaDoor
