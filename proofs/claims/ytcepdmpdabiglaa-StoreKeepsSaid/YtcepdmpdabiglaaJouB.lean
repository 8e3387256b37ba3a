/-
  The record that bytes begin with, by journal and by its reference. Conditions: strings are at most as long as Go allows.
-/
import Derived.Test.YtcepdmpdabiglaaJouA
namespace Ros
open Go Go.RowKit
theorem num_ext (s : ByteArray) : getN (bl (s.extract 1 5)) = numL (bl s) := by rw [bl_extract]; rfl
theorem numE_ext (s : ByteArray) (h : 9 ≤ s.size) : getE (bl (s.extract 1 5)) = 0 := (getN_yes (by rw [bl_extract]; simp [← size_bl]; omega)).2
theorem getN_lt (l : List UInt8) : getN l < 4294967296 := by
  by_cases h : l.length = 4
  · rw [(getN_yes h).1]; have := le_lt l; rw [h] at this; simpa using this
  · rw [(getN_no h).1]; omega
theorem fst_no {s : ByteArray} (h : okOne (bl s) = false) : (⟨#[]⟩ : ByteArray) = str (oneD (bl s)) ∧ oneN (bl s) = 0 := by
  rw [(one_no h).1, (one_no h).2]; exact ⟨rfl, rfl⟩
theorem ok_iff (s : ByteArray) (h0 : 0 < s.size) : okOne (bl s) = true ↔ 9 ≤ s.size ∧ s[0].toNat = 52 ∧ numL (bl s) ≤ 4096 ∧ numL (bl s) + 9 ≤ s.size ∧ openB (bl (s.extract 0 (numL (bl s) + 9))) = true := by
  rw [okOne_iff, ← size_bl, bl_extract0, bl_getD s 0 h0]
  constructor
  · rintro ⟨h1, h2, h3⟩; exact ⟨h1, by rw [h2]; rfl, h3⟩
  · rintro ⟨h1, h2, h3⟩; exact ⟨h1, by rw [← UInt8.toNat_inj]; exact h2, h3⟩
theorem fst_yes {s : ByteArray} (h : okOne (bl s) = true) : str ((openL (bl (s.extract 0 (numL (bl s) + 9)))).drop 5) = str (oneD (bl s)) ∧ oneN (bl s) = numL (bl s) + 9 := by
  rw [(one_yes h).1, (one_yes h).2, bl_extract0]; exact ⟨rfl, rfl⟩
theorem sl_ab {P : Program} {t : TypeId} (ht : P.underlying t = some .string) (s : ByteArray) (a b : Nat) (hab : a ≤ b) (hb : b ≤ s.size) (i j : Int) (hi : i = (a : Int)) (hj : j = (b : Int)) (W : World) :
    (Instr.slice t (.string s) (some (.int .i64 i)) (some (.int .i64 j)) none).run P W = .ok (.string (s.extract a b)) W := by
  subst hi; subst hj
  simp [Instr.slice, Instr.sliceBounds, Instr.sliceBound, asIntOf, run_underlying ht, hab, hb]
end Ros
namespace Go.Proofs.Ytcepdmpdabiglaa
open Go.RowKit Go.Shelf Ros
attribute [local go_sem] Oper.semAt_some

set_option maxHeartbeats 400000 in
theorem first_short (s : ByteArray) (w : World) (h : s.size < 9) :
    Calls Try.prog 32 #[.string s] w fun e w' => e = .returned (.tuple #[.string ⟨#[]⟩, .int .i64 0]) ∧ Below w.heap.size w w' := by
  go_enter Try.func32, Try.ntmps32
  go_wp2_with fail
  go_ret2
  exact ⟨rfl, Below.refl _ _⟩

set_option maxHeartbeats 400000 in
theorem first_mark (s : ByteArray) (w : World) (h : 9 ≤ s.size) (h0 : 0 < s.size) (hm : s[0].toNat ≠ 52) :
    Calls Try.prog 32 #[.string s] w fun e w' => e = .returned (.tuple #[.string ⟨#[]⟩, .int .i64 0]) ∧ Below w.heap.size w w' := by
  have hq : ((s[0].toNat : Int) != 52) = true := by simp; omega
  clear hm
  go_enter Try.func32, Try.ntmps32
  go_wp2_with fail
  go_ret2
  exact ⟨rfl, Below.refl _ _⟩

set_option maxHeartbeats 400000 in
theorem first_big (s : ByteArray) (w : World) (h : 9 ≤ s.size) (h0 : 0 < s.size) (hm : s[0].toNat = 52) (n : Nat) (hn : numL (bl s) = n) (hb : ¬ n ≤ 4096) :
    Calls Try.prog 32 #[.string s] w fun e w' => e = .returned (.tuple #[.string ⟨#[]⟩, .int .i64 0]) ∧ Below w.heap.size w w' := by
  have hq : ((s[0].toNat : Int) != 52) = false := by simp; omega
  have hsl := sl_ab (P := Try.prog) Try.underlying9 s 1 5 (by omega) (by omega) 1 5 rfl rfl
  have HG := Lib.hid (fun W : World => get_all (s.extract 1 5) W)
  rw [num_ext, numE_ext s h, hn] at HG
  clear hm hn
  go_enter Try.func32, Try.ntmps32
  go_wp2_with (go_at_call 36; refine (HG.out _).mono ?_; rintro e w1 ⟨rfl, b1⟩)
  go_ret2
  exact ⟨rfl, b1⟩

set_option maxHeartbeats 400000 in
theorem first_cut (s : ByteArray) (w : World) (h : 9 ≤ s.size) (h0 : 0 < s.size) (hm : s[0].toNat = 52) (n : Nat) (hn : numL (bl s) = n) (hb : n ≤ 4096) (hc : ¬ n + 9 ≤ s.size) :
    Calls Try.prog 32 #[.string s] w fun e w' => e = .returned (.tuple #[.string ⟨#[]⟩, .int .i64 0]) ∧ Below w.heap.size w w' := by
  have hq : ((s[0].toNat : Int) != 52) = false := by simp; omega
  have hsl := sl_ab (P := Try.prog) Try.underlying9 s 1 5 (by omega) (by omega) 1 5 rfl rfl
  have HG := Lib.hid (fun W : World => get_all (s.extract 1 5) W)
  rw [num_ext, numE_ext s h, hn] at HG
  clear hm hn
  go_enter Try.func32, Try.ntmps32
  go_wp2_with (go_at_call 36; refine (HG.out _).mono ?_; rintro e w1 ⟨rfl, b1⟩)
  go_ret2
  exact ⟨rfl, b1⟩

theorem sl_h {P : Program} {t : TypeId} (ht : P.underlying t = some .string) (s : ByteArray) (b : Nat) (hb : b ≤ s.size) (j : Int) (hj : j = (b : Int)) (W : World) :
    (Instr.slice t (.string s) none (some (.int .i64 j)) none).run P W = .ok (.string (s.extract 0 b)) W := by
  subst hj
  simp [Instr.slice, Instr.sliceBounds, Instr.sliceBound, asIntOf, run_underlying ht, hb]
theorem sl_l {P : Program} {t : TypeId} (ht : P.underlying t = some .string) (s : ByteArray) (a : Nat) (ha : a ≤ s.size) (i : Int) (hi : i = (a : Int)) (W : World) :
    (Instr.slice t (.string s) (some (.int .i64 i)) none none).run P W = .ok (.string (s.extract a s.size)) W := by
  subst hi
  simp [Instr.slice, Instr.sliceBounds, Instr.sliceBound, asIntOf, run_underlying ht, ha]

set_option maxHeartbeats 400000 in
theorem first_open (s : ByteArray) (w : World) (h : 9 ≤ s.size) (h0 : 0 < s.size) (hm : s[0].toNat = 52) (n : Nat) (hn : numL (bl s) = n) (hb : n ≤ 4096) (hc : n + 9 ≤ s.size) (hs : s.size ≤ 140737488355328) (ok : Bool) (hok : openB (bl (s.extract 0 (n + 9))) = ok) :
    Calls Try.prog 32 #[.string s] w fun e w' => e = .returned (.tuple #[.string (if ok = true then str ((openL (bl (s.extract 0 (n + 9)))).drop 5) else ⟨#[]⟩), .int .i64 (if ok = true then ((n + 9 : Nat) : Int) else 0)]) ∧ Below w.heap.size w w' := by
  have hq : ((s[0].toNat : Int) != 52) = false := by simp; omega
  have hsl := sl_ab (P := Try.prog) Try.underlying9 s 1 5 (by omega) (by omega) 1 5 rfl rfl
  have hsl2 := sl_h (P := Try.prog) Try.underlying9 s (n + 9) hc (5 + (n : Int) + 4) (by omega)
  have hbig : ((s.size : Int) < 5 + (n : Int) + 4) = False := eq_false (by omega)
  have HG := Lib.hid (fun W : World => get_all (s.extract 1 5) W)
  have HO := Lib.hid (fun W : World => open_all (s.extract 0 (n + 9)) W (by rw [size_bl, bl_extract0, List.length_take, ← size_bl]; unfold maxLen; omega))
  rw [num_ext, numE_ext s h, hn] at HG
  rw [hok] at HO
  have hlen : ok = true → 5 ≤ (str (openL (bl (s.extract 0 (n + 9))))).size := by
    intro e; rw [size_str, openL_yes (by rw [hok, e]), List.length_take, bl_extract0, List.length_take, ← size_bl]; omega
  have hE : (str (openL (bl (s.extract 0 (n + 9))))).extract 5 (str (openL (bl (s.extract 0 (n + 9))))).size = str ((openL (bl (s.extract 0 (n + 9)))).drop 5) := by
    apply bl_inj; rw [bl_extract, bl_str, bl_str, size_str, List.take_length]
  have hsl3 : ok = true → ∀ W : World, (Instr.slice 9 (.string (str (openL (bl (s.extract 0 (n + 9)))))) (some (.int .i64 5)) none none).run Try.prog W = .ok (.string (str ((openL (bl (s.extract 0 (n + 9)))).drop 5))) W := fun e W => by
    rw [sl_l (P := Try.prog) Try.underlying9 _ 5 (hlen e) 5 rfl W, hE]
  clear hm hn hok hE hlen
  generalize str ((openL (bl (s.extract 0 (n + 9)))).drop 5) = r at *
  generalize str (openL (bl (s.extract 0 (n + 9)))) = b at *
  generalize s.extract 0 (n + 9) = u at *
  generalize s.extract 1 5 = v at *
  have HN := Lib.hid hc
  clear hc
  cases ok
  · clear hsl3
    go_enter Try.func32, Try.ntmps32
    go_wp2_with (first
      | (go_at_call 36; refine (HG.out _).mono ?_; rintro e w1 ⟨rfl, b1⟩)
      | (go_at_call 37; refine (HO.out _).mono ?_; rintro e w2 ⟨rfl, b2⟩))
    go_ret2
    exact ⟨rfl, bt b1 b2⟩
  · replace hsl3 := hsl3 rfl
    go_enter Try.func32, Try.ntmps32
    go_wp2_with (first
      | (go_at_call 36; refine (HG.out _).mono ?_; rintro e w1 ⟨rfl, b1⟩)
      | (go_at_call 37; refine (HO.out _).mono ?_; rintro e w2 ⟨rfl, b2⟩))
    go_ret2
    exact ⟨ret_pair rfl (int_eq (by show (5 + (n : Int) + 4) = ((n + 9 : Nat) : Int); omega)), bt b1 b2⟩
theorem first_any (s : ByteArray) (w : World) (hs : s.size ≤ 140737488355328) :
    Calls Try.prog 32 #[.string s] w fun e w' => e = .returned (.tuple #[.string (str (oneD (bl s))), .int .i64 ((oneN (bl s) : Nat) : Int)]) ∧ Below w.heap.size w w' := by
  by_cases h : 9 ≤ s.size
  · have h0 : 0 < s.size := by omega
    have hiff := ok_iff s h0
    by_cases hm : s[0].toNat = 52
    · by_cases hb : numL (bl s) ≤ 4096
      · by_cases hc : numL (bl s) + 9 ≤ s.size
        · refine (first_open s w h h0 hm _ rfl hb hc hs _ rfl).mono ?_
          rintro e w' ⟨rfl, hb'⟩
          refine ⟨?_, hb'⟩
          cases ho : openB (bl (s.extract 0 (numL (bl s) + 9)))
          · have hk : okOne (bl s) = false := by rw [← Bool.not_eq_true, hiff, ho]; simp
            rw [← (fst_no hk).1, (fst_no hk).2]; simp
          · have hk : okOne (bl s) = true := hiff.2 ⟨h, hm, hb, hc, ho⟩
            rw [← (fst_yes hk).1, (fst_yes hk).2]; simp
        · have hk : okOne (bl s) = false := by rw [← Bool.not_eq_true, hiff]; exact fun e => hc e.2.2.2.1
          rw [← (fst_no hk).1, (fst_no hk).2]
          exact first_cut s w h h0 hm _ rfl hb hc
      · have hk : okOne (bl s) = false := by rw [← Bool.not_eq_true, hiff]; exact fun e => hb e.2.2.1
        rw [← (fst_no hk).1, (fst_no hk).2]
        exact first_big s w h h0 hm _ rfl hb
    · have hk : okOne (bl s) = false := by rw [← Bool.not_eq_true, hiff]; exact fun e => hm e.2.1
      rw [← (fst_no hk).1, (fst_no hk).2]
      exact first_mark s w h h0 hm
  · have hk : okOne (bl s) = false := by rw [← Bool.not_eq_true, okOne_iff, ← size_bl]; exact fun e => h e.1
    rw [← (fst_no hk).1, (fst_no hk).2]
    exact first_short s w (by omega)

end Go.Proofs.Ytcepdmpdabiglaa
