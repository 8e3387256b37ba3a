/-
  A node votes; what a node that is no node says. Conditions: a million changes at most; ballots and instances are as the program's types allow.
-/
import Derived.Test.YtlboeaapmfpipaaPaxD
namespace Ros
open Go Go.RowKit Go.Maps Go.ChangeMaps
theorem ncast_no {s : Nd} {i : Int} {n : Nat} {v : ByteArray} (h : openE s i ≠ 0) : ncast s i n v = (([], openE s i), s) := if_neg h
theorem ncast_bad {s : Nd} {i : Int} {n : Nat} {v : ByteArray} (h : openE s i = 0) (h2 : (mcast (s.vote i) n v).2 ≠ 0) : ncast s i n v = (([], (mcast (s.vote i) n v).2), s) := by unfold ncast; rw [if_pos h, if_neg h2]
theorem ncast_yes {s : Nd} {i : Int} {n : Nat} {v : ByteArray} (h : openE s i = 0) (h2 : (mcast (s.vote i) n v).2 = 0) : ncast s i n v = ((recI 118 i (halvesL n ++ bl v), 0), { s with votes := updI s.votes i (mcast (s.vote i) n v).1 }) := by unfold ncast; rw [if_pos h, if_pos h2]
theorem mcast_size {v : Vt} {n : Nat} {s : ByteArray} (h : (mcast v n s).2 = 0) : s.size ≤ 4000 := by
  by_cases h1 : rightB v = true ∧ 1 ≤ n ∧ s.size ≤ 4000
  · exact h1.2.2
  · rw [mcast_bad h1] at h; cases h
theorem rec_cast (b : UInt8) (k n : Nat) (v : ByteArray) : b :: (toB 4 k ++ [str (halvesL n), v].flatMap bl) = recI b (k : Int) (halvesL n ++ bl v) := by
  simp [recI, List.flatMap_cons, bl_str]
theorem joinB_cast (n : Nat) (v : ByteArray) (h : v.size ≤ 4000) : (joinB [str (halvesL n), v]).size ≤ 100000 := by
  rw [size_bl, bl_joinB]
  simp only [List.flatMap_cons, List.flatMap_nil, List.append_nil, bl_str, List.length_append, halvesL_len, ← size_bl]
  omega
theorem mprom_ok {v : Vt} {n : Nat} (hv : v.ok) (hn : n < 18446744073709551616) : (mprom v n).1.ok := by
  unfold mprom
  split
  · split
    · exact vt0_ok
    · exact ⟨hn, hv.2⟩
  · exact vt0_ok
theorem mcast_ok {v : Vt} {n : Nat} {s : ByteArray} (hn : n < 18446744073709551616) (hs : s.size ≤ 140737488355328) : (mcast v n s).1.ok := by
  unfold mcast
  split
  · split
    · exact vt0_ok
    · exact ⟨hn, hn, hs⟩
  · exact vt0_ok
theorem Nd.ok_upd {s : Nd} (h : s.ok) {i : Int} {v : Vt} (hv : v.ok) : Nd.ok { s with votes := updI s.votes i v } := by
  refine ⟨fun j x hx => ?_, h.2⟩
  dsimp only at hx
  by_cases e : j = i
  · subst e
    rw [updI_same] at hx
    cases hx; exact hv
  · rw [show updI s.votes i v j = s.votes j from updI_other _ _ e] at hx
    exact h.1 j x hx
theorem nprom_ok {s : Nd} (h : s.ok) {i : Int} {n : Nat} (hn : n < 18446744073709551616) : (nprom s i n).2.ok := by
  unfold nprom
  split
  · split
    · exact Nd.ok_upd h (mprom_ok (Nd.ok_vote h i) hn)
    · exact h
  · exact h
theorem ncast_ok {s : Nd} (h : s.ok) {i : Int} {n : Nat} {v : ByteArray} (hn : n < 18446744073709551616) (hv : v.size ≤ 140737488355328) : (ncast s i n v).2.ok := by
  unfold ncast
  split
  · split
    · exact Nd.ok_upd h (mcast_ok hn hv)
    · exact h
  · exact h
end Ros
namespace Go.Proofs.Ytlboeaapmfpipaa
open Go.RowKit Go.Shelf Ros
attribute [local go_sem] Oper.semAt_some

theorem promN_any (i : Int) (hi : -9223372036854775808 ≤ i ∧ i ≤ 9223372036854775807) (n : Nat) (hn : n < 18446744073709551616) (w : World) (S : Nat → Prop) (g c : Nat) (s : Nd) (h : NdA w S g s c) (hc : c ≤ 1000000) (hok : s.ok) :
    Calls Try.prog 11 #[.pointer (some ⟨g, 0, none⟩), .int .i64 i, .int .u64 (n : Int)] w fun e w' => e = .returned (.tuple #[encVt (nprom s i n).1.1.1, .string (str (nprom s i n).1.1.2), .int .i64 (nprom s i n).1.2]) ∧ NdA w' S g (nprom s i n).2 (c + 1) ∧ Turn S S w w' := by
  by_cases ho : openE s i = 0
  · by_cases hm : (mprom (s.vote i) n).2 = 0
    · have hi2 := openE_zero ho
      obtain ⟨k, rfl⟩ : ∃ k : Nat, i = (k : Int) := ⟨i.toNat, by omega⟩
      rw [nprom_yes ho hm]
      exact promN_yes k n hn w S g c s h hc hok (by omega) ho hm
    · rw [nprom_bad ho hm]
      refine (promN_bad i hi n hn w S g c s h hok ho hm).mono ?_
      rintro e w1 ⟨rfl, b⟩
      exact ⟨rfl, (h.below b).up (by omega), .of_below b h.lt⟩
  · rw [nprom_no ho]
    refine (promN_no i n w S g c s h ho).mono ?_
    rintro e w1 ⟨rfl, b⟩
    exact ⟨rfl, (h.below b).up (by omega), .of_below b h.lt⟩
set_option maxHeartbeats 400000 in
theorem promN_nil (i : Int) (n : Int) (w : World) :
    Calls Try.prog 11 #[.pointer none, .int .i64 i, .int .u64 n] w fun e w' => e = .returned (.tuple #[encVt vt0, .string ⟨#[]⟩, .int .i64 1]) ∧ Below w.heap.size w w' := by
  have HO := Lib.hid (nopen_nil i (w.alloc (.cells #[.int .u64 0, .int .u64 0, .string ⟨#[]⟩] 27)))
  go_enter Try.func11, Try.ntmps11
  go_wp2_with (go_at_call 22; refine HO.out.mono ?_; rintro e w1 ⟨rfl, b1⟩; obtain ⟨p0, p1, p2, f0, f1, f2, z0⟩ := cells3 (obj_below (World.alloc_heap_new w (.cells #[.int .u64 0, .int .u64 0, .string ⟨#[]⟩] 27)) b1 (by simp)); have B1 := Lib.hid (below1 b1); clear b1)
  refine bodyPost_ret (v := .tuple #[.agg #[.int .u64 0, .int .u64 0, .string ⟨#[]⟩], .string ⟨#[]⟩, .int .i64 1]) ?_ rfl ⟨rfl, ?_⟩
  · rw [results_cell2 rfl]
    go_simp
  · exact below_fill B1.out (Nat.le_refl _) _ _ _
set_option maxHeartbeats 400000 in
theorem castN_nil (i : Int) (n : Int) (v : ByteArray) (w : World) :
    Calls Try.prog 12 #[.pointer none, .int .i64 i, .int .u64 n, .string v] w fun e w' => e = .returned (.tuple #[.string ⟨#[]⟩, .int .i64 1]) ∧ Below w.heap.size w w' := by
  go_enter Try.func12, Try.ntmps12
  go_wp2_with (go_at_call 22; refine (nopen_nil i _).mono ?_; rintro e w1 ⟨rfl, b1⟩)
  go_ret2
  exact ⟨rfl, b1⟩

set_option maxRecDepth 100000 in
set_option maxHeartbeats 1000000 in
theorem castN_no (i : Int) (n : Nat) (x : ByteArray) (w : World) (S : Nat → Prop) (g c : Nat) (s : Nd) (h : NdA w S g s c) (ho : openE s i ≠ 0) :
    Calls Try.prog 12 #[.pointer (some ⟨g, 0, none⟩), .int .i64 i, .int .u64 (n : Int), .string x] w fun e w' => e = .returned (.tuple #[.string ⟨#[]⟩, .int .i64 (openE s i)]) ∧ Below w.heap.size w w' := by
  have HO := Lib.hid (nopen_any i w S g c s h)
  generalize openE s i = q at *
  clear h
  go_enter Try.func12, Try.ntmps12
  go_wp2_with (go_at_call 22; refine HO.out.mono ?_; rintro e w1 ⟨rfl, b1⟩)
  go_ret2
  exact ⟨rfl, b1⟩

set_option maxRecDepth 100000 in
set_option maxHeartbeats 1000000 in
theorem castN_bad (i : Int) (hi : -9223372036854775808 ≤ i ∧ i ≤ 9223372036854775807) (n : Nat) (hn : n < 18446744073709551616) (x : ByteArray) (hx : x.size ≤ 140737488355328) (w : World) (S : Nat → Prop) (g c : Nat) (s : Nd) (h : NdA w S g s c) (hok : s.ok) (ho : openE s i = 0) (hm : (mcast (s.vote i) n x).2 ≠ 0) :
    Calls Try.prog 12 #[.pointer (some ⟨g, 0, none⟩), .int .i64 i, .int .u64 (n : Int), .string x] w fun e w' => e = .returned (.tuple #[.string ⟨#[]⟩, .int .i64 (mcast (s.vote i) n x).2]) ∧ Below w.heap.size w w' := by
  have HO := Lib.hid (nopen_any i w S g c s h)
  rw [ho] at HO
  have HL := Lib.hid (fun (w1 : World) (b1 : Below w.heap.size w w1) => (show ∃ bv, w1.cell? ⟨g, 0, none⟩ = some (.map (some bv)) ∧ (Instr.lookup 54 (.map (some bv)) (.int .i64 i) false).run Try.prog w1 = .ok (.agg #[.int .u64 ((s.vote i).p : Int), .int .u64 ((s.vote i).b : Int), .string (s.vote i).s]) w1 from by
    obtain ⟨bv, bk, nv, nk, hg, hv, _⟩ := h.below b1
    obtain ⟨kl, hkey⟩ := int_key hi
    have hlk := (hv.look_ (e := 27) (t := 54) (z := encVt vt0) (Maps.int_keyed Try.underlying3) Try.underlying54 (by rfl) hkey).1
    unfold votesV at hlk
    rw [encVt_or] at hlk
    exact ⟨bv, cell_row hg 0, hlk⟩))
  have HP := Lib.hid (fun W => cast_any (s.vote i) n x W (s.ok_vote hok i) hn hx)
  generalize s.vote i = v at *
  generalize mcast v n x = r at *
  obtain ⟨vp, vb, vs⟩ := v
  clear h ho hok
  go_enter Try.func12, Try.ntmps12
  go_wp2_with (first
    | (go_at_call 22; refine HO.out.mono ?_; rintro e w1 ⟨rfl, b1⟩; obtain ⟨bv, c0, hlk⟩ := HL.out w1 b1; have B1 := Lib.hid b1; clear b1)
    | (go_at_call 27; refine (HP.out _).mono ?_; rintro e w2 ⟨rfl, b2⟩; have B2 := Lib.hid (bt B1.out b2); clear c0 hlk b2))
  go_ret2
  exact ⟨rfl, B2.out.alloc B2.out.size _⟩

set_option maxRecDepth 100000 in
set_option maxHeartbeats 4000000 in
theorem castN_yes (k : Nat) (n : Nat) (hn : n < 18446744073709551616) (x : ByteArray) (w : World) (S : Nat → Prop) (g c : Nat) (s : Nd) (h : NdA w S g s c) (hc : c ≤ 1000000) (hok : s.ok) (hk : k ≤ 10000) (ho : openE s (k : Int) = 0) (hm : (mcast (s.vote (k : Int)) n x).2 = 0) :
    Calls Try.prog 12 #[.pointer (some ⟨g, 0, none⟩), .int .i64 (k : Int), .int .u64 (n : Int), .string x] w fun e w' => e = .returned (.tuple #[.string (str (recI 118 (k : Int) (halvesL n ++ bl x))), .int .i64 0]) ∧ NdA w' S g { s with votes := updI s.votes (k : Int) (mcast (s.vote (k : Int)) n x).1 } (c + 1) ∧ Turn S S w w' := by
  have hi : -9223372036854775808 ≤ (k : Int) ∧ (k : Int) ≤ 9223372036854775807 := by omega
  have hx := mcast_size hm
  have HO := Lib.hid (nopen_any (k : Int) w S g c s h)
  rw [ho] at HO
  have HL := Lib.hid (fun (w1 : World) (b1 : Below w.heap.size w w1) => (show ∃ bv, w1.cell? ⟨g, 0, none⟩ = some (.map (some bv)) ∧ (Instr.lookup 54 (.map (some bv)) (.int .i64 (k : Int)) false).run Try.prog w1 = .ok (.agg #[.int .u64 ((s.vote (k : Int)).p : Int), .int .u64 ((s.vote (k : Int)).b : Int), .string (s.vote (k : Int)).s]) w1 from by
    obtain ⟨bv, bk, nv, nk, hg, hv, _⟩ := h.below b1
    obtain ⟨kl, hkey⟩ := int_key hi
    have hlk := (hv.look_ (e := 27) (t := 54) (z := encVt vt0) (Maps.int_keyed Try.underlying3) Try.underlying54 (by rfl) hkey).1
    unfold votesV at hlk
    rw [encVt_or] at hlk
    exact ⟨bv, cell_row hg 0, hlk⟩))
  have HP := Lib.hid (fun W => cast_any (s.vote (k : Int)) n x W (s.ok_vote hok k) hn (by omega))
  have HK := Lib.hid (fun (x : Vt) (w2 : World) (b2 : Below w.heap.size w w2) => keep_any (k : Int) hi x w2 S g c s (h.below b2) hc)
  have HT := Lib.hid (fun (w2 : World) (b2 : Below w.heap.size w w2) => Turn.of_below b2 h.lt)
  generalize s.vote (k : Int) = v at *
  generalize mcast v n x = r at *
  obtain ⟨⟨rp, rb, rs⟩, re⟩ := r
  obtain rfl : re = 0 := hm
  obtain ⟨vp, vb, vs⟩ := v
  have HV := Lib.hid (fun W => halves_any n W hn)
  have HR := Lib.hid (fun W : World => record_any 118 118 rfl k hk (some ⟨W.heap.size, 0, none⟩) 2 [str (halvesL n), x] (W.alloc (.cells #[.string (str (halvesL n)), .string x] 9)) (argTexts (World.alloc_heap_new W _)) (by simp) (joinB_cast n x hx))
  rw [rec_cast] at HR
  generalize str (recI 118 (k : Int) (halvesL n ++ bl x)) = R at *
  generalize str (halvesL n) = H at *
  dsimp only [List.length_cons, List.length_nil, Nat.reduceAdd] at HR
  dsimp only at HP
  clear h ho hok
  go_enter Try.func12, Try.ntmps12
  go_wp2_with (first
    | (go_at_call 22; refine HO.out.mono ?_; rintro e w1 ⟨rfl, b1⟩; obtain ⟨bv, c0, hlk⟩ := HL.out w1 b1; have B1 := Lib.hid b1; clear b1)
    | (go_at_call 27; refine (HP.out _).mono ?_; rintro e w2 ⟨rfl, b2⟩; have B2 := Lib.hid ((bt B1.out b2).alloc (bt B1.out b2).size (.cells #[.int .u64 (rp : Int), .int .u64 (rb : Int), .string rs] 27)); clear c0 hlk b2)
    | (go_at_call 24; refine (HK.out ⟨rp, rb, rs⟩ _ B2.out).mono ?_; rintro e w3 ⟨rfl, n3, t3⟩; have N3 := Lib.hid n3; have T3 := Lib.hid ((HT.out _ B2.out).trans t3); clear n3 t3)
    | (go_at_call 26; refine (HV.out _).mono ?_; rintro e w4 ⟨rfl, b4⟩; have N4 := Lib.hid (N3.out.below b4); have T4 := Lib.hid (T3.out.belowR b4); clear b4)
    | (go_at_call 25; refine (HR.out w4).mono ?_; rintro e w5 ⟨rfl, b5⟩; have N5 := Lib.hid (N4.out.below (below1 b5)); have T5 := Lib.hid (T4.out.belowR (below1 b5)); clear b5))
  go_ret2
  exact ⟨rfl, N5.out, T5.out⟩
theorem castN_any (i : Int) (hi : -9223372036854775808 ≤ i ∧ i ≤ 9223372036854775807) (n : Nat) (hn : n < 18446744073709551616) (x : ByteArray) (hx : x.size ≤ 140737488355328) (w : World) (S : Nat → Prop) (g c : Nat) (s : Nd) (h : NdA w S g s c) (hc : c ≤ 1000000) (hok : s.ok) :
    Calls Try.prog 12 #[.pointer (some ⟨g, 0, none⟩), .int .i64 i, .int .u64 (n : Int), .string x] w fun e w' => e = .returned (.tuple #[.string (str (ncast s i n x).1.1), .int .i64 (ncast s i n x).1.2]) ∧ NdA w' S g (ncast s i n x).2 (c + 1) ∧ Turn S S w w' := by
  by_cases ho : openE s i = 0
  · by_cases hm : (mcast (s.vote i) n x).2 = 0
    · have hi2 := openE_zero ho
      obtain ⟨k, rfl⟩ : ∃ k : Nat, i = (k : Int) := ⟨i.toNat, by omega⟩
      rw [ncast_yes ho hm]
      exact castN_yes k n hn x w S g c s h hc hok (by omega) ho hm
    · rw [ncast_bad ho hm]
      refine (castN_bad i hi n hn x hx w S g c s h hok ho hm).mono ?_
      rintro e w1 ⟨rfl, b⟩
      exact ⟨rfl, (h.below b).up (by omega), .of_below b h.lt⟩
  · rw [ncast_no ho]
    refine (castN_no i n x w S g c s h ho).mono ?_
    rintro e w1 ⟨rfl, b⟩
    exact ⟨rfl, (h.below b).up (by omega), .of_below b h.lt⟩
end Go.Proofs.Ytlboeaapmfpipaa
