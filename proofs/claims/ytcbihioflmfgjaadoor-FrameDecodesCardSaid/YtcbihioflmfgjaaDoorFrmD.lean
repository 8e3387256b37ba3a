/-
  Frames as bytes. Conditions: numbers are as the program's types allow, the data is of at most five thousand bytes.
-/
import Derived.Test.YtcbihioflmfgjaaDoorFrmC
import Derived.Test.YtcbihioflmfgjaaDoorCrcP
import Derived.Deep.RegionLaw
import Derived.Deep.RegionHeld3
namespace Ros
open Go Go.RowKit
def put4 (ns : List Nat) : List UInt8 := ns.flatMap (toB 4)
theorem put4_length (ns : List Nat) : (put4 ns).length = 4 * ns.length := by
  induction ns with
  | nil => rfl
  | cons a t ih =>
    unfold put4 at *
    rw [List.flatMap_cons, List.length_append, ih, toB_length, List.length_cons]
    omega
theorem put4_succ (ns : List Nat) (k : Nat) (h : k < ns.length) : put4 (ns.take (k + 1)) = put4 (ns.take k) ++ toB 4 ns[k] := by
  unfold put4
  rw [List.take_succ_eq_append_getElem h, List.flatMap_append]
  simp
theorem ArgAt.freshF {W : World} {t : TypeId} {fz : Nat × Nat} (vs : List Value) : ArgAt (W.alloc (.cells vs.toArray t fz)) 1 (some ⟨W.heap.size, 0, none⟩) vs.length vs := by
  refine ⟨by simp, fun _ => ⟨_, rfl, by simp, fun j u hu => ?_⟩⟩
  rw [addr_add, Nat.zero_add, cell_row (World.alloc_heap_new W _)]
  simpa using hu
def headB (x : Fr) : List UInt8 := [72, UInt8.ofNat x.wire.toNat, UInt8.ofNat x.kind.toNat, UInt8.ofNat (16 * x.src + x.dst).toNat]
/-- A frame's bytes, ahead of the sum. -/
def bytesF (x : Fr) : List UInt8 := headB x ++ put4 [x.life, x.seq, x.ack] ++ (if x.wire = 2 then put4 [x.hint] else []) ++ put4 [x.data.size] ++ bl x.data
@[irreducible] def encS (x : Fr) : ByteArray := if rightB x then str (seal4 (bytesF x)) else ⟨#[]⟩
def encE (x : Fr) : Int := if rightB x then 0 else 20
theorem bytesF_length (x : Fr) : (bytesF x).length = (if x.wire = 2 then 24 else 20) + x.data.size := by
  unfold bytesF headB
  simp only [List.length_append, put4_length, List.length_cons, List.length_nil]
  rw [← size_bl]
  split
  · simp [put4_length]
  · simp
end Ros
namespace Go.Proofs.YtcbihioflmfgjaaDoor
open Go.RowKit Go.Shelf Ros Go.Maps
attribute [local go_sem] Oper.semAt_some
set_option linter.unusedVariables false
set_option maxRecDepth 100000 in
set_option maxHeartbeats 2000000 in
theorem puts_any (s : ByteArray) (ns : List Nat) (A : Option Addr) (c : Nat) (w : World) (hn : ∀ n ∈ ns, n < 4294967296) (hc : ArgAt w 1 A ns.length (ns.map fun n : Nat => Value.int .u32 (n : Int))) (hs : s.size ≤ 1000000) (hl : ns.length ≤ 10) :
    Calls Tryd.prog 25 #[.string s, .slice A ns.length c] w fun e w' => e = .returned (.string (str (bl s ++ put4 ns))) ∧ Below w.heap.size w w' := by
  have HC := Lib.hid hc
  have H0 := Lib.hid (show Value.string s = .string (str (bl s ++ put4 (ns.take 0))) by rw [List.take_zero]; show _ = Value.string (str (bl s ++ [])); rw [List.append_nil, str_bl])
  clear hc
  go_enter Tryd.func25, Tryd.ntmps25
  go_wp2_with fail
  go_loopw [0, 9] (fun sv i wr => ∃ k : Nat, k ≤ ns.length ∧ i = .int .i64 k ∧ sv = .string (str (bl s ++ put4 (ns.take k))) ∧ Below w.heap.size w wr) (fun _ i _ => ns.length - (intOf i).toNat)
  case atStart => exact ⟨0, Nat.zero_le _, rfl, H0.out, Below.refl _ _⟩
  case round =>
    obtain ⟨k, hk, rfl, rfl, hB⟩ := hrel
    clear H0
    by_cases hlt : k < ns.length
    · obtain ⟨a, hl1, rfl, hab, p0⟩ := (HC.out.below hB).one k hlt
      have hnn := hn _ (List.getElem_mem hl1)
      have HP := Lib.hid (fun W => put_any ns[k] W hnn)
      have HE := Lib.hid (show str (bl s ++ put4 (ns.take k)) ++ str (toB 4 ns[k]) = str (bl s ++ put4 (ns.take (k + 1))) from str_of (by rw [bl_append, bl_str, bl_str, put4_succ ns k hl1, List.append_assoc]))
      have hz1 : (str (bl s ++ put4 (ns.take k))).size ≤ 1000040 := by rw [size_str, List.length_append, put4_length, List.length_take, ← size_bl]; omega
      have hz2 : (str (toB 4 ns[k])).size = 4 := by rw [size_str, toB_length]
      have HB := Lib.hid hB
      clear hB hnn
      generalize str (bl s ++ put4 (ns.take k)) = x at *
      generalize str (toB 4 ns[k]) = y at *
      generalize ns[k] = nk at *
      go_wp2_with (go_at_call 39; (with_reducible refine (HP.out _).mono ?_); rintro e w2 ⟨rfl, b2⟩; have B2 := Lib.hid (btL2 HB.out b2); clear b2)
      go_roundw
      case rel => exact ⟨k + 1, by omega, by go_num, by rw [← HE.out], B2.out⟩
      case measure => simp [intOf]; omega
    · obtain rfl : k = ns.length := by omega
      rw [List.take_length]
      go_wp2_with fail
      go_ret
      exact ⟨rfl, hB⟩
theorem right_of {x : Fr} (h : rightB x = true) : rightP x := of_decide_eq_true h
theorem bits_or : ∀ s d : Fin 16, bits .or .i64 (((s : Nat) : Int) * 16) ((d : Nat) : Int) = 16 * ((s : Nat) : Int) + ((d : Nat) : Int) := of_decide_eq_true (by kernel_rfl)
theorem bits_or' {s d : Int} (h1 : 0 ≤ s ∧ s < 16) (h2 : 0 ≤ d ∧ d < 16) : bits .or .i64 (wrap64 (s * 16)) d = 16 * s + d := by
  rw [show wrap64 (s * 16) = s * 16 by unfold wrap64; omega]
  obtain ⟨a, rfl⟩ := Int.eq_ofNat_of_zero_le h1.1
  obtain ⟨b, rfl⟩ := Int.eq_ofNat_of_zero_le h2.1
  exact bits_or ⟨a, by omega⟩ ⟨b, by omega⟩
theorem head_cells {x : Fr} (h : rightP x) : #[Value.int .u8 72, .int .u8 (x.wire % 256), .int .u8 (x.kind % 256), .int .u8 ((16 * x.src + x.dst) % 256)] = cellsOf (headB x) := by
  obtain ⟨hw, hk, hd, hs, ht, _⟩ := h
  have h1 : 0 ≤ x.wire ∧ x.wire ≤ 2 := by rcases hw with e | e <;> omega
  simp only [cellsOf, headB, List.map_cons, List.map_nil, UInt8.toNat_ofNat', Nat.reducePow]
  have e1 : x.wire % 256 = ((x.wire.toNat % 256 : Nat) : Int) := by omega
  have e2 : x.kind % 256 = ((x.kind.toNat % 256 : Nat) : Int) := by omega
  have e3 : (16 * x.src + x.dst) % 256 = (((16 * x.src + x.dst).toNat % 256 : Nat) : Int) := by omega
  rw [← e1, ← e2, ← e3]
  rfl
/-- The last part of both. -/
theorem enc_eq (x : Fr) (s : ByteArray) (hs : bl s = headB x ++ put4 [x.life, x.seq, x.ack] ++ (if x.wire = 2 then put4 [x.hint] else [])) : bl (str (bl s ++ put4 [x.data.size]) ++ x.data) = bytesF x := by
  rw [bl_append, bl_str, hs]
  rfl
set_option maxRecDepth 100000 in
set_option maxHeartbeats 4000000 in
theorem encode_yes (x : Fr) (h : okF x) (hr : rightB x = true) (w : World) :
    Calls Tryd.prog 13 #[frV x] w fun e w' => e = .returned (.tuple #[.string (str (seal4 (bytesF x))), .int .i64 0]) ∧ Below w.heap.size w w' := by
  have HR := Lib.hid (fun W => right_any x h W)
  rw [hr] at HR
  have hrp := right_of hr
  obtain ⟨hw, hk, hd, hs, ht, _⟩ := hrp
  have hcl := head_cells (right_of hr)
  have hbo := bits_or' hs ht
  have hcv := fun w' : World => run_convert_bytes_back (P := Tryd.prog) (w'.alloc (.cells #[Value.int .u8 72, .int .u8 (x.wire % 256), .int .u8 (x.kind % 256), .int .u8 (bits .or .i64 (wrap64 (x.src * 16)) x.dst % 256)] 5)) 36 9 5 ⟨w'.heap.size, 0, none⟩ 4 (headB x) Tryd.underlying36 Tryd.underlying5 Tryd.underlying9 (cells_new (by rw [hbo]; exact hcl))
  rw [show (headB x).length = 4 from rfl] at hcv
  replace hcv : ∀ w' : World, (convert 36 9 (.slice (some ⟨w'.heap.size, 0, none⟩) 4 4)).run Tryd.prog (w'.alloc (.cells #[Value.int .u8 72, .int .u8 (x.wire % 256), .int .u8 (x.kind % 256), .int .u8 (bits .or .i64 (wrap64 (x.src * 16)) x.dst % 256)] 5)) = .ok (.string (str (headB x))) (w'.alloc (.cells #[Value.int .u8 72, .int .u8 (x.wire % 256), .int .u8 (x.kind % 256), .int .u8 (bits .or .i64 (wrap64 (x.src * 16)) x.dst % 256)] 5)) := hcv
  have HX := Lib.hid (World.alloc_heap_new w (.cells #[.int .i64 x.wire, .int .i64 x.kind, .int .i64 x.src, .int .i64 x.dst, .int .u32 (x.life : Int), .int .u32 (x.seq : Int), .int .u32 (x.ack : Int), .int .u32 (x.hint : Int), .string x.data] 24))
  have hz1 : (str (headB x)).size = 4 := by rw [size_str]; rfl
  have HP1 := Lib.hid (fun (W : World) (g : Nat) (hg : g = W.heap.size) => puts_any (str (headB x)) [x.life, x.seq, x.ack] (some ⟨g, 0, none⟩) 3 (W.alloc (.cells #[.int .u32 (x.life : Int), .int .u32 (x.seq : Int), .int .u32 (x.ack : Int)] 22)) (by intro n hn; simp at hn; rcases hn with rfl | rfl | rfl; exact h.life; exact h.seq; exact h.ack) (hg ▸ ArgAt.freshF [.int .u32 (x.life : Int), .int .u32 (x.seq : Int), .int .u32 (x.ack : Int)]) (by omega) (by simp))
  have hb1 : bl (str (headB x)) = headB x := bl_str _
  have HB1 := Lib.hid hb1
  have hz2 : (str (bl (str (headB x)) ++ put4 [x.life, x.seq, x.ack])).size = 16 := by rw [size_str, List.length_append, bl_str, put4_length]; rfl
  have HB2 := Lib.hid (show bl (str (bl (str (headB x)) ++ put4 [x.life, x.seq, x.ack])) = headB x ++ put4 [x.life, x.seq, x.ack] by rw [bl_str, bl_str])
  rw [show [x.life, x.seq, x.ack].length = 3 from rfl] at HP1
  clear hb1 hcl hbo
  generalize str (bl (str (headB x)) ++ put4 [x.life, x.seq, x.ack]) = s2 at *
  generalize str (headB x) = s1 at *
  have HP2 := Lib.hid (fun (W : World) (g : Nat) (hg : g = W.heap.size) => puts_any s2 [x.hint] (some ⟨g, 0, none⟩) 1 (W.alloc (.cells #[.int .u32 (x.hint : Int)] 22)) (by intro n hn; simp at hn; subst hn; exact h.hint) (hg ▸ ArgAt.freshF [.int .u32 (x.hint : Int)]) (by omega) (by simp))
  have HH := Lib.hid h
  unfold frV at HR ⊢
  obtain ⟨s3, hs3⟩ : ∃ s3, s3 = if x.wire = 2 then str (bl s2 ++ put4 [x.hint]) else s2 := ⟨_, rfl⟩
  have hz3 : s3.size ≤ 20 := by
    rw [hs3]
    split
    · rw [size_str, List.length_append, put4_length, ← size_bl, hz2]; simp
    · omega
  have hb3 : bl s3 = headB x ++ put4 [x.life, x.seq, x.ack] ++ (if x.wire = 2 then put4 [x.hint] else []) := by
    rw [hs3]
    split
    · rw [bl_str, HB2.out]
    · rw [HB2.out, List.append_nil]
  have HE := Lib.hid (enc_eq x s3 hb3)
  have HP3 := Lib.hid (fun (W : World) (g : Nat) (hg : g = W.heap.size) => puts_any s3 [x.data.size] (some ⟨g, 0, none⟩) 1 (W.alloc (.cells #[.int .u32 (x.data.size : Int)] 22)).drew (by intro n hn; simp at hn; subst hn; omega) (hg ▸ (ArgAt.freshF [.int .u32 (x.data.size : Int)]).drew) (by omega) (by simp))
  have hz4 : (str (bl s3 ++ put4 [x.data.size])).size ≤ 24 := by rw [size_str, List.length_append, put4_length, ← size_bl]; show s3.size + 4 ≤ 24; omega
  have HSL := Lib.hid (fun W => seal_any (str (bl s3 ++ put4 [x.data.size]) ++ x.data) W (by rw [ByteArray.size_append]; omega))
  have hEq : ∀ l, bl l = bytesF x → str (bl l ++ toB 4 (sum (bl l))) = str (seal4 (bytesF x)) := fun l hl => by rw [hl]; rfl
  rw [hEq _ HE.out] at HSL
  clear hEq hb3
  generalize str (seal4 (bytesF x)) = out at *
  generalize str (bl s3 ++ put4 [x.data.size]) = s4 at *
  have hds : IntKind.u32.wrap (x.data.size : Int) = (x.data.size : Int) := by simp [IntKind.wrap, IntKind.signed, IntKind.bits]; omega
  have HW := Lib.hid hw
  have hsz := x.data.size
  have hno : (9223372036854775807 < s4.size + x.data.size) = False := eq_false (by omega)
  have hz4i : (s4.size : Int) ≤ 8388608 := by omega
  have hdi : (x.data.size : Int) ≤ 8388608 := by omega
  have HS3 := Lib.hid hs3
  clear h hr hk hs ht hs3
  rw [show [x.hint].length = 1 from rfl] at HP2
  rw [show [x.data.size].length = 1 from rfl] at HP3
  generalize hmd : 16 * x.src + x.dst = md at *
  have HAR := fun (W : World) (hb : W.heap[w.heap.size]? = some (.cells #[.int .i64 x.wire, .int .i64 x.kind, .int .i64 x.src, .int .i64 x.dst, .int .u32 (x.life : Int), .int .u32 (x.seq : Int), .int .u32 (x.ack : Int), .int .u32 (x.hint : Int), .string x.data] 24 (0, 0))) => cells9 hb
  clear hmd
  rcases hw with hw | hw
  · have hq : (x.wire == 2) = false := by rw [beq_eq_false_iff_ne]; omega
    have e3 : s3 = s2 := by rw [HS3.out, if_neg (by omega)]
    subst e3
    clear HP2 hw HS3
    go_enter Tryd.func13, Tryd.ntmps13
    go_wp2_with (first
      | (go_at_call 15; (with_reducible refine (HR.out _).mono ?_); rintro e w2 ⟨rfl, b2⟩; have B2 := Lib.hid (below_bx b2); have X2 := Lib.hid (obj_below HX.out b2 (obj_lt HX.out)); obtain ⟨c0, c1, c2, c3, c4, c5, c6, c7, c8, _, _⟩ := cells9 X2.out; clear b2)
      | (go_at_call 25; (with_reducible refine (HP1.out _ _ (by simp)).mono ?_); rintro e w3 ⟨rfl, b3⟩; have B3 := Lib.hid (btL2 B2.out ((below_bx (below_bx b3)))); have X3 := Lib.hid (obj_below (obj_alloc (obj_alloc X2.out _) _) b3 (obj_lt (obj_alloc (obj_alloc X2.out _) _))); obtain ⟨x0, x1, x2, x3, x4, x5, x6, x7, x8, _, _⟩ := cells9 X3.out; clear b3))
    have HS8 := Lib.hid (fun (w' : World) (hb : Below w3.heap.size w3 w') => (show w'.cell? ⟨w.heap.size, 8, none⟩ = some (.string x.data) from (cells9 (obj_below X3.out hb (obj_lt X3.out))).2.2.2.2.2.2.2.2.1))
    go_region_law ((first
      | (go_simp; go_at_call 25; (with_reducible refine (HP3.out _ _ (by simp)).mono ?_); rintro e w5 ⟨rfl, b5⟩; have h3 : Below w3.heap.size w3 w5 := btL2 ((Below.refl _ w3).alloc (Nat.le_refl _) _).drew b5; have B5 := Lib.hid h3; have d8 := HS8.out _ h3; clear b5 h3)
      | (go_simp; go_at_call 26; (with_reducible refine (HSL.out _).mono ?_); rintro e w6 ⟨rfl, b7⟩; have B6 := Lib.hid (btL2 B5.out b7); clear b7)))
    all_goals
      go_wp2
      go_ret2
      exact ⟨rfl, btL2 B3.out B6.out⟩
  · have hq : (x.wire == 2) = true := by rw [beq_iff_eq]; exact hw
    have e3 : str (bl s2 ++ put4 [x.hint]) = s3 := by rw [HS3.out, if_pos hw]
    rw [e3] at HP2
    clear hw HS3 e3
    go_enter Tryd.func13, Tryd.ntmps13
    go_wp2_with (first
      | (go_at_call 15; (with_reducible refine (HR.out _).mono ?_); rintro e w2 ⟨rfl, b2⟩; have B2 := Lib.hid (below_bx b2); have X2 := Lib.hid (obj_below HX.out b2 (obj_lt HX.out)); obtain ⟨c0, c1, c2, c3, c4, c5, c6, c7, c8, _, _⟩ := cells9 X2.out; clear b2)
      | (go_at_call 25; (with_reducible refine (HP1.out _ _ (by simp)).mono ?_); rintro e w3 ⟨rfl, b3⟩; have B3 := Lib.hid (btL2 B2.out ((below_bx (below_bx b3)))); have X3 := Lib.hid (obj_below (obj_alloc (obj_alloc X2.out _) _) b3 (obj_lt (obj_alloc (obj_alloc X2.out _) _))); obtain ⟨x0, x1, x2, x3, x4, x5, x6, x7, x8, _, _⟩ := cells9 X3.out; clear b3)
      | (go_at_call 25; (with_reducible refine (HP2.out _ _ (by simp)).mono ?_); rintro e w4 ⟨rfl, b4⟩; have B4 := Lib.hid (btL2 B3.out (below_bx b4)); have X4 := Lib.hid (obj_below (obj_alloc X3.out _) b4 (obj_lt (obj_alloc X3.out _))); obtain ⟨y0, y1, y2, y3, y4, y5, y6, y7, y8, _, _⟩ := cells9 X4.out; clear b4))
    have HS8 := Lib.hid (fun (w' : World) (hb : Below w4.heap.size w4 w') => (show w'.cell? ⟨w.heap.size, 8, none⟩ = some (.string x.data) from (cells9 (obj_below X4.out hb (obj_lt X4.out))).2.2.2.2.2.2.2.2.1))
    go_region_law ((first
      | (go_simp; go_at_call 25; (with_reducible refine (HP3.out _ _ (by simp)).mono ?_); rintro e w5 ⟨rfl, b5⟩; have h3 : Below w4.heap.size w4 w5 := btL2 ((Below.refl _ w4).alloc (Nat.le_refl _) _).drew b5; have B5 := Lib.hid h3; have d8 := HS8.out _ h3; clear b5 h3)
      | (go_simp; go_at_call 26; (with_reducible refine (HSL.out _).mono ?_); rintro e w6 ⟨rfl, b7⟩; have B6 := Lib.hid (btL2 B5.out b7); clear b7)))
    all_goals
      go_wp2
      go_ret2
      exact ⟨rfl, btL2 B4.out B6.out⟩
end Go.Proofs.YtcbihioflmfgjaaDoor
