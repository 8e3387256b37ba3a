/-
  Frames as bytes, by the document. Conditions: numbers are as the program's types allow, the data is of at most five thousand bytes.
-/
import Derived.Test.YtcbihioflmfgjaaDoorFrmD
import Derived.Deep.CutBlock
namespace Go.Proofs.YtcbihioflmfgjaaDoor
open Go.RowKit Go.Shelf Ros Go.Maps
attribute [local go_sem] Oper.semAt_some
set_option linter.unusedVariables false
set_option maxRecDepth 100000 in
set_option maxHeartbeats 1000000 in
theorem encode_no (x : Fr) (h : okF x) (hr : rightB x = false) (w : World) :
    Calls Tryd.prog 13 #[frV x] w fun e w' => e = .returned (.tuple #[.string ⟨#[]⟩, .int .i64 20]) ∧ Below w.heap.size w w' := by
  have HR := Lib.hid (fun W => right_any x h W)
  rw [hr] at HR
  unfold frV at HR ⊢
  clear hr h
  go_enter Tryd.func13, Tryd.ntmps13
  go_wp2_with (go_at_call 15; (with_reducible refine (HR.out _).mono ?_); rintro e w2 ⟨rfl, b2⟩; have B2 := Lib.hid (below_bx b2))
  go_ret2
  exact ⟨rfl, B2.out⟩
set_option maxRecDepth 100000 in
set_option maxHeartbeats 1000000 in
theorem refencode_no (x : Fr) (h : okF x) (hr : rightB x = false) (w : World) :
    Calls Tryd.prog 14 #[frV x] w fun e w' => e = .returned (.tuple #[.string ⟨#[]⟩, .int .i64 20]) ∧ Below w.heap.size w w' := by
  have HR := Lib.hid (fun W => refright_any x h W)
  rw [hr] at HR
  unfold frV at HR ⊢
  clear hr h
  go_enter Tryd.func14, Tryd.ntmps14
  go_wp2_with (go_at_call 16; (with_reducible refine (HR.out _).mono ?_); rintro e w2 ⟨rfl, b2⟩; have B2 := Lib.hid (below_bx b2))
  go_ret2
  exact ⟨rfl, B2.out⟩
theorem encode_any (x : Fr) (h : okF x) (w : World) :
    Calls Tryd.prog 13 #[frV x] w fun e w' => e = .returned (.tuple #[.string (encS x), .int .i64 (encE x)]) ∧ Below w.heap.size w w' := by
  unfold encS encE
  cases hr : rightB x with
  | true => exact encode_yes x h hr w
  | false => exact encode_no x h hr w
set_option maxRecDepth 100000 in
set_option maxHeartbeats 4000000 in
theorem refencode_yes (x : Fr) (h : okF x) (hr : rightB x = true) (w : World) :
    Calls Tryd.prog 14 #[frV x] w fun e w' => e = .returned (.tuple #[.string (str (seal4 (bytesF x))), .int .i64 0]) ∧ Below w.heap.size w w' := by
  have HR := Lib.hid (fun W => refright_any x h W)
  rw [hr] at HR
  have hrp := right_of hr
  obtain ⟨hw, hk, hd, hs, ht, _⟩ := hrp
  have hcl := head_cells (right_of hr)
  have hsd : wrap64 (wrap64 (16 * x.src) + x.dst) = 16 * x.src + x.dst := by unfold wrap64; omega
  rw [← hsd] at hcl
  have hcv := fun w' : World => run_convert_bytes_back (P := Tryd.prog) (w'.alloc (.cells #[Value.int .u8 72, .int .u8 (x.wire % 256), .int .u8 (x.kind % 256), .int .u8 (wrap64 (wrap64 (16 * x.src) + x.dst) % 256)] 5)) 36 9 5 ⟨w'.heap.size, 0, none⟩ 4 (headB x) Tryd.underlying36 Tryd.underlying5 Tryd.underlying9 (cells_new hcl)
  rw [show (headB x).length = 4 from rfl] at hcv
  replace hcv : ∀ w' : World, (convert 36 9 (.slice (some ⟨w'.heap.size, 0, none⟩) 4 4)).run Tryd.prog (w'.alloc (.cells #[Value.int .u8 72, .int .u8 (x.wire % 256), .int .u8 (x.kind % 256), .int .u8 (wrap64 (wrap64 (16 * x.src) + x.dst) % 256)] 5)) = .ok (.string (str (headB x))) (w'.alloc (.cells #[Value.int .u8 72, .int .u8 (x.wire % 256), .int .u8 (x.kind % 256), .int .u8 (wrap64 (wrap64 (16 * x.src) + x.dst) % 256)] 5)) := hcv
  have HX := Lib.hid (World.alloc_heap_new w (.cells #[.int .i64 x.wire, .int .i64 x.kind, .int .i64 x.src, .int .i64 x.dst, .int .u32 (x.life : Int), .int .u32 (x.seq : Int), .int .u32 (x.ack : Int), .int .u32 (x.hint : Int), .string x.data] 24))
  have HP1 := Lib.hid (fun W => refput_any x.life W h.life)
  have HP2 := Lib.hid (fun W => refput_any x.seq W h.seq)
  have HP3 := Lib.hid (fun W => refput_any x.ack W h.ack)
  have HP4 := Lib.hid (fun W => refput_any x.hint W h.hint)
  have HP5 := Lib.hid (fun W => refput_any x.data.size W (by omega))
  have HE := Lib.hid (show ∀ s : ByteArray, bl s = headB x ++ put4 [x.life, x.seq, x.ack] ++ (if x.wire = 2 then put4 [x.hint] else []) → bl (s ++ str (toB 4 x.data.size) ++ x.data) = bytesF x from fun s hs => by
    rw [bl_append, bl_append, bl_str, hs]
    unfold bytesF put4
    simp)
  have HC1 := Lib.hid (show bl (str (headB x) ++ str (toB 4 x.life) ++ str (toB 4 x.seq) ++ str (toB 4 x.ack)) = headB x ++ put4 [x.life, x.seq, x.ack] by
    rw [bl_append, bl_append, bl_append, bl_str, bl_str, bl_str, bl_str]
    unfold put4
    simp)
  have HC2 := Lib.hid (show bl (str (toB 4 x.hint)) = put4 [x.hint] by
    rw [bl_str]
    unfold put4
    simp)
  have z0 : (str (headB x)).size = 4 := by rw [size_str]; rfl
  have z1 : (str (toB 4 x.life)).size = 4 := by rw [size_str, toB_length]
  have z2 : (str (toB 4 x.seq)).size = 4 := by rw [size_str, toB_length]
  have z3 : (str (toB 4 x.ack)).size = 4 := by rw [size_str, toB_length]
  have z4 : (str (toB 4 x.hint)).size = 4 := by rw [size_str, toB_length]
  have z5 : (str (toB 4 x.data.size)).size = 4 := by rw [size_str, toB_length]
  have HSL := Lib.hid (fun (l : ByteArray) (hl : l.size ≤ 20) (hb : bl (l ++ str (toB 4 x.data.size) ++ x.data) = bytesF x) W => (show Calls Tryd.prog 17 #[.string (l ++ str (toB 4 x.data.size) ++ x.data)] W fun e w' => e = .returned (.string (str (seal4 (bytesF x)))) ∧ Below W.heap.size W w' from by
    have c := refseal_any (l ++ str (toB 4 x.data.size) ++ x.data) W (by rw [ByteArray.size_append, ByteArray.size_append]; omega)
    rw [hb] at c
    exact c))
  have hds : IntKind.u32.wrap (x.data.size : Int) = (x.data.size : Int) := by simp [IntKind.wrap, IntKind.signed, IntKind.bits]; omega
  generalize str (headB x) = s1 at *
  generalize str (toB 4 x.life) = t1 at *
  generalize str (toB 4 x.seq) = t2 at *
  generalize str (toB 4 x.ack) = t3 at *
  generalize str (toB 4 x.hint) = t4 at *
  generalize str (toB 4 x.data.size) = t5 at *
  generalize str (seal4 (bytesF x)) = out at *
  have n1 : (9223372036854775807 < s1.size + t1.size) = False := eq_false (by omega)
  have n2 : (9223372036854775807 < s1.size + t1.size + t2.size) = False := eq_false (by omega)
  have n3 : (9223372036854775807 < s1.size + t1.size + t2.size + t3.size) = False := eq_false (by omega)
  have n4 : (9223372036854775807 < s1.size + t1.size + t2.size + t3.size + t4.size) = False := eq_false (by omega)
  unfold frV at HR ⊢
  have HW := Lib.hid hw
  have HD := Lib.hid hd
  have hsz := (show s1.size + t1.size + t2.size + t3.size = 16 by omega)
  have HZ := Lib.hid hsz
  have HZ4 := Lib.hid z4
  have HZ5 := Lib.hid z5
  clear hk hs ht h hr hcl hsd hsz z0 z1 z2 z3 z4 z5 hd
  go_enter Tryd.func14, Tryd.ntmps14
  go_upto_region 5 with (go_at_call 16; (with_reducible refine (HR.out _).mono ?_); rintro e w2 ⟨rfl, b2⟩; have B2 := Lib.hid (below_bx b2); have X2 := Lib.hid (obj_below HX.out b2 (obj_lt HX.out)); obtain ⟨c0, c1, c2, c3, c4, c5, c6, c7, c8, _, _⟩ := cells9 X2.out; clear b2)
  have X3 := Lib.hid (obj_alloc X2.out (.cells #[Value.int .u8 72, .int .u8 (x.wire % 256), .int .u8 (x.kind % 256), .int .u8 (wrap64 (wrap64 (16 * x.src) + x.dst) % 256)] 5))
  have B3 := Lib.hid (B2.out.alloc B2.out.size (.cells #[Value.int .u8 72, .int .u8 (x.wire % 256), .int .u8 (x.kind % 256), .int .u8 (wrap64 (wrap64 (16 * x.src) + x.dst) % 256)] 5))
  generalize w2.alloc (.cells #[Value.int .u8 72, .int .u8 (x.wire % 256), .int .u8 (x.kind % 256), .int .u8 (wrap64 (wrap64 (16 * x.src) + x.dst) % 256)] 5) = w3 at *
  clear c0 c1 c2 c3 c4 c5 c6 c7 c8
  have HS8 := Lib.hid (fun (w' : World) (hb : Below w3.heap.size w3 w') => cells9 (obj_below X3.out hb (obj_lt X3.out)))
  obtain ⟨c0, c1, c2, c3, c4, c5, c6, c7, c8, _, _⟩ := cells9 X3.out
  go_region_held3 (fun w' => w'.cell? ⟨w.heap.size, 4, none⟩ = some (.int .u32 (x.life : Int)) ∧ w'.cell? ⟨w.heap.size, 5, none⟩ = some (.int .u32 (x.seq : Int)) ∧ w'.cell? ⟨w.heap.size, 6, none⟩ = some (.int .u32 (x.ack : Int))) (first | exact ⟨(HS8.out _ h3).2.2.2.2.1, (HS8.out _ h3).2.2.2.2.2.1, (HS8.out _ h3).2.2.2.2.2.2.1⟩ | go_keep) ((first
    | (go_simp; go_at_call 27; (with_reducible refine (HP1.out _).mono ?_); rintro e w5 ⟨rfl, b5⟩; have h3 := btL2 (Below.refl _ w3).drew b5; have B5 := Lib.hid h3)
    | (go_simp; go_at_call 27; (with_reducible refine (HP2.out _).mono ?_); rintro e w6 ⟨rfl, b6⟩; have h3 := btL2 B5.out b6; have B6 := Lib.hid h3)
    | (go_simp; go_at_call 27; (with_reducible refine (HP3.out _).mono ?_); rintro e w7 ⟨rfl, b7⟩; have h3 := btL2 B6.out b7; have B7 := Lib.hid h3)))
  have hs5 : (s1 ++ t1 ++ t2 ++ t3).size = 16 := by rw [ByteArray.size_append, ByteArray.size_append, ByteArray.size_append]; exact HZ.out
  obtain ⟨d0, d1, d2, d3, d4, d5, d6, d7, d8, _, _⟩ := HS8.out _ B7.out
  clear n1 n2 n3 n4 c0 c1 c2 c3 c4 c5 c6 c7 c8
  generalize s1 ++ t1 ++ t2 ++ t3 = s5 at *
  rcases hw with hw | hw
  · have hq : (x.wire == 2) = false := by rw [beq_eq_false_iff_ne]; omega
    have HZS := Lib.hid (show s5.size ≤ 20 by omega)
    have HBS := Lib.hid (show bl s5 = headB x ++ put4 [x.life, x.seq, x.ack] ++ (if x.wire = 2 then put4 [x.hint] else []) by rw [HC1.out, if_neg (by omega), List.append_nil])
    clear hw hs5
    go_upto_region 8 with fail
    obtain ⟨_, _, _, _, _, _, _, _, e8, _, _⟩ := HS8.out _ B7.out
    have m1 : (9223372036854775807 < s5.size + t5.size) = False := eq_false (by have := HZS.out; have := HZ5.out; omega)
    have m2 : (9223372036854775807 < s5.size + t5.size + x.data.size) = False := eq_false (by have := HZS.out; have := HZ5.out; have := HD.out; omega)
    have HSE := Lib.hid (fun W => HSL.out s5 HZS.out (HE.out s5 HBS.out) W)
    go_region_law ((first
      | (go_simp; go_at_call 27; (with_reducible refine (HP5.out _).mono ?_); rintro e w8 ⟨rfl, b8⟩; have B8 := Lib.hid (btL2 B7.out (btL2 (Below.refl _ _).drew b8)); obtain ⟨_, _, _, _, _, _, _, _, g8, _, _⟩ := HS8.out _ B8.out; clear b8)
      | (go_simp; go_at_call 17; (with_reducible refine (HSE.out _).mono ?_); rintro e w9 ⟨rfl, b9⟩; have B9 := Lib.hid (btL2 B8.out b9); clear b9)))
    all_goals
      go_wp2
      go_ret2
      exact ⟨rfl, btL2 B3.out B9.out⟩
  · have hq : (x.wire == 2) = true := by rw [beq_iff_eq]; exact hw
    have n4 : (9223372036854775807 < s5.size + t4.size) = False := eq_false (by have := HZ4.out; omega)
    have hs6 : (s5 ++ t4).size ≤ 20 := by rw [ByteArray.size_append]; have := HZ4.out; omega
    have HZS := Lib.hid hs6
    have HBS := Lib.hid (show bl (s5 ++ t4) = headB x ++ put4 [x.life, x.seq, x.ack] ++ (if x.wire = 2 then put4 [x.hint] else []) by rw [bl_append, HC1.out, HC2.out, if_pos hw])
    clear hw hs5 hs6
    go_upto_region 8 with (go_at_call 27; (with_reducible refine (HP4.out _).mono ?_); rintro e w10 ⟨rfl, b10⟩; have B10 := Lib.hid (btL2 B7.out b10); clear b10)
    generalize s5 ++ t4 = s6 at *
    obtain ⟨_, _, _, _, _, _, _, _, e8, _, _⟩ := HS8.out _ B10.out
    have m1 : (9223372036854775807 < s6.size + t5.size) = False := eq_false (by have := HZS.out; have := HZ5.out; omega)
    have m2 : (9223372036854775807 < s6.size + t5.size + x.data.size) = False := eq_false (by have := HZS.out; have := HZ5.out; have := HD.out; omega)
    have HSE := Lib.hid (fun W => HSL.out s6 HZS.out (HE.out s6 HBS.out) W)
    go_region_law ((first
      | (go_simp; go_at_call 27; (with_reducible refine (HP5.out _).mono ?_); rintro e w8 ⟨rfl, b8⟩; have B8 := Lib.hid (btL2 B10.out (btL2 (Below.refl _ _).drew b8)); obtain ⟨_, _, _, _, _, _, _, _, g8, _, _⟩ := HS8.out _ B8.out; clear b8)
      | (go_simp; go_at_call 17; (with_reducible refine (HSE.out _).mono ?_); rintro e w9 ⟨rfl, b9⟩; have B9 := Lib.hid (btL2 B8.out b9); clear b9)))
    all_goals
      go_wp2
      go_ret2
      exact ⟨rfl, btL2 B3.out B9.out⟩
theorem refencode_any (x : Fr) (h : okF x) (w : World) :
    Calls Tryd.prog 14 #[frV x] w fun e w' => e = .returned (.tuple #[.string (encS x), .int .i64 (encE x)]) ∧ Below w.heap.size w w' := by
  unfold encS encE
  cases hr : rightB x with
  | true => exact refencode_yes x h hr w
  | false => exact refencode_no x h hr w
end Go.Proofs.YtcbihioflmfgjaaDoor
