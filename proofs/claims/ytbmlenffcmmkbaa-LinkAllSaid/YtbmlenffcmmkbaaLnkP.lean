/-
  The laws of link: two ends behind a script, walked. Conditions: numbers are as the program's types allow.
-/
import Derived.Test.YtbmlenffcmmkbaaLnkO
import Derived.Deep.CutBlock
namespace Go.Proofs.Ytbmlenffcmmkbaa
open Go.RowKit Go.Shelf Ros Go.Maps
attribute [local go_sem] Oper.semAt_some
attribute [local go_sem ↓] Go.wp_at_zero Go.wp_at_succ
set_option linter.unusedVariables false
set_option maxRecDepth 100000 in
set_option maxHeartbeats 1000000 in
theorem ended_no (win : Int) (A : Option Addr) (n c : Nat) (w : World) (hw : win < 1 ∨ 64 < win) :
    Calls Try.prog 9 #[.int .i64 win, .slice A n c] w fun e w' => e = .returned (.tuple #[.slice none 0 0, .slice none 0 0, .pointer none, .pointer none, .bool false]) ∧ Below w.heap.size w w' := by
  go_enter Try.func9, Try.ntmps9
  go_wp2_with fail
  refine (lnew_win 1 2 2 win 3 w ⟨by decide, by decide⟩ ⟨by decide, by decide⟩ (by decide) hw).mono ?_
  rintro e w1 ⟨rfl, b1⟩
  go_wp2_with fail
  refine (lnew_win 2 1 2 win 4 w1 ⟨by decide, by decide⟩ ⟨by decide, by decide⟩ (by decide) hw).mono ?_
  rintro e w2 ⟨rfl, b2⟩
  go_wp2_with fail
  refine bodyPost_ret (results_tmp5 rfl _ _ _) rfl ?_
  exact ⟨rfl, btL b1 b2⟩
set_option maxRecDepth 100000 in
set_option maxHeartbeats 8000000 in
theorem ended_yes (win : Int) (A : Option Addr) (cap : Nat) (xs : List Sp) (w : World) (h1 : 1 ≤ win) (h2 : win ≤ 64) (ha : ArgAt w 3 A xs.length (cellsSps xs)) (hx : ∀ x ∈ xs, okSp x) :
    Calls Try.prog 9 #[.int .i64 win, .slice A xs.length cap] w fun e w' => ∃ S g T h c As cs Ac cc Aw cw,
      e = .returned (.tuple #[.slice As c.sent.length cs, .slice Ac c.came.length cc, .pointer (some ⟨g, 0, none⟩), .pointer (some ⟨h, 0, none⟩), .bool true]) ∧ Ei win 100 c ∧
        En w w' S g T h (c.a win) (c.b win) (.slice As c.sent.length cs) c.sent (.slice Ac c.came.length cc) c.came (.slice Aw c.way.length cw) c.way := by
  obtain ⟨i0, hi0, hz0, hz1, hz2⟩ := info_parts frame_info
  have HA := Lib.hid ha
  clear ha
  go_enter Try.func9, Try.ntmps9
  go_wp2_with fail
  refine (n1_law (Below.refl _ w) 1 2 2 win 3 ⟨by decide, by decide⟩ ⟨by decide, by decide⟩ (by decide) (.inr rfl) ⟨h1, h2⟩ (by decide)).mono ?_
  rintro e w1 ⟨g, S, rfl, hL1, _⟩
  go_wp2_with fail
  refine (n2_law hL1 2 1 2 win 4 ⟨by decide, by decide⟩ ⟨by decide, by decide⟩ (by decide) (.inr rfl) ⟨h1, h2⟩ (by decide)).mono ?_
  rintro e w2 ⟨h, T, rfl, hL2, _⟩
  clear hL1
  have HE0 := Lib.hid (show En w w2 S g T h ((⟨[], [], 1, 0, []⟩ : Ec).a win) ((⟨[], [], 1, 0, []⟩ : Ec).b win) (.slice none 0 0) [] (.slice none 0 0) [] (.slice none 0 0) [] from ⟨hL2, .nil, .nil, .nil, fun k hk => by cases hk⟩)
  have HI0 := Lib.hid (Ei.start win h1 h2)
  clear hL2
  go_wp2_with fail
  go_loopw [13, 14, 15, 16] (fun vw vs vc i wr => ∃ (k : Nat) (c : Ec) (As : Option Addr) (cs : Nat) (Ac : Option Addr) (cc : Nat) (Aw : Option Addr) (cw : Nat), k ≤ 100 ∧ k ≤ xs.length ∧ i = .int .i64 k ∧ vs = .slice As c.sent.length cs ∧ vc = .slice Ac c.came.length cc ∧ vw = .slice Aw c.way.length cw ∧ Ei win k c ∧
    En w wr S g T h (c.a win) (c.b win) (.slice As c.sent.length cs) c.sent (.slice Ac c.came.length cc) c.came (.slice Aw c.way.length cw) c.way) (fun _ _ _ i _ => 100 - (intOf i).toNat)
  case atStart => exact ⟨0, ⟨[], [], 1, 0, []⟩, none, 0, none, 0, none, 0, by omega, by omega, rfl, rfl, rfl, rfl, HI0.out, HE0.out⟩
  case round =>
    obtain ⟨k, c, As, cs, Ac, cc, Aw, cw, hk, hkn, rfl, rfl, rfl, rfl, hI, hE⟩ := hrel
    have HI := Lib.hid hI
    clear HE0 HI0
    have HE0 := Lib.hid hE
    clear hI hE
    by_cases hlt : k < xs.length ∧ k < 100
    · obtain ⟨hl1, hl2⟩ := hlt
      obtain ⟨a, rfl, c0, c1, c2⟩ := sp_at (HA.out.below HE0.out.two.from_) k hl1
      have HOK := Lib.hid (hx xs[k] (List.getElem_mem hl1))
      generalize xs[k] = x at *
      have HWR := Lib.hid (World.alloc_heap_new wr (.cells #[.int .i64 x.d, .int .i64 x.p, .string x.s] 47))
      have HE := Lib.hid (HE0.out.alloc (.cells #[.int .i64 x.d, .int .i64 x.p, .string x.s] 47))
      go_upto_if 55 with fail
      go_cut [18] from 39 to 165 (fun pv wx => ∃ i : Nat, pv = .int .i64 i ∧ (0 < c.way.length → i < c.way.length) ∧ wx = wr.alloc (.cells #[.int .i64 x.d, .int .i64 x.p, .string x.s] 47))
      case first =>
        have hw63 := HI.out.len
        clear HE
        generalize c.way.length = L at *
        by_cases hwl : 0 < L
        · have e1 : IntKind.u64.wrap (L : Int) = (L : Int) := by rw [IntKind.wrap_u64]; omega
          have e2 : ((L : Int) == 0) = false := by simp; omega
          have e4 : decide ((L : Int) > 0) = true := by simp; omega
          go_wp2
          go_meet
          obtain ⟨i, hi1, hi2⟩ := at_of x.p L hwl hw63
          exact ⟨i, by rw [← hi1], fun _ => hi2, rfl⟩
        · have e4 : decide ((L : Int) > 0) = false := by simp; omega
          go_wp2
          go_meet
          exact ⟨0, rfl, fun h => absurd h hwl, rfl⟩
      case rest =>
        obtain ⟨i, rfl, hi, rfl⟩ := hcut
        have hns : ¬ S wr.heap.size := fun hs => Nat.lt_irrefl _ (HE0.out.two.1.1.lt _ hs)
        have hnt : ¬ T wr.heap.size := fun hs => Nat.lt_irrefl _ (HE0.out.two.2.1.1.lt _ hs)
        clear HE0 c0 c1 c2
        generalize wr.alloc (.cells #[.int .i64 x.d, .int .i64 x.p, .string x.s] 47) = W1 at *
        obtain ⟨c0, c1, c2, _, _, _, hBl⟩ := cells3 HWR.out
        generalize wr.heap.size = B at *
        rcases do6 x.d with hm | hm | hm | hm | hm | hm
        · -- Send
          have HT := Lib.hid (fun W => ltext_any x.s W HOK.out.2.2)
          have hcs := cutL_size x.s
          have HSD := Lib.hid (fun W (E : En w W S g T h (c.a win) (c.b win) (.slice As c.sent.length cs) c.sent (.slice Ac c.came.length cc) c.came (.slice Aw c.way.length cw) c.way) => E.send (cutL x.s) (by omega) (by have := HI.out.next; have := HI.out.sent; omega) (by have := HI.out.outs64; omega))
          have HB2 := Lib.hid (fun (W : World) (hb : W.heap[B]? = W1.heap[B]?) => show W.cell? ⟨B, 2, none⟩ = some (.string x.s) from cell_row (hb.trans HWR.out) 2)
          by_cases hf : win ≤ ((c.a win).outs.length : Int)
          · rw [Ei.send_full _ hcs hf] at HSD
            have HI2 := Lib.hid HI.out.more
            clear hf hcs
            generalize cutL x.s = d at *
            go_wp2_with (first
              | (go_at_call 16; (with_reducible refine (HT.out _).mono ?_); rintro e w3 ⟨rfl, rfl⟩)
              | (go_at_call 14; (with_reducible refine (HSD.out _ HE.out).mono ?_); rintro e w4 ⟨rfl, h4, t4⟩; have H4 := Lib.hid h4; clear h4 t4))
            go_roundw
            case rel => exact ⟨k + 1, c, As, cs, Ac, cc, Aw, cw, by omega, by omega, by go_num, rfl, rfl, rfl, HI2.out, H4.out⟩
            case measure => simp [intOf]; omega
          · obtain ⟨hs1, hs2⟩ := HI.out.send_yes hl2 (cutL x.s) hcs hf
            rw [hs1] at HSD
            have HI2 := Lib.hid hs2
            have hsl := HI.out.sent
            have hm1 : c.sent.length + 1 ≤ maxLen := by unfold maxLen; omega
            have hm2 : (c.sent.length + 1) * 16 ≤ 140737488355328 := by omega
            have HCS := Lib.hid (show (c.sent ++ [cutL x.s]).map Value.string = c.sent.map Value.string ++ [.string (cutL x.s)] by simp)
            have HLN := Lib.hid (show (c.sent ++ [cutL x.s]).length = c.sent.length + 1 by simp)
            clear hf hcs hs1 hs2 hsl
            generalize cutL x.s = d at *
            obtain ⟨j0, hj0, jz0, jz1, jz2⟩ := info_parts strL_info
            go_wp2_with (first
              | (go_at_call 16; (with_reducible refine (HT.out _).mono ?_); rintro e w3 ⟨rfl, rfl⟩)
              | (go_at_call 14; (with_reducible refine (HSD.out _ HE.out).mono ?_); rintro e w4 ⟨rfl, h4, t4⟩; have H4 := Lib.hid (h4.alloc (.cells #[.string d] 9)); have cc4 := HB2.out _ (t4.block B hBl hns); clear h4 t4)
              | (at_builtin; generalize hG : wpList _ _ _ _ _ _ = G))
            subst hG
            refine wpList_append_row _ rfl _ _ 24 24 rfl 9 j0 _ 1 16 Try.underlying24 hj0 jz0 jz1 jz2 rfl _ c.sent.length _ rfl H4.out.rs.1 _ 1 [.string d] rfl (Src.ofSlice _ Try.underlying24 _ 1 1 _ rfl (cell_one_new _ _ _) (by simp [Value.oneCell'])) hm1 hm2 ?_
            intro A2 c2' w5 hr2 hg2 hat2
            rw [← HCS.out, ← HLN.out] at hr2
            have H5 := Lib.hid (H4.out.putSent hr2 hg2 (by rw [HLN.out]; exact hat2))
            clear hr2 hg2 hat2
            go_wp2
            go_roundw
            case rel => exact ⟨k + 1, { c with sent := c.sent ++ [d] }, A2, c2', Ac, cc, Aw, cw, by omega, by omega, by go_num, by show _ = Value.slice A2 (c.sent ++ [d]).length c2'; rw [HLN.out], rfl, rfl, HI2.out, H5.out⟩
            case measure => simp [intOf]; omega
        · -- Out
          have hw63 := HI.out.len
          by_cases hf : c.way.length < 200
          · have HOU := Lib.hid (fun W (E : En w W S g T h (c.a win) (c.b win) (.slice As c.sent.length cs) c.sent (.slice Ac c.came.length cc) c.came (.slice Aw c.way.length cw) c.way) => E.goOut (by have := HI.out.next; have := HI.out.sent; omega) (show 1 < 4294967296 by decide) HI.out.outs64)
            have HI2 := Lib.hid (HI.out.out_ hf)
            have h64 := HI.out.outs64
            have hm1 : c.way.length + (c.a win).outs.length ≤ maxLen := by unfold maxLen; omega
            have hm2 : (c.way.length + (c.a win).outs.length) * 64 ≤ 140737488355328 := by omega
            have HLN := Lib.hid (show (c.way ++ framesN (c.a win) (c.a win).outs.length).length = c.way.length + (c.a win).outs.length by rw [List.length_append]; simp [framesN])
            have HCS := Lib.hid (show (c.way ++ framesN (c.a win) (c.a win).outs.length).flatMap frL = c.way.flatMap frL ++ (framesN (c.a win) (c.a win).outs.length).flatMap frL by simp)
            have HO1 := Lib.hid (frL_one (framesN (c.a win) (c.a win).outs.length))
            have e4 : decide ((c.way.length : Int) < 200) = true := by rw [decide_eq_true_iff]; omega
            clear h64 hw63
            generalize framesN (c.a win) (c.a win).outs.length = lf at *
            generalize (c.a win).outs.length = no at *
            go_wp2_with (first
              | (go_at_call 11; (with_reducible refine (HOU.out _ HE.out).mono ?_); rintro e w4 ⟨Ao, co, rfl, r4, h4, b4⟩; have H4 := Lib.hid h4; have R4 := Lib.hid r4; clear h4 b4 r4)
              | (at_builtin; generalize hG : wpList _ _ _ _ _ _ = G))
            subst hG
            refine wpList_append_row _ rfl _ _ 30 30 rfl 37 i0 _ 9 64 Try.underlying30 hi0 hz0 hz1 hz2 rfl _ c.way.length _ rfl H4.out.rw.1 _ no (lf.flatMap frL) rfl (R4.out.1.srcL Try.underlying30 HO1.out) hm1 hm2 ?_
            intro A2 c2' w5 hr2 hg2 hat2
            rw [← HCS.out, ← HLN.out] at hr2
            have H5 := Lib.hid (H4.out.putWay hr2 hg2 (by rw [HLN.out]; exact hat2))
            clear hr2 hg2 hat2
            go_wp2
            go_roundw
            case rel => exact ⟨k + 1, { c with way := c.way ++ lf }, As, cs, Ac, cc, A2, c2', by omega, by omega, by go_num, rfl, rfl, by show _ = Value.slice A2 (c.way ++ lf).length c2'; rw [HLN.out], HI2.out, H5.out⟩
            case measure => simp [intOf]; omega
          · have e4 : decide ((c.way.length : Int) < 200) = false := by rw [decide_eq_false_iff_not]; omega
            have e5 : ¬ ((c.way.length : Int) < 200) := by omega
            have HI2 := Lib.hid HI.out.more
            go_wp2
            go_roundw
            case rel => exact ⟨k + 1, c, As, cs, Ac, cc, Aw, cw, by omega, by omega, by go_num, rfl, rfl, rfl, HI2.out, HE.out⟩
            case measure => simp [intOf]; omega
        · -- one comes
          by_cases hwl : 0 < c.way.length
          · have hil := hi hwl
            have hw63 := HI.out.len
            have e7 : ((c.way.length : Int) == 0) = false := by rw [beq_eq_false_iff_ne]; omega
            have hy : wayOk c c.way[i] := HI.out.way _ (List.getElem_mem hil)
            obtain ⟨a2, rfl, p0, p1, p2, p3, p4, p5, p6, p7, p8⟩ := fr_at HE.out.rw.arg i hil
            have HIL := Lib.hid (HI.out.lost i)
            generalize c.way[i] = y at *
            have HG := Lib.hid (World.alloc_heap_new W1 (.cells #[.int .i64 y.wire, .int .i64 y.kind, .int .i64 y.src, .int .i64 y.dst, .int .u32 (y.life : Int), .int .u32 (y.seq : Int), .int .u32 (y.ack : Int), .int .u32 (y.hint : Int), .string y.data] 37))
            have HE2 := Lib.hid (HE.out.alloc (.cells #[.int .i64 y.wire, .int .i64 y.kind, .int .i64 y.src, .int .i64 y.dst, .int .u32 (y.life : Int), .int .u32 (y.seq : Int), .int .u32 (y.ack : Int), .int .u32 (y.hint : Int), .string y.data] 37))
            have hg1 : ¬ S W1.heap.size := fun hs => Nat.lt_irrefl _ (HE.out.two.1.1.lt _ hs)
            have hg2 : ¬ T W1.heap.size := fun hs => Nat.lt_irrefl _ (HE.out.two.2.1.1.lt _ hs)
            go_upto_region 25 with fail
            clear p0 p1 p2 p3 p4 p5 p6 p7 p8 HE
            generalize W1.alloc (.cells #[.int .i64 y.wire, .int .i64 y.kind, .int .i64 y.src, .int .i64 y.dst, .int .u32 (y.life : Int), .int .u32 (y.seq : Int), .int .u32 (y.ack : Int), .int .u32 (y.hint : Int), .string y.data] 37) = W2 at *
            generalize W1.heap.size = G at *
            generalize some a2 = Aw at *
            obtain ⟨Z, hZ, hmk⟩ := make_way c.way.length hw63
            obtain ⟨hcw, _⟩ : c.way.length ≤ cw ∧ cw ≤ maxLen := by
              obtain ⟨_, _, e, e1, e2⟩ := HE2.out.rw.1.form
              cases e
              exact ⟨e1, e2⟩
            have hs1 := slice_h (P := Try.prog) Try.underlying30 hi0 Aw c.way.length cw i (by omega)
            have hs2 := slice_l (P := Try.prog) Try.underlying30 hi0 Aw c.way.length cw (i + 1) (by omega) (IntKind.i64.wrap ((i : Int) + 1)) (by rw [IntKind.wrap_i64]; omega)
            rw [hz1] at hs2
            have HRA := Lib.hid (fun (W : World) (hr : Row W 37 9 (.slice Aw c.way.length cw) c.way.length (c.way.flatMap frL)) => hr.src_head Try.underlying30 (k := i) (by omega) (frL_one _))
            have HR2 := Lib.hid (fun (W : World) (hr : Row W 37 9 (.slice Aw c.way.length cw) c.way.length (c.way.flatMap frL)) => hr.src_from Try.underlying30 (k := i + 1) (by omega) (frL_one _))
            have hL63 : c.way.length ≤ maxLen := by unfold maxLen; omega
            generalize (if cw = i + 1 then Aw else Aw.map (·.add ((i + 1) * 9))) = Av at *
            have HB0 := Lib.hid (((Below.refl _ W2).drew.alloc (Nat.le_refl _) (.cells Z 37)))
            have HWY := Lib.hid HE2.out.rw.1
            have HLN := Lib.hid (show (c.way.take i ++ c.way.drop (i + 1)).length = i + (c.way.length - (i + 1)) by rw [List.length_append, List.length_take, List.length_drop]; omega)
            have HCS := Lib.hid (show (c.way.take i ++ c.way.drop (i + 1)).flatMap frL = [] ++ (c.way.flatMap frL).take (i * 9) ++ (c.way.flatMap frL).drop ((i + 1) * 9) by rw [flat_take frL_length, flat_drop frL_length, List.flatMap_append]; rfl)
            have hm1 : 0 + i ≤ maxLen := by unfold maxLen; omega
            have hm2 : (0 + i) * 64 ≤ 140737488355328 := by omega
            have hm3 : i + (c.way.length - (i + 1)) ≤ maxLen := by unfold maxLen; omega
            have hm4 : (i + (c.way.length - (i + 1))) * 64 ≤ 140737488355328 := by omega
            go_region_law ((first
              | (refine step_append_row _ (by rfl) _ _ _ _ (by rfl) 37 i0 _ 9 64 Try.underlying30 hi0 hz0 hz1 hz2 rfl (.slice (some ⟨W2.heap.size, 0, none⟩) 0 c.way.length) 0 [] (by rfl) (row_made (World.alloc_heap_new W2.drew _) hZ hL63) _ i ((c.way.flatMap frL).take (i * 9)) (by rfl) (HRA.out _ (HWY.out.drew.alloc _)) hm1 hm2 ?_; intro A3 c3 w3 r3 g3 a3; rw [Nat.zero_add] at r3 a3; have HW3 := Lib.hid (lost_keep HWY.out g3))
              | (refine step_append_row _ (by rfl) _ _ _ _ (by rfl) 37 i0 _ 9 64 Try.underlying30 hi0 hz0 hz1 hz2 rfl (.slice A3 i c3) i _ (by rfl) r3 _ (c.way.length - (i + 1)) _ (by rfl) (HR2.out _ HW3.out) hm3 hm4 ?_; intro A4 c4 w4 r4 g4 a4)))
            all_goals
              obtain ⟨hbe, hfe⟩ := lost_end g3 a3 g4 a4
              have H5 := Lib.hid (HE2.out.lost_ hbe (v' := .slice A4 (c.way.take i ++ c.way.drop (i + 1)).length c4) (lw' := c.way.take i ++ c.way.drop (i + 1)) (by rw [HLN.out, HCS.out]; exact r4) (by rw [HLN.out]; exact hfe))
              have HG4 := Lib.hid (obj_below HG.out hbe (obj_lt HG.out))
              clear r3 g3 a3 r4 g4 a4 hbe hfe hmk hs1 hs2
              obtain ⟨q0, q1, q2, q3, q4, q5, q6, q7, q8, _, _⟩ := cells9 HG4.out
              generalize hlw : c.way.take i ++ c.way.drop (i + 1) = lw at *
              have hlwl : lw.length ≤ 262 := by rw [← hlw, List.length_append, List.length_take, List.length_drop]; omega
              have HLW := Lib.hid hlwl
              clear hlw hlwl
              by_cases hd : y.dst = 2
              · obtain ⟨y1, y3, dl, an, hrec, hdl, hI6, hwa, _⟩ := HIL.out.data (by omega) y hy hd
                have HR := Lib.hid (fun (W : World) (E : En w W S g T h (c.a win) (c.b win) (.slice As c.sent.length cs) c.sent (.slice Ac c.came.length cc) c.came (.slice A4 lw.length c4) lw) => E.data y y1 hd y3 (by show c.came.length + 1 < 4294967296; have := HIL.out.sent; have := HIL.out.le; dsimp only at *; omega) hrec)
                simp only [frV] at HR
                have HI7 := Lib.hid (hI6.answer an hwa HLW.out)
                have e8 : (y.dst == 2) = true := by rw [beq_iff_eq]; exact hd
                have hcl : c.came.length ≤ 100 := by have := HIL.out.sent; have := HIL.out.le; dsimp only at *; omega
                have hn1 : c.came.length + dl.length ≤ maxLen := by unfold maxLen; omega
                have hn2 : (c.came.length + dl.length) * 16 ≤ 140737488355328 := by omega
                have hn3 : lw.length + 1 ≤ maxLen := by have := HLW.out; unfold maxLen; omega
                have hn4 : (lw.length + 1) * 64 ≤ 140737488355328 := by have := HLW.out; omega
                have HC1 := Lib.hid (show (c.came ++ dl).length = c.came.length + dl.length by simp)
                have HC2 := Lib.hid (show (c.came ++ dl).map Value.string = c.came.map Value.string ++ dl.map Value.string by simp)
                have HC3 := Lib.hid (show (lw ++ [an]).length = lw.length + 1 by simp)
                have HC4 := Lib.hid (show (lw ++ [an]).flatMap frL = lw.flatMap frL ++ frL an by simp)
                clear y1 y3 hrec hI6 hwa hdl hd hcl hy
                obtain ⟨j0, hj0, jz0, jz1, jz2⟩ := info_parts strL_info
                go_wp2_with (first
                  | (go_at_call 12; (with_reducible refine (HR.out _ H5.out).mono ?_); rintro e w6 ⟨A6, c6, B6, k6, rfl, r6, s6, f6, h6, t6⟩; have H6 := Lib.hid h6; have R6 := Lib.hid r6; have S6 := Lib.hid s6; clear r6 s6 f6 h6 t6)
                  | (at_builtin; generalize hG : wpList _ _ _ _ _ _ = G'))
                subst hG
                refine wpList_append_row _ rfl _ _ 24 24 rfl 9 j0 _ 1 16 Try.underlying24 hj0 jz0 jz1 jz2 rfl _ c.came.length _ rfl H6.out.rc.1 _ dl.length _ rfl (R6.out.1.srcL Try.underlying24 (str_one dl)) hn1 hn2 ?_
                intro A7 c7 w7 hr7 hg7 hat7
                rw [← HC2.out, ← HC1.out] at hr7
                have S7 := Lib.hid (S6.out.grown hg7 (H6.out.rc.1.apart S6.out.1 (by decide)))
                have H7 := Lib.hid (H6.out.putCame hr7 hg7 (by rw [HC1.out]; exact hat7))
                clear hr7 hg7 hat7
                go_wp2_with (at_builtin; generalize hG : wpList _ _ _ _ _ _ = G')
                subst hG
                refine wpList_append_row _ rfl _ _ 30 30 rfl 37 i0 _ 9 64 Try.underlying30 hi0 hz0 hz1 hz2 rfl _ lw.length _ rfl (by rw [← HLN.out]; exact H7.out.rw.1) _ 1 (frL an) rfl (S7.out.1.srcL Try.underlying30 (by simpa using frL_one [an])) hn3 hn4 ?_
                intro A8 c8 w8 hr8 hg8 hat8
                rw [← HC4.out, ← HC3.out] at hr8
                have e0 : Value.slice A4 lw.length c4 = Value.slice A4 (i + (c.way.length - (i + 1))) c4 := by rw [HLN.out]
                have H8 := Lib.hid (H7.out.putWay hr8 (by rw [e0]; exact hg8) (by rw [HC3.out, e0]; exact hat8))
                clear hr8 hg8 hat8 e0
                go_wp2
                go_roundw
                case rel => exact ⟨k + 1, { c with came := c.came ++ dl, p := 3, way := lw ++ [an] }, As, cs, A7, c7, A8, c8, by omega, by omega, by go_num, rfl, by show _ = Value.slice A7 (c.came ++ dl).length c7; rw [HC1.out], by show _ = Value.slice A8 (lw ++ [an]).length c8; rw [HC3.out], HI7.out, H8.out⟩
                case measure => simp [intOf]; omega
              · obtain ⟨y1, y2, y3, hrec, hI6⟩ := HIL.out.ack y hy hd
                have HR := Lib.hid (fun (W : World) (E : En w W S g T h (c.a win) (c.b win) (.slice As c.sent.length cs) c.sent (.slice Ac c.came.length cc) c.came (.slice A4 lw.length c4) lw) => E.ack y y1 y2 y3 (by have h1 := HI.out.next; have := HI.out.sent; show (c.a win).next < _; rw [h1]; omega) hrec)
                simp only [frV] at HR
                have HI7 := Lib.hid hI6
                have e8 : (y.dst == 2) = false := by rw [beq_eq_false_iff_ne]; exact hd
                clear y1 y2 y3 hrec hI6 hd hy
                go_wp2_with (go_at_call 12; (with_reducible refine (HR.out _ H5.out).mono ?_); rintro e w6 ⟨rfl, h6, t6⟩; have H6 := Lib.hid h6; clear h6 t6)
                go_roundw
                case rel => exact ⟨k + 1, { c with f := c.f + (y.ack + 1 - c.f), way := lw }, As, cs, Ac, cc, A4, c4, by omega, by omega, by go_num, rfl, rfl, by show _ = Value.slice A4 lw.length c4; rw [HLN.out], HI7.out, H6.out⟩
                case measure => simp [intOf]; omega
          · have e4 : decide ((c.way.length : Int) > 0) = false := by rw [decide_eq_false_iff_not]; omega
            have e7 : ((c.way.length : Int) == 0) = true := by rw [beq_iff_eq]; omega
            have HI2 := Lib.hid HI.out.more
            have hwz : c.way.length = 0 := by omega
            go_wp2
            go_roundw
            case rel => exact ⟨k + 1, c, As, cs, Ac, cc, Aw, cw, by omega, by omega, by go_num, rfl, rfl, rfl, HI2.out, HE.out⟩
            case measure => simp [intOf]; omega
        · -- one is lost
          by_cases hwl : 0 < c.way.length
          · have hil := hi hwl
            have hw63 := HI.out.len
            have HI2 := Lib.hid (HI.out.lost i).more
            have e4 : decide ((c.way.length : Int) > 0) = true := by rw [decide_eq_true_iff]; omega
            have e5 : (c.way.length : Int) > 0 := by omega
            obtain ⟨Z, hZ, hmk⟩ := make_way c.way.length hw63
            obtain ⟨hcw, _⟩ : c.way.length ≤ cw ∧ cw ≤ maxLen := by
              obtain ⟨_, _, e, e1, e2⟩ := HE.out.rw.1.form
              cases e
              exact ⟨e1, e2⟩
            have hs1 := slice_h (P := Try.prog) Try.underlying30 hi0 Aw c.way.length cw i (by omega)
            have hs2 := slice_l (P := Try.prog) Try.underlying30 hi0 Aw c.way.length cw (i + 1) (by omega) (IntKind.i64.wrap ((i : Int) + 1)) (by rw [IntKind.wrap_i64]; omega)
            rw [hz1] at hs2
            have HRA := Lib.hid (fun (W : World) (hr : Row W 37 9 (.slice Aw c.way.length cw) c.way.length (c.way.flatMap frL)) => hr.src_head Try.underlying30 (k := i) (by omega) (frL_one _))
            have HR2 := Lib.hid (fun (W : World) (hr : Row W 37 9 (.slice Aw c.way.length cw) c.way.length (c.way.flatMap frL)) => hr.src_from Try.underlying30 (k := i + 1) (by omega) (frL_one _))
            have hL63 : c.way.length ≤ maxLen := by unfold maxLen; omega
            generalize (if cw = i + 1 then Aw else Aw.map (·.add ((i + 1) * 9))) = Av at *
            have HB0 := Lib.hid (((Below.refl _ W1).drew.alloc (Nat.le_refl _) (.cells Z 37)))
            have HWY := Lib.hid HE.out.rw.1
            have HLN := Lib.hid (show (c.way.take i ++ c.way.drop (i + 1)).length = i + (c.way.length - (i + 1)) by rw [List.length_append, List.length_take, List.length_drop]; omega)
            have HCS := Lib.hid (show (c.way.take i ++ c.way.drop (i + 1)).flatMap frL = [] ++ (c.way.flatMap frL).take (i * 9) ++ (c.way.flatMap frL).drop ((i + 1) * 9) by rw [flat_take frL_length, flat_drop frL_length, List.flatMap_append]; rfl)
            have hm1 : 0 + i ≤ maxLen := by unfold maxLen; omega
            have hm2 : (0 + i) * 64 ≤ 140737488355328 := by omega
            have hm3 : i + (c.way.length - (i + 1)) ≤ maxLen := by unfold maxLen; omega
            have hm4 : (i + (c.way.length - (i + 1))) * 64 ≤ 140737488355328 := by omega
            go_wp2
            go_region_law ((first
              | (refine step_append_row _ (by rfl) _ _ _ _ (by rfl) 37 i0 _ 9 64 Try.underlying30 hi0 hz0 hz1 hz2 rfl (.slice (some ⟨W1.heap.size, 0, none⟩) 0 c.way.length) 0 [] (by rfl) (row_made (World.alloc_heap_new W1.drew _) hZ hL63) _ i ((c.way.flatMap frL).take (i * 9)) (by rfl) (HRA.out _ (HWY.out.drew.alloc _)) hm1 hm2 ?_; intro A3 c3 w3 r3 g3 a3; rw [Nat.zero_add] at r3 a3; have HW3 := Lib.hid (lost_keep HWY.out g3))
              | (refine step_append_row _ (by rfl) _ _ _ _ (by rfl) 37 i0 _ 9 64 Try.underlying30 hi0 hz0 hz1 hz2 rfl (.slice A3 i c3) i _ (by rfl) r3 _ (c.way.length - (i + 1)) _ (by rfl) (HR2.out _ HW3.out) hm3 hm4 ?_; intro A4 c4 w4 r4 g4 a4)))
            all_goals
              obtain ⟨hbe, hfe⟩ := lost_end g3 a3 g4 a4
              have H5 := Lib.hid (HE.out.lost_ hbe (v' := .slice A4 (c.way.take i ++ c.way.drop (i + 1)).length c4) (lw' := c.way.take i ++ c.way.drop (i + 1)) (by rw [HLN.out, HCS.out]; exact r4) (by rw [HLN.out]; exact hfe))
              clear r3 g3 a3 r4 g4 a4 hbe hfe
              go_wp2
              go_roundw
              case rel => exact ⟨k + 1, { c with way := c.way.take i ++ c.way.drop (i + 1) }, As, cs, Ac, cc, A4, c4, by omega, by omega, by go_num, rfl, rfl, by show _ = Value.slice A4 (c.way.take i ++ c.way.drop (i + 1)).length c4; rw [HLN.out], HI2.out, H5.out⟩
              case measure => simp [intOf]; omega
          · have e4 : decide ((c.way.length : Int) > 0) = false := by rw [decide_eq_false_iff_not]; omega
            have e5 : ¬ ((c.way.length : Int) > 0) := by omega
            have HI2 := Lib.hid HI.out.more
            go_wp2
            go_roundw
            case rel => exact ⟨k + 1, c, As, cs, Ac, cc, Aw, cw, by omega, by omega, by go_num, rfl, rfl, rfl, HI2.out, HE.out⟩
            case measure => simp [intOf]; omega
        · -- one comes twice
          by_cases hwl : 0 < c.way.length ∧ c.way.length < 200
          · obtain ⟨hw0, hw200⟩ := hwl
            have hil := hi hw0
            have e4 : decide ((c.way.length : Int) > 0) = true := by rw [decide_eq_true_iff]; omega
            have e5 : (c.way.length : Int) > 0 := by omega
            have e6 : decide ((c.way.length : Int) < 200) = true := by rw [decide_eq_true_iff]; omega
            have HI2 := Lib.hid (HI.out.twice hw200 c.way[i] (List.getElem_mem hil))
            obtain ⟨a2, rfl, p0, p1, p2, p3, p4, p5, p6, p7, p8⟩ := fr_at HE.out.rw.arg i hil
            generalize c.way[i] = y at *
            have hm1 : c.way.length + 1 ≤ maxLen := by unfold maxLen; omega
            have hm2 : (c.way.length + 1) * 64 ≤ 140737488355328 := by omega
            have HLN := Lib.hid (show (c.way ++ [y]).length = c.way.length + 1 by simp)
            have HCS := Lib.hid (show (c.way ++ [y]).flatMap frL = c.way.flatMap frL ++ frL y by simp)
            go_wp2_with (at_builtin; generalize hG : wpList _ _ _ _ _ _ = G)
            subst hG
            have E4 := HE.out.alloc (.cells #[.int .i64 y.wire, .int .i64 y.kind, .int .i64 y.src, .int .i64 y.dst, .int .u32 (y.life : Int), .int .u32 (y.seq : Int), .int .u32 (y.ack : Int), .int .u32 (y.hint : Int), .string y.data] 37)
            have hsrc : Src Try.prog 9 30 (.slice (some ⟨W1.heap.size, 0, none⟩) 1 1) 1 (frL y) (W1.alloc (.cells #[.int .i64 y.wire, .int .i64 y.kind, .int .i64 y.src, .int .i64 y.dst, .int .u32 (y.life : Int), .int .u32 (y.seq : Int), .int .u32 (y.ack : Int), .int .u32 (y.hint : Int), .string y.data] 37)) := Src.ofSlice _ Try.underlying30 ⟨W1.heap.size, 0, none⟩ 1 1 (frL y) rfl (World.news_of_block (World.alloc_heap_new W1 _)) (by simpa using frL_one [y])
            refine wpList_append_row _ rfl _ _ 30 30 rfl 37 i0 _ 9 64 Try.underlying30 hi0 hz0 hz1 hz2 rfl _ c.way.length _ rfl E4.rw.1 _ 1 (frL y) rfl hsrc hm1 hm2 ?_
            clear p0 p1 p2 p3 p4 p5 p6 p7 p8
            intro A2 c2' w5 hr2 hg2 hat2
            rw [← HCS.out, ← HLN.out] at hr2
            have H5 := Lib.hid (E4.putWay hr2 hg2 (by rw [HLN.out]; exact hat2))
            clear hr2 hg2 hat2 E4 hsrc
            go_wp2
            go_roundw
            case rel => exact ⟨k + 1, { c with way := c.way ++ [y] }, As, cs, Ac, cc, A2, c2', by omega, by omega, by go_num, rfl, rfl, by show _ = Value.slice A2 (c.way ++ [y]).length c2'; rw [HLN.out], HI2.out, H5.out⟩
            case measure => simp [intOf]; omega
          · by_cases hw0 : 0 < c.way.length
            · have e4 : decide ((c.way.length : Int) > 0) = true := by rw [decide_eq_true_iff]; omega
              have e6 : decide ((c.way.length : Int) < 200) = false := by rw [decide_eq_false_iff_not]; omega
              have HI2 := Lib.hid HI.out.more
              go_wp2
              go_roundw
              case rel => exact ⟨k + 1, c, As, cs, Ac, cc, Aw, cw, by omega, by omega, by go_num, rfl, rfl, rfl, HI2.out, HE.out⟩
              case measure => simp [intOf]; omega
            · have e4 : decide ((c.way.length : Int) > 0) = false := by rw [decide_eq_false_iff_not]; omega
              have HI2 := Lib.hid HI.out.more
              go_wp2
              go_roundw
              case rel => exact ⟨k + 1, c, As, cs, Ac, cc, Aw, cw, by omega, by omega, by go_num, rfl, rfl, rfl, HI2.out, HE.out⟩
              case measure => simp [intOf]; omega
        · -- one comes
          by_cases hwl : 0 < c.way.length
          · have hil := hi hwl
            have hw63 := HI.out.len
            have e7 : ((c.way.length : Int) == 0) = false := by rw [beq_eq_false_iff_ne]; omega
            have hy : wayOk c c.way[i] := HI.out.way _ (List.getElem_mem hil)
            obtain ⟨a2, rfl, p0, p1, p2, p3, p4, p5, p6, p7, p8⟩ := fr_at HE.out.rw.arg i hil
            have HIL := Lib.hid (HI.out.lost i)
            generalize c.way[i] = y at *
            have HG := Lib.hid (World.alloc_heap_new W1 (.cells #[.int .i64 y.wire, .int .i64 y.kind, .int .i64 y.src, .int .i64 y.dst, .int .u32 (y.life : Int), .int .u32 (y.seq : Int), .int .u32 (y.ack : Int), .int .u32 (y.hint : Int), .string y.data] 37))
            have HE2 := Lib.hid (HE.out.alloc (.cells #[.int .i64 y.wire, .int .i64 y.kind, .int .i64 y.src, .int .i64 y.dst, .int .u32 (y.life : Int), .int .u32 (y.seq : Int), .int .u32 (y.ack : Int), .int .u32 (y.hint : Int), .string y.data] 37))
            have hg1 : ¬ S W1.heap.size := fun hs => Nat.lt_irrefl _ (HE.out.two.1.1.lt _ hs)
            have hg2 : ¬ T W1.heap.size := fun hs => Nat.lt_irrefl _ (HE.out.two.2.1.1.lt _ hs)
            go_upto_region 25 with fail
            clear p0 p1 p2 p3 p4 p5 p6 p7 p8 HE
            generalize W1.alloc (.cells #[.int .i64 y.wire, .int .i64 y.kind, .int .i64 y.src, .int .i64 y.dst, .int .u32 (y.life : Int), .int .u32 (y.seq : Int), .int .u32 (y.ack : Int), .int .u32 (y.hint : Int), .string y.data] 37) = W2 at *
            generalize W1.heap.size = G at *
            generalize some a2 = Aw at *
            obtain ⟨Z, hZ, hmk⟩ := make_way c.way.length hw63
            obtain ⟨hcw, _⟩ : c.way.length ≤ cw ∧ cw ≤ maxLen := by
              obtain ⟨_, _, e, e1, e2⟩ := HE2.out.rw.1.form
              cases e
              exact ⟨e1, e2⟩
            have hs1 := slice_h (P := Try.prog) Try.underlying30 hi0 Aw c.way.length cw i (by omega)
            have hs2 := slice_l (P := Try.prog) Try.underlying30 hi0 Aw c.way.length cw (i + 1) (by omega) (IntKind.i64.wrap ((i : Int) + 1)) (by rw [IntKind.wrap_i64]; omega)
            rw [hz1] at hs2
            have HRA := Lib.hid (fun (W : World) (hr : Row W 37 9 (.slice Aw c.way.length cw) c.way.length (c.way.flatMap frL)) => hr.src_head Try.underlying30 (k := i) (by omega) (frL_one _))
            have HR2 := Lib.hid (fun (W : World) (hr : Row W 37 9 (.slice Aw c.way.length cw) c.way.length (c.way.flatMap frL)) => hr.src_from Try.underlying30 (k := i + 1) (by omega) (frL_one _))
            have hL63 : c.way.length ≤ maxLen := by unfold maxLen; omega
            generalize (if cw = i + 1 then Aw else Aw.map (·.add ((i + 1) * 9))) = Av at *
            have HB0 := Lib.hid (((Below.refl _ W2).drew.alloc (Nat.le_refl _) (.cells Z 37)))
            have HWY := Lib.hid HE2.out.rw.1
            have HLN := Lib.hid (show (c.way.take i ++ c.way.drop (i + 1)).length = i + (c.way.length - (i + 1)) by rw [List.length_append, List.length_take, List.length_drop]; omega)
            have HCS := Lib.hid (show (c.way.take i ++ c.way.drop (i + 1)).flatMap frL = [] ++ (c.way.flatMap frL).take (i * 9) ++ (c.way.flatMap frL).drop ((i + 1) * 9) by rw [flat_take frL_length, flat_drop frL_length, List.flatMap_append]; rfl)
            have hm1 : 0 + i ≤ maxLen := by unfold maxLen; omega
            have hm2 : (0 + i) * 64 ≤ 140737488355328 := by omega
            have hm3 : i + (c.way.length - (i + 1)) ≤ maxLen := by unfold maxLen; omega
            have hm4 : (i + (c.way.length - (i + 1))) * 64 ≤ 140737488355328 := by omega
            go_region_law ((first
              | (refine step_append_row _ (by rfl) _ _ _ _ (by rfl) 37 i0 _ 9 64 Try.underlying30 hi0 hz0 hz1 hz2 rfl (.slice (some ⟨W2.heap.size, 0, none⟩) 0 c.way.length) 0 [] (by rfl) (row_made (World.alloc_heap_new W2.drew _) hZ hL63) _ i ((c.way.flatMap frL).take (i * 9)) (by rfl) (HRA.out _ (HWY.out.drew.alloc _)) hm1 hm2 ?_; intro A3 c3 w3 r3 g3 a3; rw [Nat.zero_add] at r3 a3; have HW3 := Lib.hid (lost_keep HWY.out g3))
              | (refine step_append_row _ (by rfl) _ _ _ _ (by rfl) 37 i0 _ 9 64 Try.underlying30 hi0 hz0 hz1 hz2 rfl (.slice A3 i c3) i _ (by rfl) r3 _ (c.way.length - (i + 1)) _ (by rfl) (HR2.out _ HW3.out) hm3 hm4 ?_; intro A4 c4 w4 r4 g4 a4)))
            all_goals
              obtain ⟨hbe, hfe⟩ := lost_end g3 a3 g4 a4
              have H5 := Lib.hid (HE2.out.lost_ hbe (v' := .slice A4 (c.way.take i ++ c.way.drop (i + 1)).length c4) (lw' := c.way.take i ++ c.way.drop (i + 1)) (by rw [HLN.out, HCS.out]; exact r4) (by rw [HLN.out]; exact hfe))
              have HG4 := Lib.hid (obj_below HG.out hbe (obj_lt HG.out))
              clear r3 g3 a3 r4 g4 a4 hbe hfe hmk hs1 hs2
              obtain ⟨q0, q1, q2, q3, q4, q5, q6, q7, q8, _, _⟩ := cells9 HG4.out
              generalize hlw : c.way.take i ++ c.way.drop (i + 1) = lw at *
              have hlwl : lw.length ≤ 262 := by rw [← hlw, List.length_append, List.length_take, List.length_drop]; omega
              have HLW := Lib.hid hlwl
              clear hlw hlwl
              by_cases hd : y.dst = 2
              · obtain ⟨y1, y3, dl, an, hrec, hdl, hI6, hwa, _⟩ := HIL.out.data (by omega) y hy hd
                have HR := Lib.hid (fun (W : World) (E : En w W S g T h (c.a win) (c.b win) (.slice As c.sent.length cs) c.sent (.slice Ac c.came.length cc) c.came (.slice A4 lw.length c4) lw) => E.data y y1 hd y3 (by show c.came.length + 1 < 4294967296; have := HIL.out.sent; have := HIL.out.le; dsimp only at *; omega) hrec)
                simp only [frV] at HR
                have HI7 := Lib.hid (hI6.answer an hwa HLW.out)
                have e8 : (y.dst == 2) = true := by rw [beq_iff_eq]; exact hd
                have hcl : c.came.length ≤ 100 := by have := HIL.out.sent; have := HIL.out.le; dsimp only at *; omega
                have hn1 : c.came.length + dl.length ≤ maxLen := by unfold maxLen; omega
                have hn2 : (c.came.length + dl.length) * 16 ≤ 140737488355328 := by omega
                have hn3 : lw.length + 1 ≤ maxLen := by have := HLW.out; unfold maxLen; omega
                have hn4 : (lw.length + 1) * 64 ≤ 140737488355328 := by have := HLW.out; omega
                have HC1 := Lib.hid (show (c.came ++ dl).length = c.came.length + dl.length by simp)
                have HC2 := Lib.hid (show (c.came ++ dl).map Value.string = c.came.map Value.string ++ dl.map Value.string by simp)
                have HC3 := Lib.hid (show (lw ++ [an]).length = lw.length + 1 by simp)
                have HC4 := Lib.hid (show (lw ++ [an]).flatMap frL = lw.flatMap frL ++ frL an by simp)
                clear y1 y3 hrec hI6 hwa hdl hd hcl hy
                obtain ⟨j0, hj0, jz0, jz1, jz2⟩ := info_parts strL_info
                go_wp2_with (first
                  | (go_at_call 12; (with_reducible refine (HR.out _ H5.out).mono ?_); rintro e w6 ⟨A6, c6, B6, k6, rfl, r6, s6, f6, h6, t6⟩; have H6 := Lib.hid h6; have R6 := Lib.hid r6; have S6 := Lib.hid s6; clear r6 s6 f6 h6 t6)
                  | (at_builtin; generalize hG : wpList _ _ _ _ _ _ = G'))
                subst hG
                refine wpList_append_row _ rfl _ _ 24 24 rfl 9 j0 _ 1 16 Try.underlying24 hj0 jz0 jz1 jz2 rfl _ c.came.length _ rfl H6.out.rc.1 _ dl.length _ rfl (R6.out.1.srcL Try.underlying24 (str_one dl)) hn1 hn2 ?_
                intro A7 c7 w7 hr7 hg7 hat7
                rw [← HC2.out, ← HC1.out] at hr7
                have S7 := Lib.hid (S6.out.grown hg7 (H6.out.rc.1.apart S6.out.1 (by decide)))
                have H7 := Lib.hid (H6.out.putCame hr7 hg7 (by rw [HC1.out]; exact hat7))
                clear hr7 hg7 hat7
                go_wp2_with (at_builtin; generalize hG : wpList _ _ _ _ _ _ = G')
                subst hG
                refine wpList_append_row _ rfl _ _ 30 30 rfl 37 i0 _ 9 64 Try.underlying30 hi0 hz0 hz1 hz2 rfl _ lw.length _ rfl (by rw [← HLN.out]; exact H7.out.rw.1) _ 1 (frL an) rfl (S7.out.1.srcL Try.underlying30 (by simpa using frL_one [an])) hn3 hn4 ?_
                intro A8 c8 w8 hr8 hg8 hat8
                rw [← HC4.out, ← HC3.out] at hr8
                have e0 : Value.slice A4 lw.length c4 = Value.slice A4 (i + (c.way.length - (i + 1))) c4 := by rw [HLN.out]
                have H8 := Lib.hid (H7.out.putWay hr8 (by rw [e0]; exact hg8) (by rw [HC3.out, e0]; exact hat8))
                clear hr8 hg8 hat8 e0
                go_wp2
                go_roundw
                case rel => exact ⟨k + 1, { c with came := c.came ++ dl, p := 3, way := lw ++ [an] }, As, cs, A7, c7, A8, c8, by omega, by omega, by go_num, rfl, by show _ = Value.slice A7 (c.came ++ dl).length c7; rw [HC1.out], by show _ = Value.slice A8 (lw ++ [an]).length c8; rw [HC3.out], HI7.out, H8.out⟩
                case measure => simp [intOf]; omega
              · obtain ⟨y1, y2, y3, hrec, hI6⟩ := HIL.out.ack y hy hd
                have HR := Lib.hid (fun (W : World) (E : En w W S g T h (c.a win) (c.b win) (.slice As c.sent.length cs) c.sent (.slice Ac c.came.length cc) c.came (.slice A4 lw.length c4) lw) => E.ack y y1 y2 y3 (by have h1 := HI.out.next; have := HI.out.sent; show (c.a win).next < _; rw [h1]; omega) hrec)
                simp only [frV] at HR
                have HI7 := Lib.hid hI6
                have e8 : (y.dst == 2) = false := by rw [beq_eq_false_iff_ne]; exact hd
                clear y1 y2 y3 hrec hI6 hd hy
                go_wp2_with (go_at_call 12; (with_reducible refine (HR.out _ H5.out).mono ?_); rintro e w6 ⟨rfl, h6, t6⟩; have H6 := Lib.hid h6; clear h6 t6)
                go_roundw
                case rel => exact ⟨k + 1, { c with f := c.f + (y.ack + 1 - c.f), way := lw }, As, cs, Ac, cc, A4, c4, by omega, by omega, by go_num, rfl, rfl, by show _ = Value.slice A4 lw.length c4; rw [HLN.out], HI7.out, H6.out⟩
                case measure => simp [intOf]; omega
          · have e4 : decide ((c.way.length : Int) > 0) = false := by rw [decide_eq_false_iff_not]; omega
            have e7 : ((c.way.length : Int) == 0) = true := by rw [beq_iff_eq]; omega
            have HI2 := Lib.hid HI.out.more
            have hwz : c.way.length = 0 := by omega
            go_wp2
            go_roundw
            case rel => exact ⟨k + 1, c, As, cs, Ac, cc, Aw, cw, by omega, by omega, by go_num, rfl, rfl, rfl, HI2.out, HE.out⟩
            case measure => simp [intOf]; omega
    · have HI2 := Lib.hid (HI.out.mono hk)
      by_cases hl : k < xs.length
      · have hl2 : 100 ≤ k := by omega
        go_wp2
        refine bodyPost_ret (results_tmp5 rfl _ _ _) rfl ?_
        exact ⟨S, g, T, h, c, As, cs, Ac, cc, Aw, cw, rfl, HI2.out, HE0.out⟩
      · go_wp2
        refine bodyPost_ret (results_tmp5 rfl _ _ _) rfl ?_
        exact ⟨S, g, T, h, c, As, cs, Ac, cc, Aw, cw, rfl, HI2.out, HE0.out⟩
end Go.Proofs.Ytbmlenffcmmkbaa
