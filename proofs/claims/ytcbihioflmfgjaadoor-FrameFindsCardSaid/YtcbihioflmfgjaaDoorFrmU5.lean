/-
  FrameFinds: the walk. Conditions: the frame is as its type allows; the two sentinels stand in memory.
-/
import Derived.Test.YtcbihioflmfgjaaDoorFrmT
namespace Go.Proofs.YtcbihioflmfgjaaDoor
open Go.RowKit Go.Shelf Ros Go.Maps
attribute [local go_sem] Oper.semAt_some
set_option linter.unusedVariables false
set_option maxRecDepth 100000 in
set_option maxHeartbeats 4000000 in
theorem frameFinds_walk (x : Fr) (bit : Int) (mask : Nat) (h : okF x) (hn1 : -9223372036854775808 ≤ bit) (hn2 : bit ≤ 9223372036854775807) (hm : mask < 4294967296) (a0 a1 : Addr) (w : World) (hS : Snt w a0 a1) : Calls Tryd.prog 10 #[frV x, .int .i64 bit, .int .u32 (mask : Int)] w fun e w' => e = .returned (.bool true) ∧ Below w.heap.size w w' := by
  have HSH := Lib.hid (fun (W : World) (h : Below w.heap.size w W) => shownF_any a0 a1 W (hS.below h))
  have hxo := World.alloc_heap_new w (.cells #[.int .i64 x.wire, .int .i64 x.kind, .int .i64 x.src, .int .i64 x.dst, .int .u32 (x.life : Int), .int .u32 (x.seq : Int), .int .u32 (x.ack : Int), .int .u32 (x.hint : Int), .string x.data] 24)
  have HX := Lib.hid hxo
  clear hxo
  have HCT := Lib.hid (fun W => cutF_any x W)
  have hy := cutX_ok h
  have hyd := cutX_size x
  generalize cutX x = y at *
  have HEN := Lib.hid (fun W => encode_any y hy W)
  have hes : (encS y).size ≤ 5000 := by
    cases hr : rightB y with
    | true => rw [encS_size hr]; split <;> omega
    | false => unfold encS; rw [hr, if_neg (by decide)]; decide
  have HCH := Lib.hid (fun W => change_all (encS y) bit mask W (by omega) hm hn1 hn2)
  have hts : (str (chgL (bl (encS y)) bit mask)).size ≤ 1000000 := by
    rw [str_size]
    cases hk : okBit (bl (encS y)).length bit with
    | true => rw [(chgL_yes hk).1, chg_length, ← size_bl]; omega
    | false => rw [(chgL_no hk).1]; decide
  have HDE := Lib.hid (fun (W : World) (hb : Below w.heap.size w W) => decode_any (str (chgL (bl (encS y)) bit mask)) a0 a1 W hts (hS.below hb))
  have HR : rightB y = true → okBit (bl (encS y)).length bit = true → (str (chgL (bl (encS y)) bit mask) = encS y ∧ decE (str (chgL (bl (encS y)) bit mask)) = 0) ∨ (str (chgL (bl (encS y)) bit mask) ≠ encS y ∧ decE (str (chgL (bl (encS y)) bit mask)) = 21) := by
    intro hr hk
    have hk' := okBit_iff.1 hk
    by_cases e : str (chgL (bl (encS y)) bit mask) = encS y
    · exact .inl ⟨e, by rw [e]; exact (dec_enc y hy hr).2⟩
    · refine .inr ⟨e, decE_bad ?_⟩
      rw [bl_str]
      have hne : chgL (bl (encS y)) bit mask ≠ bl (encS y) := fun e2 => e (by rw [e2, str_bl])
      rw [(chgL_yes hk).1] at hne ⊢
      have h4 : 4 ≤ (bl (encS y)).length := by rw [bl_encS hr, seal4_length]; omega
      rw [openB_long (by rw [chg_length]; exact h4)]
      exact seal_found _ (by rw [bl_encS hr]; exact sealed_seal4 _) h4 _ _ hm (by omega) hne
  have HE : rightB y = true → encE y = 0 := fun hr => by unfold encE; rw [if_pos hr]
  have HE2 : rightB y = false → encE y = 20 := fun hr => by unfold encE; rw [hr]; rfl
  have HC0 : okBit (bl (encS y)).length bit = true → chgE (bl (encS y)) bit = 0 := fun hk => (chgL_yes (mask := mask) hk).2
  have HC2 : okBit (bl (encS y)).length bit = false → chgE (bl (encS y)) bit = 2 := fun hk => (chgL_no (mask := mask) hk).2
  generalize decR (str (chgL (bl (encS y)) bit mask)) = r at *
  generalize decE (str (chgL (bl (encS y)) bit mask)) = re at *
  generalize str (chgL (bl (encS y)) bit mask) = t at *
  generalize chgE (bl (encS y)) bit = ce at *
  generalize okBit (bl (encS y)).length bit = kb at *
  generalize encS y = E at *
  generalize encE y = ee at *
  unfold frV at HCT HEN HDE ⊢
  clear hes hts
  cases hr : rightB y with
  | false =>
    obtain rfl := HE2 hr
    clear HR HE HE2 hr hS h hy hyd hn1 hn2 hm HC0 HC2
    generalize ((ce : Nat) : Int) = cei at *
    go_enter Tryd.func10, Tryd.ntmps10
    go_wp2_with (first | (go_at_call 11; (with_reducible refine (HSH.out _ ((Below.refl _ w).alloc (Nat.le_refl _) _)).mono ?_); rintro e w1 ⟨rfl, b1⟩; have B1 := Lib.hid (below_bx b1); have X1 := Lib.hid (obj_below HX.out b1 (obj_lt HX.out)); obtain ⟨x0, x1, x2, x3, x4, x5, x6, x7, x8, _, _⟩ := cells9 X1.out; clear b1) | (go_at_call 12; (with_reducible refine (HCT.out _).mono ?_); rintro e w2 ⟨rfl, b2⟩; have B2 := Lib.hid (btL2 B1.out b2); clear b2) | (go_at_call 13; (with_reducible refine (HEN.out _).mono ?_); rintro e w3 ⟨rfl, b3⟩; have B3 := Lib.hid (btL2 B2.out b3); clear b3) | (go_at_call 24; (with_reducible refine (HCH.out _).mono ?_); rintro e w4 ⟨rfl, b4⟩; have B4 := Lib.hid (btL2 B3.out b4); clear b4))
    go_ret
    exact ⟨rfl, B4.out⟩
  | true =>
    obtain rfl := HE hr
    cases hkb : kb with
    | false =>
      obtain rfl := HC2 hkb
      clear HR HE HE2 hr hS h hy hyd hn1 hn2 hm HC0 HC2 hkb
      go_enter Tryd.func10, Tryd.ntmps10
      go_wp2_with (first | (go_at_call 11; (with_reducible refine (HSH.out _ ((Below.refl _ w).alloc (Nat.le_refl _) _)).mono ?_); rintro e w1 ⟨rfl, b1⟩; have B1 := Lib.hid (below_bx b1); have X1 := Lib.hid (obj_below HX.out b1 (obj_lt HX.out)); obtain ⟨x0, x1, x2, x3, x4, x5, x6, x7, x8, _, _⟩ := cells9 X1.out; clear b1) | (go_at_call 12; (with_reducible refine (HCT.out _).mono ?_); rintro e w2 ⟨rfl, b2⟩; have B2 := Lib.hid (btL2 B1.out b2); clear b2) | (go_at_call 13; (with_reducible refine (HEN.out _).mono ?_); rintro e w3 ⟨rfl, b3⟩; have B3 := Lib.hid (btL2 B2.out b3); clear b3) | (go_at_call 24; (with_reducible refine (HCH.out _).mono ?_); rintro e w4 ⟨rfl, b4⟩; have B4 := Lib.hid (btL2 B3.out b4); clear b4))
      go_ret
      exact ⟨rfl, B4.out⟩
    | true =>
      obtain rfl := HC0 hkb
      rcases HR hr hkb with ⟨e, e2⟩ | ⟨e, e2⟩
      · subst e e2
        clear HE HE2 hr hS h hy hyd hn1 hn2 hm HC0 HC2 hkb HR
        go_enter Tryd.func10, Tryd.ntmps10
        go_wp2_with (first | (go_at_call 11; (with_reducible refine (HSH.out _ ((Below.refl _ w).alloc (Nat.le_refl _) _)).mono ?_); rintro e w1 ⟨rfl, b1⟩; have B1 := Lib.hid (below_bx b1); have X1 := Lib.hid (obj_below HX.out b1 (obj_lt HX.out)); obtain ⟨x0, x1, x2, x3, x4, x5, x6, x7, x8, _, _⟩ := cells9 X1.out; clear b1) | (go_at_call 12; (with_reducible refine (HCT.out _).mono ?_); rintro e w2 ⟨rfl, b2⟩; have B2 := Lib.hid (btL2 B1.out b2); clear b2) | (go_at_call 13; (with_reducible refine (HEN.out _).mono ?_); rintro e w3 ⟨rfl, b3⟩; have B3 := Lib.hid (btL2 B2.out b3); clear b3) | (go_at_call 24; (with_reducible refine (HCH.out _).mono ?_); rintro e w4 ⟨rfl, b4⟩; have B4 := Lib.hid (btL2 B3.out b4); clear b4) | (go_at_call 18; (with_reducible refine (HDE.out _ B4.out).mono ?_); rintro e w5 ⟨rfl, b5⟩; have B5 := Lib.hid ((btL2 B4.out b5).alloc (btL2 B4.out b5).size (.cells #[.int .i64 r.wire, .int .i64 r.kind, .int .i64 r.src, .int .i64 r.dst, .int .u32 (r.life : Int), .int .u32 (r.seq : Int), .int .u32 (r.ack : Int), .int .u32 (r.hint : Int), .string r.data] 24)); clear b5))
        go_ret
        exact ⟨rfl, B5.out⟩
      · subst e2
        have q1 : (t.toList == E.toList) = false := by rw [beq_bl, decide_eq_false e]
        have q2 : (t.toList != E.toList) = true := by rw [bne, q1]; rfl
        clear HE HE2 hr hS h hy hyd hn1 hn2 hm HC0 HC2 hkb HR e
        go_enter Tryd.func10, Tryd.ntmps10
        go_wp2_with (first | (go_at_call 11; (with_reducible refine (HSH.out _ ((Below.refl _ w).alloc (Nat.le_refl _) _)).mono ?_); rintro e w1 ⟨rfl, b1⟩; have B1 := Lib.hid (below_bx b1); have X1 := Lib.hid (obj_below HX.out b1 (obj_lt HX.out)); obtain ⟨x0, x1, x2, x3, x4, x5, x6, x7, x8, _, _⟩ := cells9 X1.out; clear b1) | (go_at_call 12; (with_reducible refine (HCT.out _).mono ?_); rintro e w2 ⟨rfl, b2⟩; have B2 := Lib.hid (btL2 B1.out b2); clear b2) | (go_at_call 13; (with_reducible refine (HEN.out _).mono ?_); rintro e w3 ⟨rfl, b3⟩; have B3 := Lib.hid (btL2 B2.out b3); clear b3) | (go_at_call 24; (with_reducible refine (HCH.out _).mono ?_); rintro e w4 ⟨rfl, b4⟩; have B4 := Lib.hid (btL2 B3.out b4); clear b4) | (go_at_call 18; (with_reducible refine (HDE.out _ B4.out).mono ?_); rintro e w5 ⟨rfl, b5⟩; have B5 := Lib.hid ((btL2 B4.out b5).alloc (btL2 B4.out b5).size (.cells #[.int .i64 r.wire, .int .i64 r.kind, .int .i64 r.src, .int .i64 r.dst, .int .u32 (r.life : Int), .int .u32 (r.seq : Int), .int .u32 (r.ack : Int), .int .u32 (r.hint : Int), .string r.data] 24)); clear b5))
        go_ret
        exact ⟨rfl, B5.out⟩
end Go.Proofs.YtcbihioflmfgjaaDoor
