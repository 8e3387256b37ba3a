/-
  The document's frame of bytes that are long enough, of version 1. Conditions: at most a million bytes.
-/
import Derived.Test.YtcbihioflmfgjaaDoorFrmO
namespace Go.Proofs.YtcbihioflmfgjaaDoor
open Go.RowKit Go.Shelf Ros Go.Maps
attribute [local go_sem] Oper.semAt_some
set_option linter.unusedVariables false
set_option maxRecDepth 100000 in
set_option maxHeartbeats 4000000 in
theorem refdec_full1 (s u : ByteArray) (w : World) (hu : u.size ≤ 1000000) (HO : Hid (∀ W : World, Calls Tryd.prog 34 #[.string s] W fun e w' => e = .returned (.tuple #[.string u, .bool true]) ∧ Below W.heap.size W w')) (h0 : byteN u 0 = 72) (h1 : byteN u 1 = 1) (hz : 20 ≤ u.size) :
    Calls Tryd.prog 19 #[.string s] w fun e w' => e = .returned (.tuple #[frV (readR u), .int .i64 (readE u)]) ∧ Below w.heap.size w w' := by
  have HZ := Lib.hid (World.alloc_heap_new w (.cells #[.int .i64 0, .int .i64 0, .int .i64 0, .int .i64 0, .int .u32 0, .int .u32 0, .int .u32 0, .int .u32 0, .string ⟨#[]⟩] 24))
  have hl0 : 0 < u.size := by omega
  have hl1 : 1 < u.size := by omega
  have hl2 : 2 < u.size := by omega
  have hl3 : 3 < u.size := by omega
  have E0 := byte_at u 0 hl0
  have E1 := byte_at u 1 hl1
  have E2 := byte_at u 2 hl2
  have E3 := byte_at u 3 hl3
  have hb2 := byteN_lt u 2
  have hb3 := byteN_lt u 3
  have e1 : decide ((u.size : Int) ≥ 2) = true := by simp; omega
  have e2 : decide ((u.size : Int) < 20) = false := by simp; omega
  rw [h0] at E0
  rw [h1] at E1
  have HV := Lib.hid (fun W => version_any (1 : Int) W)
  rw [decide_eq_true (show isW 1 from .inl rfl)] at HV
  have HN4 := Lib.hid (fun W => (show Calls Tryd.prog 35 #[.string u, .int .i64 4] W fun e w' => e = .returned (.int .u32 (numN u 4 : Int)) ∧ Below W.heap.size W w' from num_any u 4 (by omega) hu W))
  have HN8 := Lib.hid (fun W => (show Calls Tryd.prog 35 #[.string u, .int .i64 8] W fun e w' => e = .returned (.int .u32 (numN u 8 : Int)) ∧ Below W.heap.size W w' from num_any u 8 (by omega) hu W))
  have HN12 := Lib.hid (fun W => (show Calls Tryd.prog 35 #[.string u, .int .i64 12] W fun e w' => e = .returned (.int .u32 (numN u 12 : Int)) ∧ Below W.heap.size W w' from num_any u 12 (by omega) hu W))
  have HN16 := Lib.hid (fun W => (show Calls Tryd.prog 35 #[.string u, .int .i64 16] W fun e w' => e = .returned (.int .u32 (numN u 16 : Int)) ∧ Below W.heap.size W w' from num_any u 16 (by omega) hu W))
  generalize hb2d : byteN u 2 = b2 at *
  generalize hb3d : byteN u 3 = b3 at *
  have H0 := Lib.hid h0
  have H1 := Lib.hid h1
  clear h0 h1
  go_enter Tryd.func19, Tryd.ntmps19
  go_upto_region 8 with (first | (go_at_call 34; (with_reducible refine (HO.out _).mono ?_); rintro e w2 ⟨rfl, b2⟩; have B2 := Lib.hid (below_bx b2); have Z2 := Lib.hid (obj_below HZ.out b2 (obj_lt HZ.out)); obtain ⟨d0, d1, d2, d3, d4, d5, d6, d7, d8, df, dl⟩ := cells9 Z2.out; have k0 := df 0; have k1 := df 1; have k2 := df 2; have k3 := df 3; have k4 := df 4; have k5 := df 5; have k6 := df 6; have k7 := df 7; have k8 := df 8; clear b2 df) | (go_at_call 29; (with_reducible refine (HV.out _).mono ?_); rintro e w3 ⟨rfl, rfl⟩))
  clear d0 d1 d2 d3 d4 d5 d6 d7 d8 k0 k1 k2 k3 k4 k5 k6 k7 k8 dl
  have hzw : w.heap.size < w2.heap.size := obj_lt Z2.out
  have hw2 : IntKind.i64.wrap (b2 : Int) = (b2 : Int) := wrap_i64 (by omega)
  have hwi : IntKind.i64.wrap 1 = 1 := by decide
  have hq3 : IntKind.i64.wrap (IntKind.u8.wrap ((b3 : Int) / 16)) = (b3 : Int) / 16 := wrap_quo (by omega)
  have hr3 : IntKind.i64.wrap ((b3 : Int).tmod 16) = (b3 : Int) % 16 := wrap_rem b3
  have hi1 : (1 : Int) < (u.size : Int) := by omega
  have hi2 : (2 : Int) < (u.size : Int) := by omega
  have hi3 : (3 : Int) < (u.size : Int) := by omega
  go_cut [6] from 53 to 73 (fun v wx => ∃ g, v = .pointer (some ⟨g, 0, none⟩) ∧ w.heap.size < g ∧ wx.heap[g]? = some (.cells #[.int .i64 1, .int .i64 (b2 : Int), .int .i64 ((b3 : Int) / 16), .int .i64 ((b3 : Int) % 16), .int .u32 (numN u 4 : Int), .int .u32 (numN u 8 : Int), .int .u32 (numN u 12 : Int), .int .u32 0, .string ⟨#[]⟩] 24 (0, 0)) ∧ wx.heap[w.heap.size]? = some (.cells #[.int .i64 0, .int .i64 0, .int .i64 0, .int .i64 0, .int .u32 0, .int .u32 0, .int .u32 0, .int .u32 0, .string ⟨#[]⟩] 24 (0, 0)) ∧ Below w.heap.size w wx)
  case first =>
    have B2' := Lib.hid B2.out.drew
    have Z2' := Lib.hid (show w2.drew.heap[w.heap.size]? = _ from Z2.out)
    refine wp_region_any (by kernel_rfl) ?_
    change wpAny _ _ _ _ _ _ _ (World.drew _)
    refine wpAny_take (i := 0) (v := ?v1) (by simp only [List.getElem?_toArray, List.getElem?_cons_zero]; rfl) (by kernel_rfl) (by kernel_rfl) (by kernel_rfl) (by exact fun _ _ _ h => h) (Or.inl ⟨by rfl, ?hy1⟩) ?r1
    case hy1 => ((intro w; go_simp); (try with_reducible rfl))
    (try simp only [Act.put, List.setIfInBounds_toArray, List.set_cons_zero, List.set_cons_succ])
    refine wpAny_take (i := 1) (v := ?v2) (by simp only [List.getElem?_toArray, List.getElem?_cons_succ, List.getElem?_cons_zero]; rfl) (by kernel_rfl) (by kernel_rfl) (by kernel_rfl) (by exact fun _ _ _ h => h) (Or.inl ⟨by rfl, ?hy2⟩) ?r2
    case hy2 => ((intro w; go_simp); (try with_reducible rfl))
    (try simp only [Act.put, List.setIfInBounds_toArray, List.set_cons_zero, List.set_cons_succ])
    refine wpAny_take (i := 2) (v := ?v3) (by simp only [List.getElem?_toArray, List.getElem?_cons_succ, List.getElem?_cons_zero]; rfl) (by kernel_rfl) (by kernel_rfl) (by kernel_rfl) (by exact fun _ _ _ h => h) (Or.inl ⟨by rfl, ?hy3⟩) ?r3
    case hy3 => ((intro w; go_simp); (try with_reducible rfl))
    (try simp only [Act.put, List.setIfInBounds_toArray, List.set_cons_zero, List.set_cons_succ])
    refine wpAny_take (i := 3) (v := ?v4) (by simp only [List.getElem?_toArray, List.getElem?_cons_succ, List.getElem?_cons_zero]; rfl) (by kernel_rfl) (by kernel_rfl) (by kernel_rfl) (by exact fun _ _ _ h => h) (Or.inl ⟨by rfl, ?hy4⟩) ?r4
    case hy4 => ((intro w; go_simp); (try with_reducible rfl))
    (try simp only [Act.put, List.setIfInBounds_toArray, List.set_cons_zero, List.set_cons_succ])
    refine wpAny_take (i := 4) (v := ?v5) (by simp only [List.getElem?_toArray, List.getElem?_cons_succ, List.getElem?_cons_zero]; rfl) (by kernel_rfl) (by kernel_rfl) (by kernel_rfl) (by exact fun _ _ _ h => h) (Or.inl ⟨by rfl, ?hy5⟩) ?r5
    case hy5 => ((intro w; go_simp); (try with_reducible rfl))
    (try simp only [Act.put, List.setIfInBounds_toArray, List.set_cons_zero, List.set_cons_succ])
    refine wpAny_take (i := 5) (v := ?v6) (by simp only [List.getElem?_toArray, List.getElem?_cons_succ, List.getElem?_cons_zero]; rfl) (by kernel_rfl) (by kernel_rfl) (by kernel_rfl) (by exact fun _ _ _ h => h) (Or.inl ⟨by rfl, ?hy6⟩) ?r6
    case hy6 => ((intro w; go_simp); (try with_reducible rfl))
    (try simp only [Act.put, List.setIfInBounds_toArray, List.set_cons_zero, List.set_cons_succ])
    refine wpAny_take (i := 6) (v := ?v7) (by simp only [List.getElem?_toArray, List.getElem?_cons_succ, List.getElem?_cons_zero]; rfl) (by kernel_rfl) (by kernel_rfl) (by kernel_rfl) (by exact fun _ _ _ h => h) (Or.inl ⟨by rfl, ?hy7⟩) ?r7
    case hy7 => ((intro w; go_simp); (try with_reducible rfl))
    (try simp only [Act.put, List.setIfInBounds_toArray, List.set_cons_zero, List.set_cons_succ])
    refine wpAny_take (i := 7) (v := ?v8) (by simp only [List.getElem?_toArray, List.getElem?_cons_succ, List.getElem?_cons_zero]; rfl) (by kernel_rfl) (by kernel_rfl) (by kernel_rfl) (by exact fun _ _ _ h => h) (Or.inl ⟨by rfl, ?hy8⟩) ?r8
    case hy8 => ((intro w; go_simp); (try with_reducible rfl))
    (try simp only [Act.put, List.setIfInBounds_toArray, List.set_cons_zero, List.set_cons_succ])
    refine wpAny_take (i := 8) (v := ?v9) (by simp only [List.getElem?_toArray, List.getElem?_cons_succ, List.getElem?_cons_zero]; rfl) (by kernel_rfl) (by kernel_rfl) (by kernel_rfl) (by exact fun _ _ _ h => h) (Or.inl ⟨by rfl, ?hy9⟩) ?r9
    case hy9 => ((intro w; go_simp); (try with_reducible rfl))
    (try simp only [Act.put, List.setIfInBounds_toArray, List.set_cons_zero, List.set_cons_succ])
    refine wpAny_take (i := 9) (v := ?v10) (by simp only [List.getElem?_toArray, List.getElem?_cons_succ, List.getElem?_cons_zero]; rfl) (by kernel_rfl) (by kernel_rfl) (by kernel_rfl) (by exact fun _ _ _ h => h) (Or.inl ⟨by rfl, ?hy10⟩) ?r10
    case hy10 => ((intro w; go_simp); (try with_reducible rfl))
    (try simp only [Act.put, List.setIfInBounds_toArray, List.set_cons_zero, List.set_cons_succ])
    refine wpAny_take (i := 10) (v := ?v11) (by simp only [List.getElem?_toArray, List.getElem?_cons_succ, List.getElem?_cons_zero]; rfl) (by kernel_rfl) (by kernel_rfl) (by kernel_rfl) (by exact fun _ _ _ h => h) (Or.inl ⟨by rfl, ?hy11⟩) ?r11
    case hy11 => ((intro w; go_simp); (try with_reducible rfl))
    (try simp only [Act.put, List.setIfInBounds_toArray, List.set_cons_zero, List.set_cons_succ])
    refine wpAny_take (i := 11) (v := ?v12) (by simp only [List.getElem?_toArray, List.getElem?_cons_succ, List.getElem?_cons_zero]; rfl) (by kernel_rfl) (by kernel_rfl) (by kernel_rfl) (by exact fun _ _ _ h => h) (Or.inl ⟨by rfl, ?hy12⟩) ?r12
    case hy12 => ((intro w; go_simp); (try with_reducible rfl))
    (try simp only [Act.put, List.setIfInBounds_toArray, List.set_cons_zero, List.set_cons_succ])
    refine wpAny_take (i := 12) (v := ?v13) (by simp only [List.getElem?_toArray, List.getElem?_cons_succ, List.getElem?_cons_zero]; rfl) (by kernel_rfl) (by kernel_rfl) (by kernel_rfl) (by exact fun _ _ _ h => h) (Or.inl ⟨by rfl, ?hy13⟩) ?r13
    case hy13 => ((intro w; go_simp); (try with_reducible rfl))
    (try simp only [Act.put, List.setIfInBounds_toArray, List.set_cons_zero, List.set_cons_succ])
    refine wpAny_take (i := 13) (v := ?v14) (by simp only [List.getElem?_toArray, List.getElem?_cons_succ, List.getElem?_cons_zero]; rfl) (by kernel_rfl) (by kernel_rfl) (by kernel_rfl) (by exact fun _ _ _ h => h) (Or.inl ⟨by rfl, ?hy14⟩) ?r14
    case hy14 => ((intro w; go_simp); (try with_reducible rfl))
    (try simp only [Act.put, List.setIfInBounds_toArray, List.set_cons_zero, List.set_cons_succ])
    refine wpAny_take (i := 14) (v := ?v15) (by simp only [List.getElem?_toArray, List.getElem?_cons_succ, List.getElem?_cons_zero]; rfl) (by kernel_rfl) (by kernel_rfl) (by kernel_rfl) (by exact fun _ _ _ h => h) (Or.inl ⟨by rfl, ?hy15⟩) ?r15
    case hy15 => ((intro w; go_simp); (try with_reducible rfl))
    (try simp only [Act.put, List.setIfInBounds_toArray, List.set_cons_zero, List.set_cons_succ])
    refine wpAny_take (i := 16) (v := ?v16) (by simp only [List.getElem?_toArray, List.getElem?_cons_succ, List.getElem?_cons_zero]; rfl) (by kernel_rfl) (by kernel_rfl) (by kernel_rfl) (by exact fun _ _ _ h => h) (Or.inl ⟨by rfl, ?hy16⟩) ?r16
    case hy16 => ((intro w; go_simp); (try with_reducible rfl))
    (try simp only [Act.put, List.setIfInBounds_toArray, List.set_cons_zero, List.set_cons_succ])
    refine wpAny_take (i := 18) (v := ?v17) (by simp only [List.getElem?_toArray, List.getElem?_cons_succ, List.getElem?_cons_zero]; rfl) (by kernel_rfl) (by kernel_rfl) (by kernel_rfl) (by exact fun _ _ _ h => h) (Or.inl ⟨by rfl, ?hy17⟩) ?r17
    case hy17 => ((intro w; go_simp); (try with_reducible rfl))
    (try simp only [Act.put, List.setIfInBounds_toArray, List.set_cons_zero, List.set_cons_succ])
    refine wpAny_ready (rs := [15, 21]) (by kernel_rfl) (by simp) ?_
    refine AllReady.cons (by simp only [List.getElem?_toArray, List.getElem?_cons_succ, List.getElem?_cons_zero]; rfl) (fun K hK => ?_) (AllReady.cons (by simp only [List.getElem?_toArray, List.getElem?_cons_succ, List.getElem?_cons_zero]; rfl) (fun K hK => ?_) AllReady.nil)
    · (go_simp; go_at_call 35; (with_reducible refine (HN4.out _).mono ?_); rintro e wa ⟨rfl, ba⟩; have Sa := Lib.hid (num_step B2'.out Z2'.out ba); clear ba)
      refine hK _ _ ?_
      clear hK K
      (try simp only [Act.put, List.setIfInBounds_toArray, List.set_cons_zero, List.set_cons_succ])
      refine wpAny_ready (rs := [17, 21]) (by kernel_rfl) (by simp) ?_
      refine AllReady.cons (by simp only [List.getElem?_toArray, List.getElem?_cons_succ, List.getElem?_cons_zero]; rfl) (fun K hK => ?_) (AllReady.cons (by simp only [List.getElem?_toArray, List.getElem?_cons_succ, List.getElem?_cons_zero]; rfl) (fun K hK => ?_) AllReady.nil)
      · (go_simp; go_at_call 35; (with_reducible refine (HN8.out _).mono ?_); rintro e wb ⟨rfl, bb⟩; have Sb := Lib.hid (num_step Sa.out.1 Sa.out.2 bb); clear bb)
        refine hK _ _ ?_
        clear hK K
        (try simp only [Act.put, List.setIfInBounds_toArray, List.set_cons_zero, List.set_cons_succ])
        refine wpAny_ready (rs := [19, 21]) (by kernel_rfl) (by simp) ?_
        refine AllReady.cons (by simp only [List.getElem?_toArray, List.getElem?_cons_succ, List.getElem?_cons_zero]; rfl) (fun K hK => ?_) (AllReady.cons (by simp only [List.getElem?_toArray, List.getElem?_cons_succ, List.getElem?_cons_zero]; rfl) (fun K hK => ?_) AllReady.nil)
        · (go_simp; go_at_call 35; (with_reducible refine (HN12.out _).mono ?_); rintro e wc ⟨rfl, bc⟩; have Sc := Lib.hid (num_step Sb.out.1 Sb.out.2 bc); clear bc)
          refine hK _ _ ?_
          clear hK K
          (try simp only [Act.put, List.setIfInBounds_toArray, List.set_cons_zero, List.set_cons_succ])
          refine wpAny_take (i := 20) (v := ?v18) (by simp only [List.getElem?_toArray, List.getElem?_cons_succ, List.getElem?_cons_zero]; rfl) (by kernel_rfl) (by kernel_rfl) (by kernel_rfl) (by exact fun _ _ _ h => h) (Or.inl ⟨by rfl, ?hy18⟩) ?r18
          case hy18 => ((intro w; go_simp); (try with_reducible rfl))
          (try simp only [Act.put, List.setIfInBounds_toArray, List.set_cons_zero, List.set_cons_succ])
          refine wpAny_ready (rs := [21]) (by kernel_rfl) (by simp) ?_
          refine AllReady.cons (by simp only [List.getElem?_toArray, List.getElem?_cons_succ, List.getElem?_cons_zero]; rfl) (fun K hK => ?_) AllReady.nil
          go_simp
          refine hK _ _ ?_
          clear hK K
          (try simp only [Act.put, List.setIfInBounds_toArray, List.set_cons_zero, List.set_cons_succ])
          refine wpAny_ready (rs := [22]) (by kernel_rfl) (by simp) ?_
          refine AllReady.cons (by simp only [List.getElem?_toArray, List.getElem?_cons_succ, List.getElem?_cons_zero]; rfl) (fun K hK => ?_) AllReady.nil
          go_simp
          refine hK _ _ ?_
          clear hK K
          (try simp only [Act.put, List.setIfInBounds_toArray, List.set_cons_zero, List.set_cons_succ])
          refine wpAny_done (by kernel_rfl) ?_ _
          go_wp2
          go_meet
          case rel => exact ⟨_, rfl, obj_lt Sc.out.2, World.alloc_heap_new wc _, obj_alloc Sc.out.2 _, Sc.out.1.alloc Sc.out.1.size _⟩
        · go_simp
          refine hK _ _ ?_
          clear hK K
          (try simp only [Act.put, List.setIfInBounds_toArray, List.set_cons_zero, List.set_cons_succ])
          refine wpAny_ready (rs := [19]) (by kernel_rfl) (by simp) ?_
          refine AllReady.cons (by simp only [List.getElem?_toArray, List.getElem?_cons_succ, List.getElem?_cons_zero]; rfl) (fun K hK => ?_) AllReady.nil
          (go_simp; go_at_call 35; (with_reducible refine (HN12.out _).mono ?_); rintro e wc ⟨rfl, bc⟩; have Sc := Lib.hid (num_stepA Sb.out.1 Sb.out.2 bc); have Xc := Lib.hid (num_stepX bc); clear bc)
          refine hK _ _ ?_
          clear hK K
          (try simp only [Act.put, List.setIfInBounds_toArray, List.set_cons_zero, List.set_cons_succ])
          (obtain ⟨x0, x1, x2, x3, x4, x5, x6, x7, x8, xf, xl⟩ := cells9 Xc.out; have y0 := xf 0; have y1 := xf 1; have y2 := xf 2; have y3 := xf 3; have y4 := xf 4; have y5 := xf 5; have y6 := xf 6; have y7 := xf 7; have y8 := xf 8; clear xf xl)
          refine wpAny_take (i := 20) (v := ?v19) (by simp only [List.getElem?_toArray, List.getElem?_cons_succ, List.getElem?_cons_zero]; rfl) (by kernel_rfl) (by kernel_rfl) (by kernel_rfl) (by exact fun _ _ _ h => h) (Or.inl ⟨by rfl, ?hy19⟩) ?r19
          case hy19 => ((intro w; go_simp); (try with_reducible rfl))
          (try simp only [Act.put, List.setIfInBounds_toArray, List.set_cons_zero, List.set_cons_succ])
          refine wpAny_ready (rs := [22]) (by kernel_rfl) (by simp) ?_
          refine AllReady.cons (by simp only [List.getElem?_toArray, List.getElem?_cons_succ, List.getElem?_cons_zero]; rfl) (fun K hK => ?_) AllReady.nil
          go_simp
          refine hK _ _ ?_
          clear hK K
          (try simp only [Act.put, List.setIfInBounds_toArray, List.set_cons_zero, List.set_cons_succ])
          refine wpAny_done (by kernel_rfl) ?_ _
          have HST := Lib.hid (fr_stored0 (.int .i64 1) (.int .i64 (b2 : Int)) (.int .i64 ((b3 : Int) / 16)) (.int .i64 ((b3 : Int) % 16)) (.int .u32 (numN u 4 : Int)) (.int .u32 (numN u 8 : Int)) (.int .u32 (numN u 12 : Int)) (.int .u32 0) (.string ⟨#[]⟩) Xc.out)
          go_wp2
          go_meet
          case rel =>
            have hlt := obj_lt Sc.out.2
            exact ⟨_, rfl, (by first | exact hzw | exact obj_lt Sa.out.2 | exact obj_lt Sb.out.2), HST.out.at_, HST.out.far _ _ (Nat.ne_of_lt (by first | exact hzw | exact obj_lt Sa.out.2 | exact obj_lt Sb.out.2)) Sc.out.2, HST.out.below _ _ (Nat.le_of_lt (by first | exact hzw | exact obj_lt Sa.out.2 | exact obj_lt Sb.out.2)) Sc.out.1⟩
      · go_simp
        refine hK _ _ ?_
        clear hK K
        (try simp only [Act.put, List.setIfInBounds_toArray, List.set_cons_zero, List.set_cons_succ])
        refine wpAny_ready (rs := [17]) (by kernel_rfl) (by simp) ?_
        refine AllReady.cons (by simp only [List.getElem?_toArray, List.getElem?_cons_succ, List.getElem?_cons_zero]; rfl) (fun K hK => ?_) AllReady.nil
        (go_simp; go_at_call 35; (with_reducible refine (HN8.out _).mono ?_); rintro e wb ⟨rfl, bb⟩; have Sb := Lib.hid (num_stepA Sa.out.1 Sa.out.2 bb); have Xb := Lib.hid (num_stepX bb); clear bb)
        refine hK _ _ ?_
        clear hK K
        (try simp only [Act.put, List.setIfInBounds_toArray, List.set_cons_zero, List.set_cons_succ])
        refine wpAny_ready (rs := [19]) (by kernel_rfl) (by simp) ?_
        refine AllReady.cons (by simp only [List.getElem?_toArray, List.getElem?_cons_succ, List.getElem?_cons_zero]; rfl) (fun K hK => ?_) AllReady.nil
        (go_simp; go_at_call 35; (with_reducible refine (HN12.out _).mono ?_); rintro e wc ⟨rfl, bc⟩; have Sc := Lib.hid (num_step Sb.out.1 Sb.out.2 bc); have Xc := Lib.hid (obj_below Xb.out bc (obj_lt Xb.out)); clear bc)
        refine hK _ _ ?_
        clear hK K
        (try simp only [Act.put, List.setIfInBounds_toArray, List.set_cons_zero, List.set_cons_succ])
        (obtain ⟨x0, x1, x2, x3, x4, x5, x6, x7, x8, xf, xl⟩ := cells9 Xc.out; have y0 := xf 0; have y1 := xf 1; have y2 := xf 2; have y3 := xf 3; have y4 := xf 4; have y5 := xf 5; have y6 := xf 6; have y7 := xf 7; have y8 := xf 8; clear xf xl)
        refine wpAny_take (i := 20) (v := ?v20) (by simp only [List.getElem?_toArray, List.getElem?_cons_succ, List.getElem?_cons_zero]; rfl) (by kernel_rfl) (by kernel_rfl) (by kernel_rfl) (by exact fun _ _ _ h => h) (Or.inl ⟨by rfl, ?hy20⟩) ?r20
        case hy20 => ((intro w; go_simp); (try with_reducible rfl))
        (try simp only [Act.put, List.setIfInBounds_toArray, List.set_cons_zero, List.set_cons_succ])
        refine wpAny_ready (rs := [22]) (by kernel_rfl) (by simp) ?_
        refine AllReady.cons (by simp only [List.getElem?_toArray, List.getElem?_cons_succ, List.getElem?_cons_zero]; rfl) (fun K hK => ?_) AllReady.nil
        go_simp
        refine hK _ _ ?_
        clear hK K
        (try simp only [Act.put, List.setIfInBounds_toArray, List.set_cons_zero, List.set_cons_succ])
        refine wpAny_done (by kernel_rfl) ?_ _
        have HST := Lib.hid (fr_stored0 (.int .i64 1) (.int .i64 (b2 : Int)) (.int .i64 ((b3 : Int) / 16)) (.int .i64 ((b3 : Int) % 16)) (.int .u32 (numN u 4 : Int)) (.int .u32 (numN u 8 : Int)) (.int .u32 (numN u 12 : Int)) (.int .u32 0) (.string ⟨#[]⟩) Xc.out)
        go_wp2
        go_meet
        case rel =>
          have hlt := obj_lt Sc.out.2
          exact ⟨_, rfl, (by first | exact hzw | exact obj_lt Sa.out.2 | exact obj_lt Sb.out.2), HST.out.at_, HST.out.far _ _ (Nat.ne_of_lt (by first | exact hzw | exact obj_lt Sa.out.2 | exact obj_lt Sb.out.2)) Sc.out.2, HST.out.below _ _ (Nat.le_of_lt (by first | exact hzw | exact obj_lt Sa.out.2 | exact obj_lt Sb.out.2)) Sc.out.1⟩
    · go_simp
      refine hK _ _ ?_
      clear hK K
      (try simp only [Act.put, List.setIfInBounds_toArray, List.set_cons_zero, List.set_cons_succ])
      refine wpAny_ready (rs := [15]) (by kernel_rfl) (by simp) ?_
      refine AllReady.cons (by simp only [List.getElem?_toArray, List.getElem?_cons_succ, List.getElem?_cons_zero]; rfl) (fun K hK => ?_) AllReady.nil
      (go_simp; go_at_call 35; (with_reducible refine (HN4.out _).mono ?_); rintro e wa ⟨rfl, ba⟩; (first | with_reducible (have Sa := Lib.hid (num_stepD B2.out Z2.out ba); have Xa := Lib.hid (num_stepY ba)) | with_reducible (have Sa := Lib.hid (num_stepA B2'.out Z2'.out ba); have Xa := Lib.hid (num_stepX ba))); clear ba)
      refine hK _ _ ?_
      clear hK K
      (try simp only [Act.put, List.setIfInBounds_toArray, List.set_cons_zero, List.set_cons_succ])
      refine wpAny_ready (rs := [17]) (by kernel_rfl) (by simp) ?_
      refine AllReady.cons (by simp only [List.getElem?_toArray, List.getElem?_cons_succ, List.getElem?_cons_zero]; rfl) (fun K hK => ?_) AllReady.nil
      (go_simp; go_at_call 35; (with_reducible refine (HN8.out _).mono ?_); rintro e wb ⟨rfl, bb⟩; have Sb := Lib.hid (num_step Sa.out.1 Sa.out.2 bb); have Xb := Lib.hid (obj_below Xa.out bb (obj_lt Xa.out)); clear bb)
      refine hK _ _ ?_
      clear hK K
      (try simp only [Act.put, List.setIfInBounds_toArray, List.set_cons_zero, List.set_cons_succ])
      refine wpAny_ready (rs := [19]) (by kernel_rfl) (by simp) ?_
      refine AllReady.cons (by simp only [List.getElem?_toArray, List.getElem?_cons_succ, List.getElem?_cons_zero]; rfl) (fun K hK => ?_) AllReady.nil
      (go_simp; go_at_call 35; (with_reducible refine (HN12.out _).mono ?_); rintro e wc ⟨rfl, bc⟩; have Sc := Lib.hid (num_step Sb.out.1 Sb.out.2 bc); have Xc := Lib.hid (obj_below Xb.out bc (obj_lt Xb.out)); clear bc)
      refine hK _ _ ?_
      clear hK K
      (try simp only [Act.put, List.setIfInBounds_toArray, List.set_cons_zero, List.set_cons_succ])
      (obtain ⟨x0, x1, x2, x3, x4, x5, x6, x7, x8, xf, xl⟩ := cells9 Xc.out; have y0 := xf 0; have y1 := xf 1; have y2 := xf 2; have y3 := xf 3; have y4 := xf 4; have y5 := xf 5; have y6 := xf 6; have y7 := xf 7; have y8 := xf 8; clear xf xl)
      refine wpAny_take (i := 20) (v := ?v21) (by simp only [List.getElem?_toArray, List.getElem?_cons_succ, List.getElem?_cons_zero]; rfl) (by kernel_rfl) (by kernel_rfl) (by kernel_rfl) (by exact fun _ _ _ h => h) (Or.inl ⟨by rfl, ?hy21⟩) ?r21
      case hy21 => ((intro w; go_simp); (try with_reducible rfl))
      (try simp only [Act.put, List.setIfInBounds_toArray, List.set_cons_zero, List.set_cons_succ])
      refine wpAny_ready (rs := [22]) (by kernel_rfl) (by simp) ?_
      refine AllReady.cons (by simp only [List.getElem?_toArray, List.getElem?_cons_succ, List.getElem?_cons_zero]; rfl) (fun K hK => ?_) AllReady.nil
      go_simp
      refine hK _ _ ?_
      clear hK K
      (try simp only [Act.put, List.setIfInBounds_toArray, List.set_cons_zero, List.set_cons_succ])
      refine wpAny_done (by kernel_rfl) ?_ _
      have HST := Lib.hid (fr_stored0 (.int .i64 1) (.int .i64 (b2 : Int)) (.int .i64 ((b3 : Int) / 16)) (.int .i64 ((b3 : Int) % 16)) (.int .u32 (numN u 4 : Int)) (.int .u32 (numN u 8 : Int)) (.int .u32 (numN u 12 : Int)) (.int .u32 0) (.string ⟨#[]⟩) Xc.out)
      go_wp2
      go_meet
      case rel =>
        have hlt := obj_lt Sc.out.2
        exact ⟨_, rfl, (by first | exact hzw | exact obj_lt Sa.out.2 | exact obj_lt Sb.out.2), HST.out.at_, HST.out.far _ _ (Nat.ne_of_lt (by first | exact hzw | exact obj_lt Sa.out.2 | exact obj_lt Sb.out.2)) Sc.out.2, HST.out.below _ _ (Nat.le_of_lt (by first | exact hzw | exact obj_lt Sa.out.2 | exact obj_lt Sb.out.2)) Sc.out.1⟩
  case rest =>
    obtain ⟨g, rfl, hg, hF, hZ, hB⟩ := hcut
    have HFw := Lib.hid hF
    have HZw := Lib.hid hZ
    have HBw := Lib.hid hB
    clear hF hZ hB hzw hwi hq3 hr3 hw2
    obtain ⟨a0, a1, a2, a3, a4, a5, a6, a7, a8, af, _⟩ := cells9 HFw.out; clear af
    have n1 : ¬ (g = w.heap.size) := by omega
    have n2 : ¬ (w.heap.size = g) := by omega
    have HSL := fun W => slF_l (P := Tryd.prog) Tryd.underlying9 u 20 hz 20 rfl W
    have hds : (u.extract 20 u.size).size = u.size - 20 := by rw [ByteArray.size_extract, Nat.min_self]
    have HFO := rd_frame1 u H1.out
    rw [hb2d, hb3d] at HFO
    have HE := Lib.hid (rd_endE u _ _ _ H0.out (by rw [H1.out]; exact .inl rfl) hz (by omega) HFO.1 HFO.2.1 HFO.2.2)
    rw [← hds] at HE
    have hdn : ((u.size : Int) - 16 - 4) = ((u.extract 20 u.size).size : Int) := by rw [hds]; omega
    have hdm : (u.extract 20 u.size).size ≤ 1000000 := by omega
    clear HFO hds
    generalize u.extract 20 u.size = d at *
    have hok : okF ⟨1, (b2 : Int), (b3 : Int) / 16, (b3 : Int) % 16, numN u 4, numN u 8, numN u 12, 0, d⟩ := okF_rd (.inl rfl) hb2 hb3 (numN_lt _ _) (numN_lt _ _) (numN_lt _ _) (by omega) (by unfold maxLen; omega)
    have hRR := fun W => refright_any _ hok W
    simp only [frV] at hRR
    have HRR := Lib.hid (fun W => (show Calls Tryd.prog 16 #[.agg #[.int .i64 1, .int .i64 (b2 : Int), .int .i64 ((b3 : Int) / 16), .int .i64 ((b3 : Int) % 16), .int .u32 (numN u 4 : Int), .int .u32 (numN u 8 : Int), .int .u32 (numN u 12 : Int), .int .u32 0, .string d]] W fun e w' => e = .returned (.bool (rightB (⟨1, (b2 : Int), (b3 : Int) / 16, (b3 : Int) % 16, numN u 4, numN u 8, numN u 12, 0, d⟩ : Fr))) ∧ Below W.heap.size W w' from hRR W))
    clear hRR hok
    have hwr : IntKind.u64.wrap (d.size : Int) = (d.size : Int) := wrap_u64 hdm
    have hNl := numN_lt u 16
    by_cases hN : numN u 16 = d.size
    · have hq : ((numN u 16 : Int) != (d.size : Int)) = false := by rw [bne_eq_false_iff_eq]; omega
      have hq2 : (numN u 16 : Int) = (d.size : Int) := by omega
      cases hr : rightB (⟨1, (b2 : Int), (b3 : Int) / 16, (b3 : Int) % 16, numN u 4, numN u 8, numN u 12, 0, d⟩ : Fr) with
      | false =>
        rw [hr] at HRR
        have HE2 := Lib.hid (HE.out.1 (.inr hr))
        clear hr HE
        go_wp2_with (first | (go_at_call 35; (with_reducible refine (HN16.out _).mono ?_); rintro e w3 ⟨rfl, b3'⟩; have B3 := Lib.hid (btL2 HBw.out b3'); have F3 := Lib.hid (obj_below HFw.out b3' (obj_lt HFw.out)); have Z3 := Lib.hid (obj_below HZw.out b3' (obj_lt HZw.out)); clear b3'; obtain ⟨c0, c1, c2, c3, c4, c5, c6, c7, c8, cf, _⟩ := cells9 F3.out; have ck8 := cf 8; clear cf; obtain ⟨d0, d1, d2, d3, d4, d5, d6, d7, d8, df, _⟩ := cells9 Z3.out; have dk0 := df 0; have dk1 := df 1; have dk2 := df 2; have dk3 := df 3; have dk4 := df 4; have dk5 := df 5; have dk6 := df 6; have dk7 := df 7; have dk8 := df 8; clear df) | (go_at_call 16; (with_reducible refine (HRR.out _).mono ?_); rintro e w5 ⟨rfl, b5⟩; have B5 := Lib.hid (btL2 (show Below w.heap.size w (w3.setCell ⟨g, 8, none⟩ (.string d)) from Below.setCell B3.out (Nat.le_of_lt hg) _) b5); have F5 := Lib.hid (obj_below (obj_set F3.out 8 (.string d)) b5 (obj_lt (obj_set F3.out 8 (.string d)))); have Z5 := Lib.hid (obj_below (obj_far Z3.out (p := ⟨g, 8, none⟩) (Nat.ne_of_lt hg) (.string d)) b5 (obj_lt (obj_far Z3.out (p := ⟨g, 8, none⟩) (Nat.ne_of_lt hg) (.string d)))); clear b5; obtain ⟨p0, p1, p2, p3, p4, p5, p6, p7, p8, pf, _⟩ := cells9 (show w5.heap[g]? = some (.cells #[.int .i64 1, .int .i64 (b2 : Int), .int .i64 ((b3 : Int) / 16), .int .i64 ((b3 : Int) % 16), .int .u32 (numN u 4 : Int), .int .u32 (numN u 8 : Int), .int .u32 (numN u 12 : Int), .int .u32 0, .string d] 24 (0, 0)) from F5.out); clear pf; obtain ⟨q0, q1, q2, q3, q4, q5, q6, q7, q8, qf, _⟩ := cells9 Z5.out; have qk0 := qf 0; have qk1 := qf 1; have qk2 := qf 2; have qk3 := qf 3; have qk4 := qf 4; have qk5 := qf 5; have qk6 := qf 6; have qk7 := qf 7; have qk8 := qf 8; clear qf))
        refine bodyPost_ret (v := .tuple #[frV zeroFr, .int .i64 20]) ?_ rfl ⟨by rw [HE2.out.1, HE2.out.2], ?_⟩
        rotate_left
        · repeat first | with_reducible exact B5.out | (with_reducible refine Below.setCell ?_ (by first | exact Nat.le_refl _ | exact Nat.le_of_lt hg) _)
        · rw [results_cell2 rfl]
          unfold frV zeroFr
          go_simp
      | true =>
        rw [hr] at HRR
        have HE2 := Lib.hid (HE.out.2 hN hr)
        clear hr HE
        go_wp2_with (first | (go_at_call 35; (with_reducible refine (HN16.out _).mono ?_); rintro e w3 ⟨rfl, b3'⟩; have B3 := Lib.hid (btL2 HBw.out b3'); have F3 := Lib.hid (obj_below HFw.out b3' (obj_lt HFw.out)); have Z3 := Lib.hid (obj_below HZw.out b3' (obj_lt HZw.out)); clear b3'; obtain ⟨c0, c1, c2, c3, c4, c5, c6, c7, c8, cf, _⟩ := cells9 F3.out; have ck8 := cf 8; clear cf; obtain ⟨d0, d1, d2, d3, d4, d5, d6, d7, d8, df, _⟩ := cells9 Z3.out; have dk0 := df 0; have dk1 := df 1; have dk2 := df 2; have dk3 := df 3; have dk4 := df 4; have dk5 := df 5; have dk6 := df 6; have dk7 := df 7; have dk8 := df 8; clear df) | (go_at_call 16; (with_reducible refine (HRR.out _).mono ?_); rintro e w5 ⟨rfl, b5⟩; have B5 := Lib.hid (btL2 (show Below w.heap.size w (w3.setCell ⟨g, 8, none⟩ (.string d)) from Below.setCell B3.out (Nat.le_of_lt hg) _) b5); have F5 := Lib.hid (obj_below (obj_set F3.out 8 (.string d)) b5 (obj_lt (obj_set F3.out 8 (.string d)))); have Z5 := Lib.hid (obj_below (obj_far Z3.out (p := ⟨g, 8, none⟩) (Nat.ne_of_lt hg) (.string d)) b5 (obj_lt (obj_far Z3.out (p := ⟨g, 8, none⟩) (Nat.ne_of_lt hg) (.string d)))); clear b5; obtain ⟨p0, p1, p2, p3, p4, p5, p6, p7, p8, pf, _⟩ := cells9 (show w5.heap[g]? = some (.cells #[.int .i64 1, .int .i64 (b2 : Int), .int .i64 ((b3 : Int) / 16), .int .i64 ((b3 : Int) % 16), .int .u32 (numN u 4 : Int), .int .u32 (numN u 8 : Int), .int .u32 (numN u 12 : Int), .int .u32 0, .string d] 24 (0, 0)) from F5.out); clear pf; obtain ⟨q0, q1, q2, q3, q4, q5, q6, q7, q8, qf, _⟩ := cells9 Z5.out; have qk0 := qf 0; have qk1 := qf 1; have qk2 := qf 2; have qk3 := qf 3; have qk4 := qf 4; have qk5 := qf 5; have qk6 := qf 6; have qk7 := qf 7; have qk8 := qf 8; clear qf))
        refine bodyPost_ret (v := .tuple #[frV ⟨1, (b2 : Int), (b3 : Int) / 16, (b3 : Int) % 16, numN u 4, numN u 8, numN u 12, 0, d⟩, .int .i64 0]) ?_ rfl ⟨by rw [HE2.out.1, HE2.out.2], ?_⟩
        rotate_left
        · repeat first | with_reducible exact B5.out | (with_reducible refine Below.setCell ?_ (by first | exact Nat.le_refl _ | exact Nat.le_of_lt hg) _)
        · rw [results_cell2 rfl]
          unfold frV
          go_simp
    · have hq : ((numN u 16 : Int) != (d.size : Int)) = true := by rw [bne_iff_ne]; omega
      have hq2 : ¬ ((numN u 16 : Int) = (d.size : Int)) := by omega
      have HE2 := Lib.hid (HE.out.1 (.inl hN))
      clear HE
      go_wp2_with (first | (go_at_call 35; (with_reducible refine (HN16.out _).mono ?_); rintro e w3 ⟨rfl, b3'⟩; have B3 := Lib.hid (btL2 HBw.out b3'); have F3 := Lib.hid (obj_below HFw.out b3' (obj_lt HFw.out)); have Z3 := Lib.hid (obj_below HZw.out b3' (obj_lt HZw.out)); clear b3'; obtain ⟨c0, c1, c2, c3, c4, c5, c6, c7, c8, cf, _⟩ := cells9 F3.out; have ck8 := cf 8; clear cf; obtain ⟨d0, d1, d2, d3, d4, d5, d6, d7, d8, df, _⟩ := cells9 Z3.out; have dk0 := df 0; have dk1 := df 1; have dk2 := df 2; have dk3 := df 3; have dk4 := df 4; have dk5 := df 5; have dk6 := df 6; have dk7 := df 7; have dk8 := df 8; clear df) | (go_at_call 16; (with_reducible refine (HRR.out _).mono ?_); rintro e w5 ⟨rfl, b5⟩; have B5 := Lib.hid (btL2 (show Below w.heap.size w (w3.setCell ⟨g, 8, none⟩ (.string d)) from Below.setCell B3.out (Nat.le_of_lt hg) _) b5); have F5 := Lib.hid (obj_below (obj_set F3.out 8 (.string d)) b5 (obj_lt (obj_set F3.out 8 (.string d)))); have Z5 := Lib.hid (obj_below (obj_far Z3.out (p := ⟨g, 8, none⟩) (Nat.ne_of_lt hg) (.string d)) b5 (obj_lt (obj_far Z3.out (p := ⟨g, 8, none⟩) (Nat.ne_of_lt hg) (.string d)))); clear b5; obtain ⟨p0, p1, p2, p3, p4, p5, p6, p7, p8, pf, _⟩ := cells9 (show w5.heap[g]? = some (.cells #[.int .i64 1, .int .i64 (b2 : Int), .int .i64 ((b3 : Int) / 16), .int .i64 ((b3 : Int) % 16), .int .u32 (numN u 4 : Int), .int .u32 (numN u 8 : Int), .int .u32 (numN u 12 : Int), .int .u32 0, .string d] 24 (0, 0)) from F5.out); clear pf; obtain ⟨q0, q1, q2, q3, q4, q5, q6, q7, q8, qf, _⟩ := cells9 Z5.out; have qk0 := qf 0; have qk1 := qf 1; have qk2 := qf 2; have qk3 := qf 3; have qk4 := qf 4; have qk5 := qf 5; have qk6 := qf 6; have qk7 := qf 7; have qk8 := qf 8; clear qf))
      refine bodyPost_ret (v := .tuple #[frV zeroFr, .int .i64 20]) ?_ rfl ⟨by rw [HE2.out.1, HE2.out.2], ?_⟩
      rotate_left
      · repeat first | with_reducible exact B3.out | (with_reducible refine Below.setCell ?_ (by first | exact Nat.le_refl _ | exact Nat.le_of_lt hg) _)
      · rw [results_cell2 rfl]
        unfold frV zeroFr
        go_simp
end Go.Proofs.YtcbihioflmfgjaaDoor
