/-
  A node replays a record of a ballot; whole. Conditions: strings are at most as long as Go allows.
-/
import Derived.Test.YtlboeaapmfpipaaRpA
namespace Go.Proofs.Ytlboeaapmfpipaa
open Go.RowKit Go.Shelf Ros
attribute [local go_sem] Oper.semAt_some
theorem votes_lk {w : World} {S : Nat → Prop} {g c : Nat} {s : Nd} (h : NdA w S g s c) {i : Int} (hi : -9223372036854775808 ≤ i ∧ i ≤ 9223372036854775807) (o : Obj) :
    ∃ bv, w.cell? ⟨g, 0, none⟩ = some (.map (some bv)) ∧ (w.alloc o).cell? ⟨g, 0, none⟩ = some (.map (some bv)) ∧ (Instr.lookup 54 (.map (some bv)) (.int .i64 i) false).run Try.prog w.drew = .ok (encVt (s.vote i)) w.drew ∧
      (Instr.lookup 54 (.map (some bv)) (.int .i64 i) false).run Try.prog (w.alloc o).drew = .ok (encVt (s.vote i)) (w.alloc o).drew := by
  obtain ⟨bv, bk, nv, nk, hg, hv, _⟩ := h
  obtain ⟨kl, hkey⟩ := int_key hi
  have hlk := (hv.drew.look_ (e := 27) (t := 54) (z := encVt vt0) (Maps.int_keyed Try.underlying3) Try.underlying54 (by rfl) hkey).1
  have hlk2 := ((hv.alloc o).drew.look_ (e := 27) (t := 54) (z := encVt vt0) (Maps.int_keyed Try.underlying3) Try.underlying54 (by rfl) hkey).1
  unfold votesV at hlk hlk2
  rw [encVt_or] at hlk hlk2
  exact ⟨bv, cell_row hg 0, cell_row (obj_alloc hg o) 0, hlk, hlk2⟩
set_option maxHeartbeats 1000000 in
theorem replayN_vote (r : ByteArray) (hr : r.size ≤ 140737488355328) (w : World) (S : Nat → Prop) (g c : Nat) (s : Nd) (h : NdA w S g s c) (hc : c ≤ 1000000) (t : Ros.Told) (hn : nread r = some t) (hk : ¬ t.kind = 100) (hg : ¬ t.inst ≤ s.gone) (hi : t.inst ≤ 10000) (hst : t.kind = 118 ∧ (s.vote t.inst).b ≤ t.number) :
    Calls Try.prog 18 #[.pointer (some ⟨g, 0, none⟩), .string r] w fun e w' => e = .returned (.int .i64 0) ∧ (∃ s', s' = (nreplay s r).2 ∧ NdA w' S g s' (c + 1)) ∧ Turn S S w w' := by
  have HR := Lib.hid (fun W => readN_shape r W hr)
  rw [hn] at HR
  have HN := Lib.hid h
  have HC := Lib.hid (fun (w' : World) (hb : Below w.heap.size w w') => (h.below hb).cells.2.1)
  have HK := Lib.hid (fun (v : Vt) (W : World) (hW : NdA W S g s c) => keep_any (t.inst : Int) (by omega) v W S g c s hW hc)
  have HLK := Lib.hid (fun (W : World) (hW : NdA W S g s c) => votes_lk (i := (t.inst : Int)) hW (by omega))
  have HE := Lib.hid (nreplay_same hn hk hg)
  have HE2 := Lib.hid (nreplay_vote hn hk hg)
  obtain ⟨k, i, n, v⟩ := t
  dsimp only at hk hg hi hst HR HK HLK HE HE2 ⊢
  have HV := Lib.hid (show raiseV (s.vote (i : Int)) ⟨k, i, n, v⟩ = ⟨max (s.vote (i : Int)).p n, n, v⟩ from if_pos hst)
  rw [HV.out] at HE HE2
  clear HV
  generalize s.vote (i : Int) = x at *
  obtain ⟨xp, xb, xs⟩ := x
  obtain ⟨rfl, hxb⟩ := hst
  dsimp only at hxb HE HE2 HK HLK
  have hgd : ¬ (i : Int) ≤ (s.gone : Int) := by omega
  clear hn h hg
  generalize (s.gone : Int) = G at *
  have hgd2 : decide ((i : Int) ≤ G) = false := by simp [hgd]
  go_enter Try.func18, Try.ntmps18
  go_wp2_with (go_at_call 30; (with_reducible refine (HR.out _).mono ?_); rintro e w1 ⟨t2, ⟨rfl, ht⟩, hb⟩; cases ht _ rfl; unfold encTold; have q3 := HC.out _ (hb.alloc hb.size (.cells #[.int .u8 118, .int .i64 (i : Int), .int .u64 (n : Int), .string v] 72)); have HB := Lib.hid hb; clear hb)
  go_quiet (fail)
  go_wp2
  have B2 := Lib.hid (below_dN (HB.out.alloc HB.out.size (.cells #[.int .u8 118, .int .i64 (i : Int), .int .u64 (n : Int), .string v] 72)) nq)
  have X2 := Lib.hid (show ((w1.alloc (.cells #[.int .u8 118, .int .i64 (i : Int), .int .u64 (n : Int), .string v] 72)).drewN nq).heap[w1.heap.size]? = some (.cells #[.int .u8 118, .int .i64 (i : Int), .int .u64 (n : Int), .string v] 72 (0, 0)) from World.alloc_heap_new _ _)
  have hb1 := HB.out.size
  generalize (w1.alloc (.cells #[.int .u8 118, .int .i64 (i : Int), .int .u64 (n : Int), .string v] 72)).drewN nq = W2 at *
  clear HC q3 hgd2 hgd HB ht
  have N2 := Lib.hid (HN.out.below B2.out)
  obtain ⟨bv, q1, q2, hlk, hlk2⟩ := HLK.out W2 N2.out (.cells #[.int .u64 0, .int .u64 0, .string ⟨#[]⟩] 27)
  unfold encVt at hlk hlk2
  obtain ⟨a0, a1, a2, a3, f0, f1, f2, f3, z0⟩ := cells4f X2.out
  have hgw : g < W2.heap.size := by have h1 := N2.out.lt g N2.out.cells.2.2.2; omega
  obtain ⟨G2, hG2⟩ : ∃ G2, G2 = W2.heap.size := ⟨_, rfl⟩
  have X3 := Lib.hid (obj_alloc X2.out (.cells #[.int .u64 (xp : Int), .int .u64 (xb : Int), .string xs] 27))
  have B3 := Lib.hid (B2.out.alloc B2.out.size (.cells #[.int .u64 (xp : Int), .int .u64 (xb : Int), .string xs] 27))
  have hsw : w.heap.size ≤ G2 := by have := B2.out.size; omega
  go_cut [9] (fun a wx => a = .pointer (some ⟨G2, 0, none⟩) ∧ wx.heap[G2]? = some (.cells #[.int .u64 (xp : Int), .int .u64 (xb : Int), .string xs] 27 (0, 0)) ∧ wx.heap[w1.heap.size]? = some (.cells #[.int .u8 118, .int .i64 (i : Int), .int .u64 (n : Int), .string v] 72 (0, 0)) ∧ Below w.heap.size w wx)
  case first =>
    go_region
    all_goals
      go_wp2
      go_meet
      exact ⟨by rw [hG2], by rw [hG2]; exact World.alloc_heap_new _ _, X3.out, B3.out.drew⟩
  case rest =>
    obtain ⟨rfl, hA4, hX4, hB4⟩ := hcut
    have hxg : w1.heap.size < G2 := by have := obj_lt X2.out; omega
    clear hgw hG2 X3 B3 q1 q2 hlk hlk2 a0 a1 a2 a3 f0 f1 f2 f3 z0 N2 X2 B2
    have HA4 := Lib.hid hA4
    have HX4 := Lib.hid hX4
    have HB4 := Lib.hid hB4
    obtain ⟨a0, a1, a2, f0, f1, f2, z0⟩ := cells3 hA4
    obtain ⟨c0, c1, c2, c3, g0, g1, g2, g3, z1⟩ := cells4f hX4
    clear hA4 hX4 hB4
    by_cases hmx : xp < n
    · go_wp2
      have hM : max xp n = n := by omega
      have hgc : G2 < wc.heap.size := z0
      have hG1 : w1.heap.size < wc.heap.size := z1
      have X5 := Lib.hid (show (wc.alloc (.cells #[.int .u64 (n : Int), .int .u64 (xb : Int), .string xs] 27)).heap[w1.heap.size]? = some (.cells #[.int .u8 118, .int .i64 (i : Int), .int .u64 (n : Int), .string v] 72 (0, 0)) from obj_alloc HX4.out _)
      have A5 := Lib.hid (show (wc.alloc (.cells #[.int .u64 (n : Int), .int .u64 (xb : Int), .string xs] 27)).heap[G2]? = some (.cells #[.int .u64 (xp : Int), .int .u64 (xb : Int), .string xs] 27 (0, 0)) from obj_alloc HA4.out _)
      have D5 := Lib.hid (show (wc.alloc (.cells #[.int .u64 (n : Int), .int .u64 (xb : Int), .string xs] 27)).heap[wc.heap.size]? = some (.cells #[.int .u64 (n : Int), .int .u64 (xb : Int), .string xs] 27 (0, 0)) from World.alloc_heap_new _ _)
      have B5 := Lib.hid (show Below w.heap.size w (wc.alloc (.cells #[.int .u64 (n : Int), .int .u64 (xb : Int), .string xs] 27)) from HB4.out.alloc HB4.out.size _)
      generalize (wc.alloc (.cells #[.int .u64 (n : Int), .int .u64 (xb : Int), .string xs] 27)) = W5 at *
      have hDw : w.heap.size ≤ wc.heap.size := by have := HB4.out.size; omega
      clear a0 a1 a2 f0 f1 f2 z0 c0 c1 c2 c3 g0 g1 g2 g3 z1 HA4 HX4 HB4
      generalize wc.heap.size = D at *
      obtain ⟨a0, a1, a2, f0, f1, f2, z0⟩ := cells3 D5.out
      obtain ⟨c0, c1, c2, c3, g0, g1, g2, g3, z1⟩ := cells4f X5.out
      go_cut [] (fun wx => wx.heap[D]? = some (.cells #[.int .u64 (n : Int), .int .u64 (n : Int), .string v] 27 (0, 0)) ∧ wx.heap[G2]? = some (.cells #[.int .u64 (xp : Int), .int .u64 (xb : Int), .string xs] 27 (0, 0)) ∧ wx.heap[w1.heap.size]? = some (.cells #[.int .u8 118, .int .i64 (i : Int), .int .u64 (n : Int), .string v] 72 (0, 0)) ∧ Below w.heap.size w wx)
      case first =>
        go_region
        all_goals
          go_wp2
          go_meet
          exact ⟨obj_set (obj_set D5.out 1 _) 2 _, obj_far (obj_far A5.out (by show G2 ≠ D; omega) _) (by show G2 ≠ D; omega) _, obj_far (obj_far X5.out (by show w1.heap.size ≠ D; omega) _) (by show w1.heap.size ≠ D; omega) _, ((B5.out.drew).setCell (by show _ ≤ D; omega) _).setCell (by show _ ≤ D; omega) _⟩
      case rest =>
        obtain ⟨hD6, hA6, hX6, hB6⟩ := hcut
        have HD6 := Lib.hid hD6
        have HA6 := Lib.hid hA6
        have HX6 := Lib.hid hX6
        have HB6 := Lib.hid hB6
        clear a0 a1 a2 f0 f1 f2 z0 c0 c1 c2 c3 g0 g1 g2 g3 z1 X5 A5 D5 B5
        obtain ⟨a0, a1, a2, f0, f1, f2, z0⟩ := cells3 hD6
        obtain ⟨b0, b1, b2, _, _, _, _⟩ := cells3 hA6
        obtain ⟨c0, c1, c2, c3, g0, g1, g2, g3, z1⟩ := cells4f hX6
        clear hD6 hA6 hX6 hB6
        have HNc := Lib.hid (HN.out.below HB6.out)
        by_cases heq : (⟨n, n, v⟩ : Vt) = ⟨xp, xb, xs⟩
        · have HE' := Lib.hid (HE.out (by rw [hM]; exact heq))
          have hq := vt_neq_same ⟨xp, xb, xs⟩
          rw [show encVt ⟨xp, xb, xs⟩ = .agg #[.int .u64 (xp : Int), .int .u64 (xb : Int), .string xs] from rfl] at hq
          cases heq
          clear hM hmx HE HE2 HK
          go_wp2
          go_ret
          exact ⟨rfl, ⟨_, by rw [HE'.out], HNc.out.up (by omega)⟩, Turn.of_below HB6.out HN.out.lt⟩
        · have HE' := Lib.hid (HE2.out (by rw [hM]; exact heq))
          have hq := vt_neq_diff ⟨n, n, v⟩ ⟨xp, xb, xs⟩ heq
          rw [show encVt ⟨xp, xb, xs⟩ = .agg #[.int .u64 (xp : Int), .int .u64 (xb : Int), .string xs] from rfl, show encVt ⟨n, n, v⟩ = .agg #[.int .u64 (n : Int), .int .u64 (n : Int), .string v] from rfl] at hq
          rw [hM] at HE'
          have HK' := Lib.hid (HK.out ⟨n, n, v⟩ wc HNc.out)
          clear heq hM hmx HE HE2 HK
          go_wp2_with (go_at_call 24; (with_reducible refine HK'.out.mono ?_); rintro e w7 ⟨rfl, hN7, hT7⟩)
          go_ret
          exact ⟨rfl, ⟨_, by rw [HE'.out], hN7⟩, (Turn.of_below HB6.out HN.out.lt).trans hT7⟩
    · go_wp2
      have hM : max xp n = xp := by omega
      have hgc : G2 < wc.heap.size := z0
      have hG1 : w1.heap.size < wc.heap.size := z1
      have X5 := Lib.hid (show (wc.alloc (.cells #[.int .u64 (xp : Int), .int .u64 (xb : Int), .string xs] 27)).heap[w1.heap.size]? = some (.cells #[.int .u8 118, .int .i64 (i : Int), .int .u64 (n : Int), .string v] 72 (0, 0)) from obj_alloc HX4.out _)
      have A5 := Lib.hid (show (wc.alloc (.cells #[.int .u64 (xp : Int), .int .u64 (xb : Int), .string xs] 27)).heap[G2]? = some (.cells #[.int .u64 (xp : Int), .int .u64 (xb : Int), .string xs] 27 (0, 0)) from obj_alloc HA4.out _)
      have D5 := Lib.hid (show (wc.alloc (.cells #[.int .u64 (xp : Int), .int .u64 (xb : Int), .string xs] 27)).heap[wc.heap.size]? = some (.cells #[.int .u64 (xp : Int), .int .u64 (xb : Int), .string xs] 27 (0, 0)) from World.alloc_heap_new _ _)
      have B5 := Lib.hid (show Below w.heap.size w (wc.alloc (.cells #[.int .u64 (xp : Int), .int .u64 (xb : Int), .string xs] 27)) from HB4.out.alloc HB4.out.size _)
      generalize (wc.alloc (.cells #[.int .u64 (xp : Int), .int .u64 (xb : Int), .string xs] 27)) = W5 at *
      have hDw : w.heap.size ≤ wc.heap.size := by have := HB4.out.size; omega
      clear a0 a1 a2 f0 f1 f2 z0 c0 c1 c2 c3 g0 g1 g2 g3 z1 HA4 HX4 HB4
      generalize wc.heap.size = D at *
      obtain ⟨a0, a1, a2, f0, f1, f2, z0⟩ := cells3 D5.out
      obtain ⟨c0, c1, c2, c3, g0, g1, g2, g3, z1⟩ := cells4f X5.out
      go_cut [] (fun wx => wx.heap[D]? = some (.cells #[.int .u64 (xp : Int), .int .u64 (n : Int), .string v] 27 (0, 0)) ∧ wx.heap[G2]? = some (.cells #[.int .u64 (xp : Int), .int .u64 (xb : Int), .string xs] 27 (0, 0)) ∧ wx.heap[w1.heap.size]? = some (.cells #[.int .u8 118, .int .i64 (i : Int), .int .u64 (n : Int), .string v] 72 (0, 0)) ∧ Below w.heap.size w wx)
      case first =>
        go_region
        all_goals
          go_wp2
          go_meet
          exact ⟨obj_set (obj_set D5.out 1 _) 2 _, obj_far (obj_far A5.out (by show G2 ≠ D; omega) _) (by show G2 ≠ D; omega) _, obj_far (obj_far X5.out (by show w1.heap.size ≠ D; omega) _) (by show w1.heap.size ≠ D; omega) _, ((B5.out.drew).setCell (by show _ ≤ D; omega) _).setCell (by show _ ≤ D; omega) _⟩
      case rest =>
        obtain ⟨hD6, hA6, hX6, hB6⟩ := hcut
        have HD6 := Lib.hid hD6
        have HA6 := Lib.hid hA6
        have HX6 := Lib.hid hX6
        have HB6 := Lib.hid hB6
        clear a0 a1 a2 f0 f1 f2 z0 c0 c1 c2 c3 g0 g1 g2 g3 z1 X5 A5 D5 B5
        obtain ⟨a0, a1, a2, f0, f1, f2, z0⟩ := cells3 hD6
        obtain ⟨b0, b1, b2, _, _, _, _⟩ := cells3 hA6
        obtain ⟨c0, c1, c2, c3, g0, g1, g2, g3, z1⟩ := cells4f hX6
        clear hD6 hA6 hX6 hB6
        have HNc := Lib.hid (HN.out.below HB6.out)
        by_cases heq : (⟨xp, n, v⟩ : Vt) = ⟨xp, xb, xs⟩
        · have HE' := Lib.hid (HE.out (by rw [hM]; exact heq))
          have hq := vt_neq_same ⟨xp, xb, xs⟩
          rw [show encVt ⟨xp, xb, xs⟩ = .agg #[.int .u64 (xp : Int), .int .u64 (xb : Int), .string xs] from rfl] at hq
          cases heq
          clear hM hmx HE HE2 HK
          go_wp2
          go_ret
          exact ⟨rfl, ⟨_, by rw [HE'.out], HNc.out.up (by omega)⟩, Turn.of_below HB6.out HN.out.lt⟩
        · have HE' := Lib.hid (HE2.out (by rw [hM]; exact heq))
          have hq := vt_neq_diff ⟨xp, n, v⟩ ⟨xp, xb, xs⟩ heq
          rw [show encVt ⟨xp, xb, xs⟩ = .agg #[.int .u64 (xp : Int), .int .u64 (xb : Int), .string xs] from rfl, show encVt ⟨xp, n, v⟩ = .agg #[.int .u64 (xp : Int), .int .u64 (n : Int), .string v] from rfl] at hq
          rw [hM] at HE'
          have HK' := Lib.hid (HK.out ⟨xp, n, v⟩ wc HNc.out)
          clear heq hM hmx HE HE2 HK
          go_wp2_with (go_at_call 24; (with_reducible refine HK'.out.mono ?_); rintro e w7 ⟨rfl, hN7, hT7⟩)
          go_ret
          exact ⟨rfl, ⟨_, by rw [HE'.out], hN7⟩, (Turn.of_below HB6.out HN.out.lt).trans hT7⟩
end Go.Proofs.Ytlboeaapmfpipaa
namespace Go.Proofs.Ytlboeaapmfpipaa
open Go.RowKit Go.Shelf Ros
attribute [local go_sem] Oper.semAt_some
set_option maxHeartbeats 1000000 in
theorem replayN_prom (r : ByteArray) (hr : r.size ≤ 140737488355328) (w : World) (S : Nat → Prop) (g c : Nat) (s : Nd) (h : NdA w S g s c) (hc : c ≤ 1000000) (t : Ros.Told) (hn : nread r = some t) (hk : ¬ t.kind = 100) (hg : ¬ t.inst ≤ s.gone) (hi : t.inst ≤ 10000) (hk2 : t.kind = 112) :
    Calls Try.prog 18 #[.pointer (some ⟨g, 0, none⟩), .string r] w fun e w' => e = .returned (.int .i64 0) ∧ (∃ s', s' = (nreplay s r).2 ∧ NdA w' S g s' (c + 1)) ∧ Turn S S w w' := by
  have HR := Lib.hid (fun W => readN_shape r W hr)
  rw [hn] at HR
  have HN := Lib.hid h
  have HC := Lib.hid (fun (w' : World) (hb : Below w.heap.size w w') => (h.below hb).cells.2.1)
  have HK := Lib.hid (fun (v : Vt) (W : World) (hW : NdA W S g s c) => keep_any (t.inst : Int) (by omega) v W S g c s hW hc)
  have HLK := Lib.hid (fun (W : World) (hW : NdA W S g s c) => votes_lk (i := (t.inst : Int)) hW (by omega))
  have HE := Lib.hid (nreplay_same hn hk hg)
  have HE2 := Lib.hid (nreplay_vote hn hk hg)
  obtain ⟨k, i, n, v⟩ := t
  dsimp only at hk hk2 hg hi HR HK HLK HE HE2 ⊢
  have HV := Lib.hid (show raiseV (s.vote (i : Int)) ⟨k, i, n, v⟩ = ⟨max (s.vote (i : Int)).p n, (s.vote (i : Int)).b, (s.vote (i : Int)).s⟩ from if_neg (fun h => absurd (hk2.symm.trans h.1) (by decide : ¬ (112 : UInt8) = 118)))
  rw [HV.out] at HE HE2
  clear HV
  subst hk2
  generalize s.vote (i : Int) = x at *
  obtain ⟨xp, xb, xs⟩ := x
  dsimp only at HE HE2 HK HLK
  have hgd : ¬ (i : Int) ≤ (s.gone : Int) := by omega
  clear hn h hg
  generalize (s.gone : Int) = G at *
  have hgd2 : decide ((i : Int) ≤ G) = false := by simp [hgd]
  go_enter Try.func18, Try.ntmps18
  go_wp2_with (go_at_call 30; (with_reducible refine (HR.out _).mono ?_); rintro e w1 ⟨t2, ⟨rfl, ht⟩, hb⟩; cases ht _ rfl; unfold encTold; have q3 := HC.out _ (hb.alloc hb.size (.cells #[.int .u8 112, .int .i64 (i : Int), .int .u64 (n : Int), .string v] 72)); have HB := Lib.hid hb; clear hb)
  go_quiet (fail)
  go_wp2
  have B2 := Lib.hid (below_dN (HB.out.alloc HB.out.size (.cells #[.int .u8 112, .int .i64 (i : Int), .int .u64 (n : Int), .string v] 72)) nq)
  have X2 := Lib.hid (show ((w1.alloc (.cells #[.int .u8 112, .int .i64 (i : Int), .int .u64 (n : Int), .string v] 72)).drewN nq).heap[w1.heap.size]? = some (.cells #[.int .u8 112, .int .i64 (i : Int), .int .u64 (n : Int), .string v] 72 (0, 0)) from World.alloc_heap_new _ _)
  have hb1 := HB.out.size
  generalize (w1.alloc (.cells #[.int .u8 112, .int .i64 (i : Int), .int .u64 (n : Int), .string v] 72)).drewN nq = W2 at *
  clear HC q3 hgd2 hgd HB ht
  have N2 := Lib.hid (HN.out.below B2.out)
  obtain ⟨bv, q1, q2, hlk, hlk2⟩ := HLK.out W2 N2.out (.cells #[.int .u64 0, .int .u64 0, .string ⟨#[]⟩] 27)
  unfold encVt at hlk hlk2
  obtain ⟨a0, a1, a2, a3, f0, f1, f2, f3, z0⟩ := cells4f X2.out
  have hgw : g < W2.heap.size := by have h1 := N2.out.lt g N2.out.cells.2.2.2; omega
  obtain ⟨G2, hG2⟩ : ∃ G2, G2 = W2.heap.size := ⟨_, rfl⟩
  have X3 := Lib.hid (obj_alloc X2.out (.cells #[.int .u64 (xp : Int), .int .u64 (xb : Int), .string xs] 27))
  have B3 := Lib.hid (B2.out.alloc B2.out.size (.cells #[.int .u64 (xp : Int), .int .u64 (xb : Int), .string xs] 27))
  have hsw : w.heap.size ≤ G2 := by have := B2.out.size; omega
  go_cut [9] (fun a wx => a = .pointer (some ⟨G2, 0, none⟩) ∧ wx.heap[G2]? = some (.cells #[.int .u64 (xp : Int), .int .u64 (xb : Int), .string xs] 27 (0, 0)) ∧ wx.heap[w1.heap.size]? = some (.cells #[.int .u8 112, .int .i64 (i : Int), .int .u64 (n : Int), .string v] 72 (0, 0)) ∧ Below w.heap.size w wx)
  case first =>
    go_region
    all_goals
      go_wp2
      go_meet
      exact ⟨by rw [hG2], by rw [hG2]; exact World.alloc_heap_new _ _, X3.out, B3.out.drew⟩
  case rest =>
    obtain ⟨rfl, hA4, hX4, hB4⟩ := hcut
    have hxg : w1.heap.size < G2 := by have := obj_lt X2.out; omega
    clear hgw hG2 X3 B3 q1 q2 hlk hlk2 a0 a1 a2 a3 f0 f1 f2 f3 z0 N2 X2 B2
    have HA4 := Lib.hid hA4
    have HX4 := Lib.hid hX4
    have HB4 := Lib.hid hB4
    obtain ⟨a0, a1, a2, f0, f1, f2, z0⟩ := cells3 hA4
    obtain ⟨c0, c1, c2, c3, g0, g1, g2, g3, z1⟩ := cells4f hX4
    clear hA4 hX4 hB4
    have hNc := HN.out.below HB4.out
    have HNc := Lib.hid hNc
    by_cases hmx : xp < n
    · have HE' := Lib.hid (HE2.out (by rw [Nat.max_eq_right (by omega)]; intro e; injection e; omega))
      rw [Nat.max_eq_right (by omega)] at HE'
      have hq := vt_neq_diff ⟨n, xb, xs⟩ ⟨xp, xb, xs⟩ (by intro e; injection e; omega)
      rw [show encVt ⟨xp, xb, xs⟩ = .agg #[.int .u64 (xp : Int), .int .u64 (xb : Int), .string xs] from rfl, show encVt ⟨n, xb, xs⟩ = .agg #[.int .u64 (n : Int), .int .u64 (xb : Int), .string xs] from rfl] at hq
      have HK' := Lib.hid (fun W hW => HK.out ⟨n, xb, xs⟩ W hW)
      clear HE HE2 HK hNc
      go_wp2_with (go_at_call 24; (with_reducible refine (HK'.out _ (HNc.out.below ((Below.refl _ _).alloc (Nat.le_refl _) _))).mono ?_); rintro e w7 ⟨rfl, hN7, hT7⟩)
      go_ret
      exact ⟨rfl, ⟨_, by rw [HE'.out], hN7⟩, (Turn.of_below (HB4.out.alloc HB4.out.size _) HN.out.lt).trans hT7⟩
    · have HE' := Lib.hid (HE.out (by rw [Nat.max_eq_left (by omega)]))
      have hq := vt_neq_same ⟨xp, xb, xs⟩
      rw [show encVt ⟨xp, xb, xs⟩ = .agg #[.int .u64 (xp : Int), .int .u64 (xb : Int), .string xs] from rfl] at hq
      clear HE HE2 HK hNc
      go_wp2
      go_ret
      exact ⟨rfl, ⟨_, by rw [HE'.out], (HNc.out.below ((Below.refl _ _).alloc (Nat.le_refl _) _)).up (by omega)⟩, Turn.of_below (HB4.out.alloc HB4.out.size _) HN.out.lt⟩
set_option maxHeartbeats 1000000 in
theorem replayN_low (r : ByteArray) (hr : r.size ≤ 140737488355328) (w : World) (S : Nat → Prop) (g c : Nat) (s : Nd) (h : NdA w S g s c) (hc : c ≤ 1000000) (t : Ros.Told) (hn : nread r = some t) (hk : ¬ t.kind = 100) (hg : ¬ t.inst ≤ s.gone) (hi : t.inst ≤ 10000) (hst : t.kind = 118 ∧ t.number < (s.vote t.inst).b) :
    Calls Try.prog 18 #[.pointer (some ⟨g, 0, none⟩), .string r] w fun e w' => e = .returned (.int .i64 0) ∧ (∃ s', s' = (nreplay s r).2 ∧ NdA w' S g s' (c + 1)) ∧ Turn S S w w' := by
  have HR := Lib.hid (fun W => readN_shape r W hr)
  rw [hn] at HR
  have HN := Lib.hid h
  have HC := Lib.hid (fun (w' : World) (hb : Below w.heap.size w w') => (h.below hb).cells.2.1)
  have HK := Lib.hid (fun (v : Vt) (W : World) (hW : NdA W S g s c) => keep_any (t.inst : Int) (by omega) v W S g c s hW hc)
  have HLK := Lib.hid (fun (W : World) (hW : NdA W S g s c) => votes_lk (i := (t.inst : Int)) hW (by omega))
  have HE := Lib.hid (nreplay_same hn hk hg)
  have HE2 := Lib.hid (nreplay_vote hn hk hg)
  obtain ⟨k, i, n, v⟩ := t
  dsimp only at hk hg hi hst HR HK HLK HE HE2 ⊢
  have HV := Lib.hid (show raiseV (s.vote (i : Int)) ⟨k, i, n, v⟩ = ⟨max (s.vote (i : Int)).p n, (s.vote (i : Int)).b, (s.vote (i : Int)).s⟩ from if_neg (fun h => by have h2 := h.2; dsimp only at h2; omega))
  rw [HV.out] at HE HE2
  clear HV
  generalize s.vote (i : Int) = x at *
  obtain ⟨xp, xb, xs⟩ := x
  obtain ⟨rfl, hxb⟩ := hst
  dsimp only at hxb HE HE2 HK HLK
  have hgd : ¬ (i : Int) ≤ (s.gone : Int) := by omega
  clear hn h hg
  generalize (s.gone : Int) = G at *
  have hgd2 : decide ((i : Int) ≤ G) = false := by simp [hgd]
  go_enter Try.func18, Try.ntmps18
  go_wp2_with (go_at_call 30; (with_reducible refine (HR.out _).mono ?_); rintro e w1 ⟨t2, ⟨rfl, ht⟩, hb⟩; cases ht _ rfl; unfold encTold; have q3 := HC.out _ (hb.alloc hb.size (.cells #[.int .u8 118, .int .i64 (i : Int), .int .u64 (n : Int), .string v] 72)); have HB := Lib.hid hb; clear hb)
  go_quiet (fail)
  go_wp2
  have B2 := Lib.hid (below_dN (HB.out.alloc HB.out.size (.cells #[.int .u8 118, .int .i64 (i : Int), .int .u64 (n : Int), .string v] 72)) nq)
  have X2 := Lib.hid (show ((w1.alloc (.cells #[.int .u8 118, .int .i64 (i : Int), .int .u64 (n : Int), .string v] 72)).drewN nq).heap[w1.heap.size]? = some (.cells #[.int .u8 118, .int .i64 (i : Int), .int .u64 (n : Int), .string v] 72 (0, 0)) from World.alloc_heap_new _ _)
  have hb1 := HB.out.size
  generalize (w1.alloc (.cells #[.int .u8 118, .int .i64 (i : Int), .int .u64 (n : Int), .string v] 72)).drewN nq = W2 at *
  clear HC q3 hgd2 hgd HB ht
  have N2 := Lib.hid (HN.out.below B2.out)
  obtain ⟨bv, q1, q2, hlk, hlk2⟩ := HLK.out W2 N2.out (.cells #[.int .u64 0, .int .u64 0, .string ⟨#[]⟩] 27)
  unfold encVt at hlk hlk2
  obtain ⟨a0, a1, a2, a3, f0, f1, f2, f3, z0⟩ := cells4f X2.out
  have hgw : g < W2.heap.size := by have h1 := N2.out.lt g N2.out.cells.2.2.2; omega
  obtain ⟨G2, hG2⟩ : ∃ G2, G2 = W2.heap.size := ⟨_, rfl⟩
  have X3 := Lib.hid (obj_alloc X2.out (.cells #[.int .u64 (xp : Int), .int .u64 (xb : Int), .string xs] 27))
  have B3 := Lib.hid (B2.out.alloc B2.out.size (.cells #[.int .u64 (xp : Int), .int .u64 (xb : Int), .string xs] 27))
  have hsw : w.heap.size ≤ G2 := by have := B2.out.size; omega
  go_cut [9] (fun a wx => a = .pointer (some ⟨G2, 0, none⟩) ∧ wx.heap[G2]? = some (.cells #[.int .u64 (xp : Int), .int .u64 (xb : Int), .string xs] 27 (0, 0)) ∧ wx.heap[w1.heap.size]? = some (.cells #[.int .u8 118, .int .i64 (i : Int), .int .u64 (n : Int), .string v] 72 (0, 0)) ∧ Below w.heap.size w wx)
  case first =>
    go_region
    all_goals
      go_wp2
      go_meet
      exact ⟨by rw [hG2], by rw [hG2]; exact World.alloc_heap_new _ _, X3.out, B3.out.drew⟩
  case rest =>
    obtain ⟨rfl, hA4, hX4, hB4⟩ := hcut
    have hxg : w1.heap.size < G2 := by have := obj_lt X2.out; omega
    clear hgw hG2 X3 B3 q1 q2 hlk hlk2 a0 a1 a2 a3 f0 f1 f2 f3 z0 N2 X2 B2
    have HA4 := Lib.hid hA4
    have HX4 := Lib.hid hX4
    have HB4 := Lib.hid hB4
    obtain ⟨a0, a1, a2, f0, f1, f2, z0⟩ := cells3 hA4
    obtain ⟨c0, c1, c2, c3, g0, g1, g2, g3, z1⟩ := cells4f hX4
    clear hA4 hX4 hB4
    have hNc := HN.out.below HB4.out
    have HNc := Lib.hid hNc
    by_cases hmx : xp < n
    · have HE' := Lib.hid (HE2.out (by rw [Nat.max_eq_right (by omega)]; intro e; injection e; omega))
      rw [Nat.max_eq_right (by omega)] at HE'
      have hq := vt_neq_diff ⟨n, xb, xs⟩ ⟨xp, xb, xs⟩ (by intro e; injection e; omega)
      rw [show encVt ⟨xp, xb, xs⟩ = .agg #[.int .u64 (xp : Int), .int .u64 (xb : Int), .string xs] from rfl, show encVt ⟨n, xb, xs⟩ = .agg #[.int .u64 (n : Int), .int .u64 (xb : Int), .string xs] from rfl] at hq
      have HK' := Lib.hid (fun W hW => HK.out ⟨n, xb, xs⟩ W hW)
      clear HE HE2 HK hNc
      go_wp2_with (go_at_call 24; (with_reducible refine (HK'.out _ (HNc.out.below ((Below.refl _ _).alloc (Nat.le_refl _) _))).mono ?_); rintro e w7 ⟨rfl, hN7, hT7⟩)
      go_ret
      exact ⟨rfl, ⟨_, by rw [HE'.out], hN7⟩, (Turn.of_below (HB4.out.alloc HB4.out.size _) HN.out.lt).trans hT7⟩
    · have HE' := Lib.hid (HE.out (by rw [Nat.max_eq_left (by omega)]))
      have hq := vt_neq_same ⟨xp, xb, xs⟩
      rw [show encVt ⟨xp, xb, xs⟩ = .agg #[.int .u64 (xp : Int), .int .u64 (xb : Int), .string xs] from rfl] at hq
      clear HE HE2 HK hNc
      go_wp2
      go_ret
      exact ⟨rfl, ⟨_, by rw [HE'.out], (HNc.out.below ((Below.refl _ _).alloc (Nat.le_refl _) _)).up (by omega)⟩, Turn.of_below (HB4.out.alloc HB4.out.size _) HN.out.lt⟩
end Go.Proofs.Ytlboeaapmfpipaa
namespace Go.Proofs.Ytlboeaapmfpipaa
open Go.RowKit Go.Shelf Ros
theorem replayN_any (r : ByteArray) (hr : r.size ≤ 140737488355328) (w : World) (S : Nat → Prop) (g c : Nat) (s : Nd) (h : NdA w S g s c) (hc : c ≤ 1000000) (hlen : s.len ≤ 10000) :
    Calls Try.prog 18 #[.pointer (some ⟨g, 0, none⟩), .string r] w fun e w' => e = .returned (.int .i64 (nreplay s r).1) ∧ NdA w' S g (nreplay s r).2 (c + 1) ∧ Turn S S w w' := by
  cases hn : nread r with
  | none =>
    rw [nreplay_none hn]
    exact (replayN_none r hr w g hn).mono fun e w' ⟨h1, h2⟩ => ⟨h1, (h.below h2).up (by omega), .of_below h2 h.lt⟩
  | some t =>
    obtain ⟨hi, hv, hk⟩ := nread_ok hn
    by_cases hk1 : t.kind = 100
    · rw [nreplay_dec hn hk1]
      exact replayN_dec r hr w S g c s h hc hlen t hn hk1
    · by_cases hg : t.inst ≤ s.gone
      · rw [nreplay_gone hn hk1 hg]
        exact (replayN_gone r hr w S g c s h t hn hk1 hg).mono fun e w' ⟨h1, h2⟩ => ⟨h1, (h.below h2).up (by omega), .of_below h2 h.lt⟩
      · have h0 : (nreplay s r).1 = 0 := by
          by_cases hs : raiseV (s.vote t.inst) t = s.vote t.inst
          · rw [nreplay_same hn hk1 hg hs]
          · rw [nreplay_vote hn hk1 hg hs]
        rw [h0]
        have fin : ∀ e w', (e = Ending.returned (.int .i64 0) ∧ (∃ s', s' = (nreplay s r).2 ∧ NdA w' S g s' (c + 1)) ∧ Turn S S w w') → (e = Ending.returned (.int .i64 0) ∧ NdA w' S g (nreplay s r).2 (c + 1) ∧ Turn S S w w') := by
          rintro e w' ⟨h1, ⟨s', rfl, h2⟩, h3⟩; exact ⟨h1, h2, h3⟩
        rcases hk with hk | ⟨hk | hk, _⟩
        · exact absurd hk hk1
        · exact (replayN_prom r hr w S g c s h hc t hn hk1 hg hi.2 hk).mono fin
        · by_cases hb : (s.vote t.inst).b ≤ t.number
          · exact (replayN_vote r hr w S g c s h hc t hn hk1 hg hi.2 ⟨hk, hb⟩).mono fin
          · exact (replayN_low r hr w S g c s h hc t hn hk1 hg hi.2 ⟨hk, by omega⟩).mono fin
end Go.Proofs.Ytlboeaapmfpipaa
