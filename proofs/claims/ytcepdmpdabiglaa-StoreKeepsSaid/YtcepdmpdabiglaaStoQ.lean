/-
  The laws of store, walked: StoreCuts. Conditions: none but the arguments' own.
-/
import Derived.Test.YtcepdmpdabiglaaStoN
namespace Ros
open Go Go.RowKit
def cutSt (ds : List (List UInt8)) (q : Nat) : St := { St.of ds ⟨#[]⟩ with cut := true, keep := q }
def downSt (ds : List (List UInt8)) (x : ByteArray) (q : Nat) : St := { St.of ds ⟨#[]⟩ with log := recs ds ++ (recL (bl x)).take (min q (x.size + 9)), cut := false, keep := 0, down := true }
def leftDs (ds : List (List UInt8)) (x : ByteArray) (q : Nat) : List (List UInt8) := if x.size + 9 ≤ q then ds ++ [bl x] else ds
theorem cut_write (ds : List (List UInt8)) (x : ByteArray) (q : Nat) (hx : x.size ≤ 100) (hl : (recs ds).length ≤ 5000) : swrite (cutSt ds q) x = (31, downSt ds x q) := by
  refine swrite_cut (s := cutSt ds q) rfl ⟨by omega, ?_⟩ rfl
  show (((recs ds).length + 0 : Nat) : Int) + ((x.size : Int) + 9) ≤ 1048576
  omega
theorem down_rec (ds : List (List UInt8)) (x : ByteArray) (q : Nat) (hx : x.size ≤ 100) (h : ∀ d ∈ ds, d.length ≤ 4096) : (readL (downSt ds x q).log).1 = leftDs ds x q ∧ srec (downSt ds x q) = St.of (leftDs ds x q) ⟨#[]⟩ := by
  have hxl : (bl x).length ≤ 4096 := by rw [← size_bl]; omega
  have hlog : (downSt ds x q).log = recs ds ++ (recL (bl x)).take (min q (x.size + 9)) := rfl
  by_cases hq : x.size + 9 ≤ q
  · have hl : leftDs ds x q = ds ++ [bl x] := if_pos hq
    have hall : (downSt ds x q).log = recs (ds ++ [bl x]) := by
      rw [hlog, Nat.min_eq_right hq, List.take_of_length_le (by rw [recL_length, ← size_bl]; exact Nat.le_refl _), recs_snoc]
    have h' : ∀ d ∈ ds ++ [bl x], d.length ≤ 4096 := fun d hd => by
      rcases List.mem_append.1 hd with h1 | h1
      · exact h d h1
      · rw [List.mem_singleton.1 h1]; exact hxl
    refine ⟨by rw [hall, read_recs' _ h', hl], ?_⟩
    rw [srec_recs _ _ h' hall, hl]
    show ({ (downSt ds x q) with cut := false, keep := 0, down := false } : St) = { St.of (ds ++ [bl x]) ⟨#[]⟩ with log := recs (ds ++ [bl x]) }
    rw [← hall]; rfl
  · have hl : leftDs ds x q = ds := if_neg hq
    have h0 := one_cut (bl x) [] (min q (x.size + 9)) hxl (by rw [← size_bl]; omega)
    rw [List.append_nil] at h0
    have hr : readL (downSt ds x q).log = (ds, (recs ds).length) := by rw [hlog, read_recs ds _ h, readL_zero h0]; simp
    refine ⟨by rw [hr, hl], ?_⟩
    unfold srec
    rw [hr, hl, hlog, List.take_left' rfl]
    rfl
theorem down_len (ds : List (List UInt8)) (x : ByteArray) (q : Nat) (hx : x.size ≤ 100) (hl : (recs ds).length ≤ 5000) : (downSt ds x q).log.length ≤ 6000 := by
  show (recs ds ++ (recL (bl x)).take (min q (x.size + 9))).length ≤ 6000
  rw [List.length_append, List.length_take, recL_length, ← size_bl]; omega
theorem left_yes {ds : List (List UInt8)} {x : ByteArray} {q : Nat} (h : x.size + 9 ≤ q) : leftDs ds x q = ds ++ [bl x] := if_pos h
theorem left_no {ds : List (List UInt8)} {x : ByteArray} {q : Nat} (h : ¬ x.size + 9 ≤ q) : leftDs ds x q = ds := if_neg h
theorem left_len (ds : List (List UInt8)) (x : ByteArray) (q : Nat) (hx : x.size ≤ 100) (hl : (recs ds).length ≤ 5000) : (recs (leftDs ds x q)).length ≤ 6000 := by
  unfold leftDs
  split
  · rw [recs_snoc, List.length_append, recL_length, ← size_bl]; omega
  · omega
theorem left_le (ds : List (List UInt8)) (x : ByteArray) (q : Nat) (hd : ds.length ≤ 20) : (leftDs ds x q).length ≤ 21 := by
  unfold leftDs
  split
  · rw [List.length_append, List.length_singleton]; omega
  · omega
end Ros
namespace Go.Proofs.Ytcepdmpdabiglaa
open Go.RowKit Go.Shelf Ros
attribute [local go_sem] Oper.semAt_some
attribute [local go_sem ↓] Go.wp_at_zero Go.wp_at_succ
set_option linter.unusedVariables false

/-- A text's first hundred bytes, as a slice. -/
theorem slice100 {P : Program} {t : TypeId} (ht : P.underlying t = some .string) (x : ByteArray) :
    (((100 : Int) < (x.size : Int)) = False ∧ ∀ W : World, (Instr.slice t (.string x) none (some (.int .i64 (x.size : Int))) none).run P W = .ok (.string (cutB 100 x)) W) ∨
    (((100 : Int) < (x.size : Int)) = True ∧ ∀ W : World, (Instr.slice t (.string x) none (some (.int .i64 100)) none).run P W = .ok (.string (cutB 100 x)) W) := by
  by_cases h : (x.size : Int) ≤ 100
  · refine .inl ⟨eq_false (by omega), fun W => ?_⟩
    have hxx : x.extract 0 x.size = cutB 100 x := by rw [cutB_short 100 x (by omega)]; apply bl_inj; rw [bl_extract0, size_bl, List.take_length]
    rw [← hxx]; exact sl_h ht x x.size (Nat.le_refl _) (x.size : Int) rfl W
  · refine .inr ⟨eq_true (by omega), fun W => ?_⟩
    rw [cutB_long 100 x (by omega)]; exact sl_h ht x 100 (by omega) 100 rfl W
section
variable {w0 W W' : World} {S S' : Nat → Prop} {g n n' : Nat} {s s' : St} {v v' : Value} {xs xs' : List Value}
theorem both_grown (h : StAt w0 W S g s) (hb : Beside w0 W S v n xs) (hr : Row W' 9 1 v' n' xs') (hg : W.grownBy W' v.ownBlock) (ha : v'.ownBlock = v.ownBlock ∨ v'.ownBlock = some W.heap.size) : StAt w0 W' S g s ∧ Beside w0 W' S v' n' xs' := by
  have hlt := h.1.lt
  refine ⟨⟨h.1.keep fun k hk => hg.block k (hlt k hk) fun e => (hb.2 k e.symm).1 hk, h.2.1.grown hg h.2.1.size fun k hk => (hb.2 k hk).2, h.2.2⟩, hr, fun k hk => ?_⟩
  rcases ha with e | e
  · exact hb.2 k (e ▸ hk)
  · rw [e] at hk
    have hk' : W.heap.size = k := by simpa using hk
    subst hk'
    exact ⟨fun hs => by have := hlt _ hs; omega, h.2.1.size⟩
theorem re_law2 (h : StAt w0 W S g s) (hl : s.log.length ≤ 2000000) (hn : s.snap.size ≤ 2000000) :
    Calls Try.prog 12 #[.pointer (some ⟨g, 0, none⟩)] W fun e W' => ∃ A c, e = .returned (.tuple #[.string (snapD s.snap), .slice A (readL s.log).1.length c, .int .i64 0]) ∧
      Beside w0 W' S (.slice A (readL s.log).1.length c) (readL s.log).1.length (cellsS (readL s.log).1) ∧ StAt w0 W' S g (srec s) ∧ Turn S S W W' ∧ ∀ k, (Value.slice A (readL s.log).1.length c).ownBlock = some k → W.heap.size ≤ k :=
  (recover_any S g s W h.1 hl hn).mono fun _ _ ⟨A, c, he, hr, ho, hf, ht⟩ => ⟨A, c, he, ⟨hr, fun k hk => ⟨fun hs => by have h1 := ho k hk; have h2 := h.1.lt k hs; omega, Nat.le_trans h.2.1.size (ho k hk)⟩⟩, h.turn hf ht, ht, ho⟩
theorem Beside.alloc (h : Beside w0 W S v n xs) (o : Obj) : Beside w0 (W.alloc o) S v n xs := h.below ((Below.refl _ W).alloc (Nat.le_refl _) o)
end

set_option maxRecDepth 100000 in
set_option maxHeartbeats 4000000 in
theorem storeCuts_walk (A : Option Addr) (n c : Nat) (xs : List ByteArray) (x0 : ByteArray) (keep : Int) (w : World) (ha : ArgAt w 1 A n (xs.map Value.string)) (hx : ∀ x ∈ xs, x.size ≤ maxLen) (hn : xs.length = n) (hx0 : x0.size ≤ maxLen) :
    Calls Try.prog 5 #[.slice A n c, .string x0, .int .i64 keep] w fun e w' => e = .returned (.bool true) ∧ Below w.heap.size w w' := by
  obtain ⟨i0, hi0, hz0, hz1, hz2⟩ := info_parts str_info
  subst hn
  have HA := Lib.hid ha
  have hX := cutB_size 100 x0
  unfold maxLen at hx0
  clear ha
  rcases slice100 (P := Try.prog) Try.underlying9 x0 with ⟨hno, hslx⟩ | ⟨hno, hslx⟩
  all_goals
    generalize cutB 100 x0 = X at *
    go_enter Try.func5, Try.ntmps5
    go_wp2_with (first
      | (go_at_call 7; refine (sshown_any _).mono ?_; rintro e W1 ⟨rfl, h1⟩)
      | (go_at_call 8; refine (ne_law h1 1048576 (by decide) (by decide)).mono ?_; rintro e W2 ⟨rfl, h2, _⟩; replace h2 : StAt w W2 (fun k => k = W1.heap.size) W1.heap.size (St.of (txtsK xs 0) ⟨#[]⟩) := h2; generalize W1.heap.size = g at h2 ⊢))
    go_loopw [10, 11] (fun o i wr => ∃ (k : Nat) (S : Nat → Prop) (A1 : Option Addr) (c1 : Nat), k ≤ 20 ∧ k ≤ xs.length ∧ i = .int .i64 k ∧ o = .slice A1 (txtsK xs k).length c1 ∧ StAt w wr S g (St.of (txtsK xs k) ⟨#[]⟩) ∧
      Beside w wr S (.slice A1 (txtsK xs k).length c1) (txtsK xs k).length (cellsS (txtsK xs k))) (fun _ i _ => 20 - (intOf i).toNat)
    case atStart => exact ⟨0, _, none, 0, by omega, by omega, rfl, rfl, h2, Row.nil _ _ _, fun k hk => by simp [Value.ownBlock] at hk⟩
    case round =>
      obtain ⟨k, S, A1, c1, hk, hkn, rfl, rfl, hL, hB⟩ := hrel
      clear h2
      by_cases hlt : k < xs.length ∧ k < 20
      · obtain ⟨hl1, hl2⟩ := hlt
        obtain ⟨a, hlx, rfl, _, c0⟩ := (HA.out.below hL.2.1).one k hl1
        have hsz := hx xs[k] (List.getElem_mem hl1)
        have hsw := swrite_txt xs k hl1 hl2
        have HW := Lib.hid (fun (W : World) (h : StAt w W S g (St.of (txtsK xs k) ⟨#[]⟩)) => wr_law h (cutB 100 xs[k]) (Nat.le_trans (cutB_size _ _) (by unfold maxLen; omega)) (by rw [of_log]; have := txts20 xs k hk; omega) nil_le cap64 cap20)
        rw [hsw] at HW
        dsimp only at HW
        have HL := Lib.hid hL
        have HB := Lib.hid hB
        have HC := Lib.hid (cellsS_snoc (txtsK xs k) (txt xs[k]))
        rw [← txtsK_succ xs k hl1] at HC
        have HL1 := Lib.hid (txtsK_len xs (k + 1) (by omega))
        have HL0 := Lib.hid (txtsK_len xs k (by omega))
        have HT := Lib.hid (show str (txt xs[k]) = cutB 100 xs[k] from by rw [← txt_cut, str_bl])
        rw [HT.out] at HC
        have hm1 : (txtsK xs k).length + 1 ≤ maxLen := by rw [HL0.out]; unfold maxLen; omega
        have hm2 : ((txtsK xs k).length + 1) * 16 ≤ 140737488355328 := by rw [HL0.out]; omega
        have hss := slice100 (P := Try.prog) Try.underlying9 xs[k]
        have HSS := Lib.hid hss
        clear hL hB hsw HT hss hno hslx
        generalize xs[k] = x at *
        unfold maxLen at hsz
        generalize hd : cutB 100 x = d at *
        clear hd
        generalize St.of (txtsK xs k) ⟨#[]⟩ = s1 at *
        generalize hs2 : St.of (txtsK xs (k + 1)) ⟨#[]⟩ = s2 at *
        have HS2 := Lib.hid hs2
        clear hs2
        go_upto_region 8 with fail
        go_cut [12] (fun v wx => v = .string d ∧ StAt w wx S g s1 ∧ Beside w wx S (.slice A1 (txtsK xs k).length c1) (txtsK xs k).length (cellsS (txtsK xs k)))
        case first =>
          rcases HSS.out with ⟨hno, hslx⟩ | ⟨hno, hslx⟩
          all_goals
            go_quiet (fail)
            go_wp2_with fail
            go_meet
            exact ⟨rfl, HL.out.below (below_dn (Below.refl _ _) _), HB.out.below (below_dn (Below.refl _ _) _)⟩
        case rest =>
          obtain ⟨rfl, hL, hB⟩ := hcut
          have HLc := Lib.hid hL
          have HBc := Lib.hid hB
          clear hL hB HL HB HSS
          generalize hdk : txtsK xs k = ds at *
          clear hdk
          generalize hd2 : txtsK xs (k + 1) = ds2 at *
          have HD2 := Lib.hid hd2
          clear hd2
          go_wp2_with (first
            | (go_at_call 9; refine (HW.out _ HLc.out).mono ?_; rintro e w3 ⟨rfl, S3, h3, t3⟩; have H3 := Lib.hid (h3.alloc (.cells #[.string d] 9)); have B3 := Lib.hid ((HBc.out.turn t3).alloc (.cells #[.string d] 9)))
            | (at_builtin; generalize hG : wpList _ _ _ _ _ _ = G))
          subst hG
          refine wpList_append_row _ rfl _ _ 22 22 rfl 9 i0 _ 1 16 Try.underlying22 hi0 hz0 hz1 hz2 rfl _ ds.length _ rfl B3.out.1 _ 1 [.string d] rfl (Src.ofSlice _ Try.underlying22 _ 1 1 _ rfl (cell_one_new _ _ _) (by simp [Value.oneCell'])) hm1 hm2 ?_
          intro A2 c2 w4 hr2 hg2 hat2
          rw [← HC.out] at hr2
          have hbg := both_grown H3.out B3.out hr2 hg2 hat2
          have HBG := Lib.hid hbg
          clear hr2 hg2 hat2 hbg hm1 hm2
          go_wp2
          go_roundw
          case rel => exact ⟨k + 1, S3, A2, c2, by omega, by omega, by go_num, by rw [HD2.out, HL1.out, HL0.out], by rw [HD2.out, HS2.out]; exact HBG.out.1, by rw [HD2.out, HL1.out]; have := HBG.out.2; rw [HL0.out] at this; exact this⟩
          case measure => simp [intOf]; omega
      · have hrl := txts20 xs k hk
        have h4 : ∀ d ∈ txtsK xs k, d.length ≤ 4096 := fun d hd => Nat.le_trans (txtsK_le xs k d hd) (by omega)
        have hdl : (txtsK xs k).length ≤ 20 := by rw [txtsK_len xs k hkn]; exact hk
        have HL := Lib.hid hL
        have HB := Lib.hid hB
        clear hL hB hno hslx
        generalize txtsK xs k = ds at *
        by_cases hk0 : keep < 0
        · have HC := Lib.hid (cu_law HL.out keep)
          rw [scut_neg rfl hk0] at HC
          dsimp only at HC
          go_wp2_with (go_at_call 11; refine HC.out.mono ?_; rintro e W4 ⟨rfl, h4, _⟩)
          all_goals
            go_ret
            exact ⟨rfl, h4.2.1⟩
        · obtain ⟨q, rfl⟩ := Int.eq_ofNat_of_zero_le (show 0 ≤ keep by omega)
          obtain ⟨e1, e2⟩ := down_rec ds X q hX h4
          have hdl1 := down_len ds X q hX (by omega)
          have hdl2 := left_len ds X q hX (by omega)
          have hdl3 := left_le ds X q hdl
          have HC := Lib.hid (cu_law HL.out (q : Int))
          rw [scut_yes rfl] at HC
          dsimp only at HC
          have HW := Lib.hid (fun (W : World) (h : StAt w W S g (cutSt ds q)) => wr_law h X (by unfold maxLen; omega) (by show (recs ds).length ≤ _; omega) nil_le cap64 cap20)
          rw [cut_write ds X q hX (by omega)] at HW
          have HN := Lib.hid (fun (W : World) (S' : Nat → Prop) (h : StAt w W S' g (downSt ds X q)) => sn_law h X (by unfold maxLen; omega) cap64 cap20)
          rw [ssnap_down X (s := downSt ds X q) rfl] at HN
          have HR := Lib.hid (fun (W : World) (S' : Nat → Prop) (h : StAt w W S' g (downSt ds X q)) => re_law2 h (by omega) nil_le)
          rw [e1, e2] at HR
          have HZ := Lib.hid (fun (W : World) (S' : Nat → Prop) (h : StAt w W S' g (St.of (leftDs ds X q) ⟨#[]⟩)) => wr_law h ⟨#[122]⟩ (by decide) (by rw [of_log]; omega) nil_le cap64 cap20)
          rw [swrite_of (leftDs ds X q) ⟨#[]⟩ ⟨#[122]⟩ (by decide) (by show _ + 0 ≤ _; omega)] at HZ
          dsimp only at HW HN HR HZ
          have HS := Lib.hid (fun (A B : Option Addr) (ca cb : Nat) (W : World) ha hb => same_any A B ca cb (leftDs ds X q) (leftDs ds X q) W ha hb (by unfold maxLen; omega) (by unfold maxLen; omega))
          simp only [decide_true] at HS
          have HCN := Lib.hid (cellsS_snoc ds (bl X))
          rw [str_bl] at HCN
          have hm1 : ds.length + 1 ≤ maxLen := by unfold maxLen; omega
          have hm2 : (ds.length + 1) * 16 ≤ 140737488355328 := by omega
          have HLY := Lib.hid (fun h : X.size + 9 ≤ q => left_yes (ds := ds) h)
          have HLN := Lib.hid (fun h : ¬ X.size + 9 ≤ q => left_no (ds := ds) h)
          have HCU : Hid (∀ W, StAt w W S g { (St.of ds ⟨#[]⟩) with cut := true, keep := q } → StAt w W S g (cutSt ds q)) := Lib.hid fun W h => h
          generalize hlf : leftDs ds X q = lf at *
          have hXq : X.size ≤ 100 := hX
          clear e1 e2 hdl1 hdl2 hdl3 h4 hrl hlf
          by_cases hq : X.size + 9 ≤ q
          · have hlq := HLY.out hq
            subst hlq
            rw [List.length_append, List.length_singleton] at HS HR
            have hql : (X.size : Int) + 9 ≤ (q : Int) := by omega
            generalize downSt ds X q = s3 at *
            generalize snapD s3.snap = sd at *
            generalize St.of (ds ++ [bl X]) ⟨#[]⟩ = s4 at *
            generalize St.of ((ds ++ [bl X]) ++ [bl ⟨#[122]⟩]) ⟨#[]⟩ = s5 at *
            generalize cellsS (ds ++ [bl X]) = cs2 at *
            generalize cellsS ds = cs at *
            generalize hnd : ds.length = nd at *
            clear hnd
            have hnl : ¬ (q : Int) < (X.size : Int) + 9 := by omega
            go_wp2_with (first
              | (go_at_call 11; refine HC.out.mono ?_; rintro e W4 ⟨rfl, h4, t4⟩; replace h4 := HCU.out _ h4; have B4 := Lib.hid (HB.out.turn t4))
              | (go_at_call 9; (with_reducible refine (HW.out _ h4).mono ?_); rintro e W5 ⟨rfl, S5, h5, t5⟩; have B5 := Lib.hid (B4.out.turn t5))
              | (go_at_call 15; refine (HN.out _ _ h5).mono ?_; rintro e W6 ⟨rfl, S6, h6, t6⟩; have B6 := Lib.hid (B5.out.turn t6))
              | (go_at_call 12; refine (HR.out _ _ h6).mono ?_; rintro e W7 ⟨A7, c7, rfl, r7, h7, t7, f7⟩; have F7 := Lib.hid f7; have LT6 := Lib.hid (fun k (h : (Value.slice A1 nd c1).ownBlock = some k) => B6.out.1.lt h); have B7 := Lib.hid ((B6.out.turn t7).alloc (.cells #[.string X] 9)); have H7 := Lib.hid (h7.alloc (.cells #[.string X] 9)); have R7 := Lib.hid (r7.alloc (.cells #[.string X] 9)))
              | (at_builtin; generalize hG : wpList _ _ _ _ _ _ = G))
            all_goals
              subst hG
              refine wpList_append_row _ rfl _ _ 22 22 rfl 9 i0 _ 1 16 Try.underlying22 hi0 hz0 hz1 hz2 rfl _ nd _ rfl B7.out.1 _ 1 [.string X] rfl (Src.ofSlice _ Try.underlying22 _ 1 1 _ rfl (cell_one_new _ _ _) (by simp [Value.oneCell'])) hm1 hm2 ?_
              intro A8 c8 w8 hr8 hg8 hat8
              rw [← HCN.out] at hr8
              have H8 := Lib.hid (both_grown H7.out B7.out hr8 hg8 hat8).1
              have RA := Lib.hid (ArgAt.of_row (R7.out.1.keep fun k hk => hg8.block k (R7.out.1.lt hk) fun e => by have h1 := LT6.out k e.symm; have h2 := F7.out k hk; omega))
              have RB := Lib.hid (ArgAt.of_row hr8)
              clear hr8 hg8 hat8
              go_wp2_with (first
                | (go_at_call 13; refine (HS.out _ _ _ _ _ RA.out RB.out).mono ?_; rintro e W9 ⟨rfl, b9⟩)
                | (go_at_call 9; (with_reducible refine (HZ.out _ _ (H8.out.below b9)).mono ?_); rintro e W10 ⟨rfl, S10, h10, _⟩))
              go_ret
              exact ⟨rfl, h10.2.1⟩
          · have hlq := HLN.out hq
            subst hlq
            have hql : (q : Int) < (X.size : Int) + 9 := by omega
            generalize downSt lf X q = s3 at *
            generalize snapD s3.snap = sd at *
            generalize St.of (lf ++ [bl ⟨#[122]⟩]) ⟨#[]⟩ = s5 at *
            generalize cellsS lf = cs at *
            generalize hnd : lf.length = nd at *
            clear hnd
            go_wp2_with (first
              | (go_at_call 11; refine HC.out.mono ?_; rintro e W4 ⟨rfl, h4, t4⟩; replace h4 := HCU.out _ h4; have B4 := Lib.hid (HB.out.turn t4))
              | (go_at_call 9; (with_reducible refine (HW.out _ h4).mono ?_); rintro e W5 ⟨rfl, S5, h5, t5⟩; have B5 := Lib.hid (B4.out.turn t5))
              | (go_at_call 15; refine (HN.out _ _ h5).mono ?_; rintro e W6 ⟨rfl, S6, h6, t6⟩; have B6 := Lib.hid (B5.out.turn t6))
              | (go_at_call 12; refine (HR.out _ _ h6).mono ?_; rintro e W7 ⟨A7, c7, rfl, r7, h7, t7, f7⟩; have B7 := Lib.hid (B6.out.turn t7))
              | (go_at_call 13; refine (HS.out _ _ _ _ _ r7.arg B7.out.arg).mono ?_; rintro e W9 ⟨rfl, b9⟩)
              | (go_at_call 9; (with_reducible refine (HZ.out _ _ (h7.below b9)).mono ?_); rintro e W10 ⟨rfl, S10, h10, _⟩))
            all_goals
              go_ret
              exact ⟨rfl, h10.2.1⟩
end Go.Proofs.Ytcepdmpdabiglaa
