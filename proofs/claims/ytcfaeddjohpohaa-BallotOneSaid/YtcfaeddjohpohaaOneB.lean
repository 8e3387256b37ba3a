/-
  BallotOne: the walk. Conditions: the acts are as their type allows.
-/
import Derived.Test.YtcfaeddjohpohaaOneR
import Derived.Test.YtcfaeddjohpohaaBalL
import Derived.Deep.CutBlock
import Derived.Deep.DeepCutAuto
namespace Go.Proofs.Ytcfaeddjohpohaa
open Go.RowKit Go.Shelf Ros
attribute [local go_sem] Oper.semAt_some
set_option linter.unusedVariables false
theorem own_cells {b : Nat} (h : b ≤ 40) : #[Value.int .u8 (64 + (b : Int))] = cellsOf [UInt8.ofNat (64 + b)] := by
  have e : ((UInt8.ofNat (64 + b)).toNat : Int) = 64 + (b : Int) := by
    rw [UInt8.toNat_ofNat']
    omega
  rw [← e]
  rfl
theorem own_conv {b : Nat} (h : b ≤ 40) (W : World) : (convert 55 9 (.slice (some ⟨W.heap.size, 0, none⟩) 1 1)).run Try.prog (W.alloc (.cells #[Value.int .u8 (64 + (b : Int))] 5)) = .ok (.string ⟨#[UInt8.ofNat (64 + b)]⟩) (W.alloc (.cells #[Value.int .u8 (64 + (b : Int))] 5)) :=
  run_convert_bytes_back (P := Try.prog) (W.alloc (.cells #[Value.int .u8 (64 + (b : Int))] 5)) 55 9 5 ⟨W.heap.size, 0, none⟩ 1 [UInt8.ofNat (64 + b)] Try.underlying55 Try.underlying5 Try.underlying9 (cells_new (own_cells h))
theorem own_append (b : Nat) : (⟨#[111, 119, 110]⟩ : ByteArray) ++ ⟨#[64 + UInt8.ofNat b]⟩ = ownN b := by
  have e : 64 + UInt8.ofNat b = UInt8.ofNat (64 + b) := by rw [UInt8.ofNat_add]; rfl
  rw [e]
  apply ByteArray.ext
  rfl
set_option maxRecDepth 100000 in
set_option maxHeartbeats 8000000 in
theorem ballotOne_walk (n : Int) (A : Option Addr) (m c : Nat) (xs : List Ac8) (w : World) (ha : ArgAt w 3 A m (xs.flatMap cellsA)) (hx : ∀ x ∈ xs, x.ok) (hm : xs.length = m) (hn1 : -9223372036854775808 ≤ n) (hn2 : n ≤ 9223372036854775807) :
    Calls Try.prog 8 #[.int .i64 n, .slice A m c] w fun e w' => e = .returned (.bool true) ∧ Below w.heap.size w w' := by
  by_cases hlo : n < 1
  · clear ha
    go_enter Try.func8, Try.ntmps8
    go_wp2_with (go_at_call 10; (with_reducible refine (shown_any _).mono ?_); rintro e w1 ⟨rfl, b1⟩)
    go_ret
    exact ⟨rfl, b1⟩
  by_cases hhi : 16 < n
  · clear ha
    go_enter Try.func8, Try.ntmps8
    go_wp2_with (go_at_call 10; (with_reducible refine (shown_any _).mono ?_); rintro e w1 ⟨rfl, b1⟩)
    go_ret
    exact ⟨rfl, b1⟩
  obtain ⟨nn, rfl⟩ := Int.eq_ofNat_of_zero_le (show 0 ≤ n by omega)
  have hN1 : 1 ≤ nn := by omega
  have hN16 : nn ≤ 16 := by omega
  have hmk := made_acc nn hN1 hN16
  obtain ⟨Z, hzr, hZ⟩ := zero_races
  have HZ := Lib.hid hZ
  have HA := Lib.hid ha
  have HX := Lib.hid hx
  clear ha hZ hx
  generalize hZa : (cellsVs (List.replicate nn vt0)).toArray = Za at *
  go_enter Try.func8, Try.ntmps8
  go_wp2_with (go_at_call 10; (with_reducible refine (shown_any _).mono ?_); rintro e w1 ⟨rfl, b1⟩; have B1 := Lib.hid b1; clear b1)
  have HSZ := Lib.hid (show ((w1.alloc (.cells Za 24)).alloc (.cells Z 51)).heap.size = w1.heap.size + 2 by simp only [World.size_alloc])
  have H0 := Lib.hid (show OneS w ((w1.alloc (.cells Za 24)).alloc (.cells Z 51)) w1.heap.size (w1.heap.size + 1) (w1.heap.size + 2) nn (List.replicate nn vt0) (fun _ => race0) (fun _ => .slice none 0 0) from by
    refine ⟨⟨by rw [cellsVs, flat_length cellsV_length, List.length_replicate], .inr ⟨_, nn, Za, rfl, obj_alloc (World.alloc_heap_new w1 _) _, Nat.le_refl _, by unfold maxLen; omega, ?_, ?_⟩⟩, ?_, (B1.out.alloc B1.out.size _).alloc (B1.out.alloc B1.out.size _).size _, by omega, by omega, by rw [HSZ.out]; exact Nat.le_refl _⟩
    · rw [← hZa, List.size_toArray, cellsVs, flat_length cellsV_length, List.length_replicate]
      exact Nat.le_refl _
    · rw [← hZa, List.take_of_length_le (by rw [cellsVs, flat_length cellsV_length, List.length_replicate]; exact Nat.le_refl _)]
    · exact RcAt.start HZ.out (new2 w1 _ _))
  clear hmk hzr
  have hgw := B1.out.size
  generalize w1.heap.size = g at *
  go_loopw [8, 9, 10] (fun f so i wr => ∃ (k : Nat) (acc : List Vt) (R : Nat → Ros.Race) (sv : Nat → Value) (first : ByteArray) (some_ : Bool), k ≤ 300 ∧ k ≤ m ∧ i = .int .i64 (k : Int) ∧ f = .string first ∧ so = .bool some_ ∧ One nn acc R first some_ ∧ OneS w wr g (g + 1) wr.heap.size nn acc R sv) (fun _ _ i _ => 300 - (intOf i).toNat)
  case atStart => exact ⟨0, _, _, _, _, _, by omega, by omega, by go_num, rfl, rfl, one_start nn, by rw [HSZ.out]; exact H0.out⟩
  case round =>
    obtain ⟨k, acc, R, sv, first, so, hk, hkm, rfl, rfl, rfl, hone, hS⟩ := hrel
    by_cases hlt : k < m ∧ k < 300
    · obtain ⟨hl1, hl2⟩ := hlt
      obtain ⟨a, x, rfl, hal, hxm, c0, c1, c2⟩ := act8 (HA.out.below hS.below) hm k hl1
      have hox := HX.out x hxm
      have HS := Lib.hid hS
      have HO := Lib.hid hone
      clear hS hone
      have q1 : (k : Int) < (m : Int) := by omega
      have q2 : (k : Int) < 300 := by omega
      obtain ⟨bb, hbe, hb1, hb40⟩ := act_b x.b
      obtain ⟨at_, hae, han, hae2⟩ := act_a x.a nn hN1 hN16
      have hdd := act_d x.d
      go_upto_region 13 with fail
      simp only [hbe, hae2]
      clear c1 c2 hbe hae hae2
      have HL := Lib.hid (HS.out.rc.rng bb (by omega))
      have HLL := Lib.hid (cellsRace_length (v := sv bb) (HS.out.rc.has bb (by omega)))
      have HL1 := Lib.hid (all_oneCell_toArray (cellsRace_one (v := sv bb) (by obtain ⟨A, c, e⟩ := (HS.out.rc.by_ bb (by omega)).form; rw [e]; rfl) (R bb)))
      have HM := Lib.hid (MidS.start (b := bb) (C0 := cellsRace (.slice none 0 0) race0) HS.out (by omega) rfl)
      have hc0 := c0
      have HC0 := Lib.hid (fun (V : World) (h : ∀ k, k < wr.heap.size → V.heap[k]? = wr.heap[k]?) => (show V.cell? (a.add (k * 3)) = some (.int .i64 x.d) from by rw [← hc0]; unfold World.cell?; rw [h _ (by rw [add_block]; exact hal)]))
      clear hc0 c0
      generalize hCd : cellsRace (sv bb) (R bb) = C at *
      go_upto_region 14 with (first
        | (refine wpList_load_mid rfl 50 (.tmp 63) rfl (g + 1) (bb * 19) ?hx1 C _ HL.out Try.underlying50 rfl (by rw [HLL.out]; exact race_size) ?_; (case hx1 => rfl))
        | (refine wpList_store_mid rfl 50 (.tmp 13) (.tmp 64) rfl wr.heap.size 0 C.toArray ?hx2 ?hy2 (box_there (World.alloc_heap_new wr _) (by rw [List.size_toArray, HLL.out]; exact Nat.le_refl _)) (by rw [List.size_toArray, HLL.out]; exact race_size) HL1.out ?_; (case hx2 => rfl); (case hy2 => rfl)))
      have HM1 := Lib.hid (show MidS w ((wr.alloc (.cells #[.slice none 0 0, .bool false, .bool false, .bool false, .bool false, .bool false, .bool false, .bool false, .bool false, .bool false, .bool false, .bool false, .bool false, .bool false, .bool false, .bool false, .bool false, .string ⟨#[]⟩, .bool false] 50)).setCells wr.heap.size 0 C) g (g + 1) wr.heap.size nn acc R sv (sv bb) (R bb) from HM.out)
      have c0 := HC0.out ((wr.alloc (.cells #[.slice none 0 0, .bool false, .bool false, .bool false, .bool false, .bool false, .bool false, .bool false, .bool false, .bool false, .bool false, .bool false, .bool false, .bool false, .bool false, .bool false, .bool false, .string ⟨#[]⟩, .bool false] 50)).setCells wr.heap.size 0 C) (fun k hk => (setCells_far _ _ _ _ k (by omega)).trans (Below.heap_alloc wr _ k hk))
      generalize ((wr.alloc (.cells #[.slice none 0 0, .bool false, .bool false, .bool false, .bool false, .bool false, .bool false, .bool false, .bool false, .bool false, .bool false, .bool false, .bool false, .bool false, .bool false, .bool false, .bool false, .string ⟨#[]⟩, .bool false] 50)).setCells wr.heap.size 0 C) = W1 at *
      clear HM HC0 HL HLL HL1
      simp only [Act.put]
      go_upto_block 2 with fail
      have hwg : w.heap.size ≤ g := Nat.le_trans (Nat.le_refl _) hgw
      go_cut [] from 71 to 161 (fun wx => ∃ (acc' : List Vt) (v' : Value) (r' : Ros.Race), MidS w wx g (g + 1) wr.heap.size nn acc' R sv v' r' ∧ One nn acc' (updR R bb r') first so)
      case first =>
        have hwb := wrap_u64b hb40
        have hlen := HO.out.right.1
        obtain ⟨y, hy⟩ : ∃ y, acc[at_]? = some y := ⟨_, List.getElem?_eq_getElem (by omega)⟩
        obtain ⟨hyr, hyp⟩ := HO.out.right.2.2 _ _ hy
        have hyo : y.ok := by
          obtain ⟨h3, _, h4⟩ := (rightB_iff _).1 hyr
          exact ⟨by omega, by omega, by omega⟩
        obtain ⟨a0, a1, a2, f0, f1, f2, ag⟩ := HM1.out.vote hy
        clear c0 hCd hal hox
        rcases hdd with hd | hd | hd
        · have HP := Lib.hid (fun W => prom_any y bb W hyo (by omega))
          have HY := Lib.hid hy
          by_cases hlow : bb ≤ y.p
          · rw [mprom_low ⟨hyr, hb1⟩ hlow] at HP
            clear hy hyr hyp hyo
            go_wp2_with (go_at_call 12; (with_reducible refine (HP.out _).mono ?_); rintro e w2 ⟨rfl, b2⟩; have M2 := Lib.hid ((HM1.out.on b2).on ((Below.refl _ w2).alloc (Nat.le_refl _) (.cells #[.int .u64 0, .int .u64 0, .string ⟨#[]⟩] 24))); clear b2)
            go_meet
            exact ⟨acc, sv bb, R bb, M2.out, by rw [updR_self]; exact HO.out⟩
          · rw [mprom_yes ⟨hyr, hb1⟩ (by omega)] at HP
            have HC := Lib.hid (HO.out.promise hy hb40 (by omega))
            have hplt : y.p < bb := by omega
            have hgB : ¬ (wr.heap.size = g) := by have := HM1.out.s.lt1; have := HM1.out.s.lt2; omega
            have hgB2 : ¬ (g = wr.heap.size) := by omega
            go_upto_region 19 with (go_at_call 12; (with_reducible refine (HP.out _).mono ?_); rintro e w2 ⟨rfl, b2⟩; have M2 := Lib.hid ((HM1.out.on b2).on ((Below.refl _ w2).alloc (Nat.le_refl _) (.cells #[.int .u64 (bb : Int), .int .u64 (y.b : Int), .string y.s] 24))); obtain ⟨x0, x1, x2, y0, y1, y2, yg⟩ := M2.out.vote HY.out; have hw2 : ¬ (g = w2.heap.size) := (by have := M2.out.s.lt1; have := M2.out.s.lt2; have := b2.size; have := HM1.out.s.lt3; omega); have hbw := b2.size; have hlw := HM1.out.box; have hlw2 := obj_lt hlw; clear hlw b2)
            have M3 := Lib.hid (show MidS w ((((w2.alloc (.cells #[.int .u64 (bb : Int), .int .u64 (y.b : Int), .string y.s] 24)).setCell ⟨g, at_ * 3, none⟩ (.int .u64 (bb : Int))).setCell ⟨g, at_ * 3 + 1, none⟩ (.int .u64 (y.b : Int))).setCell ⟨g, at_ * 3 + 2, none⟩ (.string y.s)) g (g + 1) wr.heap.size nn (acc.set at_ ⟨bb, y.b, y.s⟩) R sv (sv bb) (R bb) from M2.out.accset han hlen hwg ⟨bb, y.b, y.s⟩)
            have hV3 := Lib.hid (show ((((w2.alloc (.cells #[.int .u64 (bb : Int), .int .u64 (y.b : Int), .string y.s] 24)).setCell ⟨g, at_ * 3, none⟩ (.int .u64 (bb : Int))).setCell ⟨g, at_ * 3 + 1, none⟩ (.int .u64 (y.b : Int))).setCell ⟨g, at_ * 3 + 2, none⟩ (.string y.s)).heap[w2.heap.size]? = some (.cells (cv ⟨bb, y.b, y.s⟩) 24 (0, 0)) from obj_far (obj_far (obj_far (World.alloc_heap_new w2 _) (p := ⟨g, at_ * 3, none⟩) (fun e => hw2 e.symm) _) (p := ⟨g, at_ * 3 + 1, none⟩) (fun e => hw2 e.symm) _) (p := ⟨g, at_ * 3 + 2, none⟩) (fun e => hw2 e.symm) _)
            have hvB : w2.heap.size ≠ wr.heap.size := by omega
            generalize ((((w2.alloc (.cells #[.int .u64 (bb : Int), .int .u64 (y.b : Int), .string y.s] 24)).setCell ⟨g, at_ * 3, none⟩ (.int .u64 (bb : Int))).setCell ⟨g, at_ * 3 + 1, none⟩ (.int .u64 (y.b : Int))).setCell ⟨g, at_ * 3 + 2, none⟩ (.string y.s)) = W3 at *
            clear x0 x1 x2 y0 y1 y2 M2
            obtain ⟨vA, vc, hvf⟩ := (HM1.out.by_).form
            have p18 := M3.out.cell (cellsRace_fixed M3.out.has)
            obtain ⟨hb, hhb⟩ : ∃ hb, (R bb).has[at_]? = some hb := ⟨_, List.getElem?_eq_getElem (by rw [HM1.out.has]; omega)⟩
            have p1 := M3.out.cell (cellsRace_has (v := sv bb) hhb)
            have hat16 : (at_ : Int) < 16 := by omega
            cases hfx : (R bb).fixed with
            | true =>
              rw [hfx] at p18
              go_wp2
              go_meet
              exact ⟨_, _, _, M3.out, by rw [updR_self]; exact HC.out⟩
            | false =>
              rw [hfx] at p18
              cases hb with
              | true =>
                go_wp2
                go_meet
                exact ⟨_, _, _, M3.out, by rw [updR_self]; exact HC.out⟩
              | false =>
                have pf := obj_frozen M3.out.box (1 + at_)
                have M4 := Lib.hid (M3.out.boxset (1 + at_) (.bool true) (set_has true M3.out.has (by omega)) (by show ((R bb).has.set at_ true).length = 16; rw [List.length_set]; exact M3.out.has) rfl (Nat.le_trans hwg (by have := M3.out.s.lt1; have := M3.out.s.lt2; omega)))
                have hV4 := Lib.hid (obj_far hV3.out (p := ⟨wr.heap.size, 1 + at_, none⟩) hvB (.bool true))
                go_upto_region 21 with fail
                generalize W3.setCell ⟨wr.heap.size, 1 + at_, none⟩ (.bool true) = W4 at *
                clear p18 p1 pf M3 hV3
                (try simp only [Act.put])
                have HC2 := Lib.hid (HO.out.counted ((R bb).has.set at_ true) HY.out hb40 hplt hfx)
                have byl := one_bylen HO.out hb1 hb40 hN16
                have hwB : w.heap.size ≤ wr.heap.size := Nat.le_trans hwg (by have := HM1.out.s.lt1; have := HM1.out.s.lt2; omega)
                have hbl : (R bb).by_.length ≤ 16 := byl
                have HS21 := Lib.hid (R21.mk (x := ⟨bb, y.b, y.s⟩) (l := (R bb).by_) (vA := vA) (vc := vc) M4.out.box (by rw [← hvf]; rfl) hV4.out (hvf ▸ M4.out.by_.1) hbl)
                have hB4 := obj_lt M4.out.box
                refine wp_region_any (by kernel_rfl) ?_
                change wpAny _ _ _ _ _ _ _ (World.drew _)
                refine r21_s (by exact fun c a d v w h => (by cases d <;> exact h)) HS21.out (Below.refl W4.heap.size W4).drew ?_
                intro V2 A4 c4 v103 v104 v105 v106 v107 v108 v109 v110 BL R4 hR4
                have M5 := Lib.hid ((M4.out.on BL).bynew (v2 := .slice A4 ((R bb).by_.length + 1) c4) (l2 := (R bb).by_ ++ [(⟨bb, y.b, y.s⟩ : Vt)]) (by rw [List.length_append, List.length_singleton, show cellsVs ((R bb).by_ ++ [(⟨bb, y.b, y.s⟩ : Vt)]) = cellsVs (R bb).by_ ++ cellsVs [(⟨bb, y.b, y.s⟩ : Vt)] by simp [cellsVs]]; exact R4) (fun k hk => Nat.lt_of_lt_of_le hB4 (hR4 k hk)) hwB)
                clear BL R4 hR4 HS21
                go_wp2
                go_meet
                exact ⟨_, _, ⟨(R bb).by_ ++ [(⟨bb, y.b, y.s⟩ : Vt)], (R bb).has.set at_ true, (R bb).val, false⟩, by rw [← hfx]; exact M5.out, HC2.out⟩
        · obtain ⟨vA, vc, hvf⟩ := (HM1.out.by_).form
          have q18 := HM1.out.cell (cellsRace_fixed HM1.out.has)
          have q0 := HM1.out.cell (cellsRace_by (sv bb) (R bb))
          rw [hvf] at q0
          have byl := one_bylen HO.out hb1 hb40 hN16
          clear a0 a1 a2 f0 f1 f2 ag
          go_upto_region 23 with fail
          go_cut [123] from 71 to 123 (fun c wx => wx = W1 ∧ (c = .bool false ∨ (c = .bool true ∧ (R bb).fixed = false ∧ nn < 2 * (R bb).by_.length)))
          case first =>
            cases hfx : (R bb).fixed with
            | true =>
              rw [hfx] at q18
              go_wp2
              go_meet
              exact ⟨rfl, .inl rfl⟩
            | false =>
              rw [hfx] at q18
              by_cases hen : nn < 2 * (R bb).by_.length
              · have hq2 : (nn : Int) < 2 * ((R bb).by_.length : Int) := by omega
                go_wp2
                go_meet
                exact ⟨rfl, .inr ⟨rfl, hfx, hen⟩⟩
              · have hq2 : ¬ ((nn : Int) < 2 * ((R bb).by_.length : Int)) := by omega
                go_wp2
                go_meet
                exact ⟨rfl, .inl rfl⟩
          case rest =>
            obtain ⟨rfl, hcc⟩ := hcut
            go_upto_if 123 with fail
            go_cut [] from 71 to 141 (fun wx => ∃ r' : Ros.Race, MidS w wx g (g + 1) wr.heap.size nn acc R sv (sv bb) r' ∧ One nn acc (updR R bb r') first so)
            case first =>
              rcases hcc with rfl | ⟨rfl, hfx, hen⟩
              · go_wp2
                go_meet
                exact ⟨R bb, HM1.out, by rw [updR_self]; exact HO.out⟩
              · obtain ⟨hpr, hps⟩ := HO.out.prop hN1 hN16 hb1 hb40 hen
                have HFX := Lib.hid (HO.out.fixed_ hN1 hN16 hb1 hb40 hen hfx)
                have HPR := Lib.hid (fun W (h : ArgAt W 3 vA (R bb).by_.length (cellsVs (R bb).by_)) => proposal_any nn vA vc (R bb).by_ (ownN bb) W h (by omega) (HO.out.byok hb1 hb40) (by rw [ownN_size]; decide) hn1 hn2)
                rw [hpr] at HPR
                generalize hbv : (bestV ⟨0, 0, ownN bb⟩ (R bb).by_).s = pv at *
                dsimp only at HPR
                clear hpr hbv
                have hcv1 : ([UInt8.ofNat (64 + bb)] : List UInt8).length = 1 := rfl
                have hcv := fun W : World => own_conv hb40 W
                have hap := own_append bb
                have HAR := Lib.hid (ArgAt.of_row ((hvf ▸ HM1.out.by_.1 : Row wc 24 3 (.slice vA (R bb).by_.length vc) (R bb).by_.length (cellsVs (R bb).by_)).alloc (.cells #[Value.int .u8 (64 + (bb : Int))] 5)))
                have hwB : w.heap.size ≤ wr.heap.size := Nat.le_trans hwg (by have := HM1.out.s.lt1; have := HM1.out.s.lt2; omega)
                go_upto_region 25 with (go_at_call 22; (with_reducible refine (HPR.out _ HAR.out).mono ?_); rintro e w5 ⟨rfl, b5⟩; have M5 := Lib.hid (HM1.out.on (btO ((Below.refl _ wc).alloc (Nat.le_refl _) (.cells #[Value.int .u8 (64 + (bb : Int))] 5)) b5)); clear b5 HAR)
                have p17 := M5.out.cell (cellsRace_val (v := sv bb) M5.out.has)
                have p18 := M5.out.cell (cellsRace_fixed (v := sv bb) M5.out.has)
                have fz17 := obj_frozen M5.out.box 17
                have fz18 := obj_frozen M5.out.box 18
                have M6 := Lib.hid ((M5.out.boxset 17 (.string pv) (set_val pv M5.out.has) M5.out.has rfl hwB).boxset 18 (.bool true) (set_fixed true M5.out.has) M5.out.has rfl hwB)
                clear q18 q0 hcv hap hen
                go_wp2
                go_meet
                exact ⟨⟨(R bb).by_, (R bb).has, pv, true⟩, M6.out, HFX.out⟩
            case rest =>
              obtain ⟨r', hM9, hO9⟩ := hcut
              have HM9 := Lib.hid hM9
              have HO9 := Lib.hid hO9
              clear hM9 hO9 q18 q0 hcc HM1
              cases hfx : r'.fixed with
              | false =>
                have p18 := HM9.out.cell (cellsRace_fixed (v := sv bb) HM9.out.has)
                rw [hfx] at p18
                go_wp2
                go_meet
                exact ⟨acc, sv bb, r', HM9.out, HO9.out⟩
              | true =>
                have hval := HO9.out.val hb1 hb40 (by rw [updR_at]; exact hfx)
                rw [updR_at] at hval
                obtain ⟨a0, a1, a2, f0, f1, f2, ag⟩ := HM9.out.vote hy
                have p17 := HM9.out.cell (cellsRace_val (v := sv bb) (r := r') HM9.out.has)
                have p18 := HM9.out.cell (cellsRace_fixed (v := sv bb) (r := r') HM9.out.has)
                rw [hfx] at p18
                have HCS := Lib.hid (fun W => cast_any y bb (r').val W hyo (by omega) (by omega))
                have HY := Lib.hid hy
                have HVL := Lib.hid hval
                go_upto_region 30 with fail
                have hbx := obj_lt HM9.out.box
                by_cases hle : y.p ≤ bb
                · rw [mcast_yes ⟨hyr, hb1, hval⟩ hle] at HCS
                  have HCC := Lib.hid (HO9.out.cast_ hy hb1 hb40 hle (by rw [updR_at]; exact hfx))
                  rw [updR_at] at HCC
                  go_cut [18, 19] from 71 to 155 (fun s1 s2 wx => ∃ gq : Nat, s1 = .pointer (some ⟨gq, 0, none⟩) ∧ s2 = .int .i64 0 ∧ Vb wx [(gq, (⟨bb, bb, (r').val⟩ : Vt))] ∧ MidS w wx g (g + 1) wr.heap.size nn acc R sv (sv bb) (r') ∧ wr.heap.size < gq)
                  case first =>
                    go_region_law ((first
                      | (go_simp; go_at_call 14; ((with_reducible refine (HCS.out wc.drew).mono ?_); rintro e w5 ⟨rfl, b5⟩; have e6 := b5.size))
                      | (go_simp; go_at_call 14; ((with_reducible refine (HCS.out (wc.alloc (.cells #[.int .u64 0, .int .u64 0, .string ⟨#[]⟩] 24)).drew).mono ?_); rintro e w5 ⟨rfl, b5⟩; obtain ⟨e0, e1, e2, e3, e4, e5, e6⟩ := fill_cells (W := wc) b5; have T := trivial))))
                    all_goals first
                      | (have V7 := Lib.hid (Vb.fill (W := wc) (l := []) (fun p hp => by cases hp) b5 (⟨bb, bb, (r').val⟩ : Vt))
                         have M7 := Lib.hid (HM9.out.on (fill_below (Below.refl _ wc) b5 (⟨bb, bb, (r').val⟩ : Vt)))
                         clear b5 e0 e1 e2 e3 e4 e5 e6 T
                         go_wp2_with fail
                         go_meet
                         exact ⟨_, rfl, rfl, V7.out, M7.out, hbx⟩)
                      | (have V7 := Lib.hid ((Vb.below (W := wc.drew) (l := []) (fun p hp => by cases hp) b5).new (⟨bb, bb, (r').val⟩ : Vt))
                         have hb7 := btO ((Below.refl wc.heap.size wc).drew) b5
                         have M7 := Lib.hid (HM9.out.on (Below.alloc hb7 hb7.size (.cells (cv (⟨bb, bb, (r').val⟩ : Vt)) 24)))
                         have hbx7 : wr.heap.size < w5.heap.size := Nat.lt_of_lt_of_le hbx hb7.size
                         clear b5
                         go_wp2_with fail
                         go_meet
                         exact ⟨_, rfl, rfl, V7.out, M7.out, hbx7⟩)
                  case rest =>
                    obtain ⟨gq, rfl, rfl, hV8, hM8, hgq⟩ := hcut
                    obtain ⟨p0, p1, p2, z0⟩ := hV8.cells (g := gq) (x := (⟨bb, bb, (r').val⟩ : Vt)) (by simp)
                    have HM8 := Lib.hid hM8
                    clear a0 a1 a2 f0 f1 f2 ag p17 p18 hM8
                    obtain ⟨x0, x1, x2, y0, y1, y2, yg⟩ := HM8.out.vote HY.out
                    have hga : ¬ (gq = g) := by have := HM8.out.s.lt1; have := HM8.out.s.lt2; omega
                    go_wp2
                    go_meet
                    exact ⟨_, _, _, HM8.out.accset han hlen hwg ⟨bb, bb, (r').val⟩, HCC.out⟩
                · rw [mcast_low ⟨hyr, hb1, hval⟩ (by omega)] at HCS
                  go_cut [18, 19] from 71 to 155 (fun s1 s2 wx => ∃ gq : Nat, s1 = .pointer (some ⟨gq, 0, none⟩) ∧ s2 = .int .i64 80 ∧ Vb wx [(gq, vt0)] ∧ MidS w wx g (g + 1) wr.heap.size nn acc R sv (sv bb) (r') ∧ wr.heap.size < gq)
                  case first =>
                    go_region_law ((first
                      | (go_simp; go_at_call 14; ((with_reducible refine (HCS.out wc.drew).mono ?_); rintro e w5 ⟨rfl, b5⟩; have e6 := b5.size))
                      | (go_simp; go_at_call 14; ((with_reducible refine (HCS.out (wc.alloc (.cells #[.int .u64 0, .int .u64 0, .string ⟨#[]⟩] 24)).drew).mono ?_); rintro e w5 ⟨rfl, b5⟩; obtain ⟨e0, e1, e2, e3, e4, e5, e6⟩ := fill_cells (W := wc) b5; have T := trivial))))
                    all_goals first
                      | (have V7 := Lib.hid (Vb.fill (W := wc) (l := []) (fun p hp => by cases hp) b5 vt0)
                         have M7 := Lib.hid (HM9.out.on (fill_below (Below.refl _ wc) b5 vt0))
                         clear b5 e0 e1 e2 e3 e4 e5 e6 T
                         go_wp2_with fail
                         go_meet
                         exact ⟨_, rfl, rfl, V7.out, M7.out, hbx⟩)
                      | (have V7 := Lib.hid ((Vb.below (W := wc.drew) (l := []) (fun p hp => by cases hp) b5).new vt0)
                         have hb7 := btO ((Below.refl wc.heap.size wc).drew) b5
                         have M7 := Lib.hid (HM9.out.on (Below.alloc hb7 hb7.size (.cells (cv vt0) 24)))
                         have hbx7 : wr.heap.size < w5.heap.size := Nat.lt_of_lt_of_le hbx hb7.size
                         clear b5
                         go_wp2_with fail
                         go_meet
                         exact ⟨_, rfl, rfl, V7.out, M7.out, hbx7⟩)
                  case rest =>
                    obtain ⟨gq, rfl, rfl, hV8, hM8, hgq⟩ := hcut
                    obtain ⟨p0, p1, p2, z0⟩ := hV8.cells (g := gq) (x := vt0) (by simp)
                    have HM8 := Lib.hid hM8
                    clear a0 a1 a2 f0 f1 f2 ag p17 p18 hM8
                    go_wp2
                    go_meet
                    exact ⟨_, _, _, HM8.out, HO9.out⟩
        · go_wp2
          go_meet
          exact ⟨acc, sv bb, R bb, HM1.out, by rw [updR_self]; exact HO.out⟩
      case rest =>
        obtain ⟨acc', v', r', hM', hone'⟩ := hcut
        have HM' := Lib.hid hM'
        have HO' := Lib.hid hone'
        have hrl := hone'.right
        have HLL := Lib.hid (cellsRace_length (v := v') hM'.has)
        have HL1 := Lib.hid (all_oneCell_toArray (cellsRace_one (by_one hM'.by_) r'))
        have HBX := Lib.hid (box_range hM'.box)
        have HTH := Lib.hid (hM'.s.rc.there (b := bb) (by omega))
        have HST := Lib.hid (hM'.store (b := bb) (by omega) (Nat.le_succ_of_le hwg))
        have hdec := hone'.decided hN1 hN16
        have HDC := Lib.hid (fun (W : World) (hi : Nat) (R2 : Nat → Ros.Race) (sv2 : Nat → Value) (h : OneS w W g (g + 1) hi nn acc' R2 sv2) => decided_any (some ⟨g, 0, none⟩) nn acc' W (by rw [hrl.1]; exact ArgAt.of_row h.acc_) (by rw [hrl.1]; unfold maxLen; omega) (fun y hy => by
          obtain ⟨j, hj, rfl⟩ := List.getElem_of_mem hy
          obtain ⟨h1, h2⟩ := hrl.2.2 j _ (List.getElem?_eq_getElem hj)
          obtain ⟨h3, _, h4⟩ := (rightB_iff _).1 h1
          exact ⟨by omega, by omega, by omega⟩))
        rw [hrl.1] at HDC
        clear hM' hone' hrl HM1 c0 HO
        generalize hCd' : cellsRace v' r' = C' at *
        rcases hdec with hd | ⟨s', hd, hsf, ho2⟩
        · rw [hd] at HDC
          go_upto_region 34 with (first
            | (refine wpList_load_mid rfl 50 (.tmp 13) rfl wr.heap.size 0 ?hx3 C' _ HBX.out Try.underlying50 rfl (by rw [HLL.out]; exact race_size) ?_; (case hx3 => rfl))
            | (refine wpList_store_mid rfl 50 (.tmp 164) (.tmp 163) rfl (g + 1) (bb * 19) C'.toArray ?hx4 ?hy4 (by rw [List.size_toArray, HLL.out]; exact HTH.out) (by rw [List.size_toArray, HLL.out]; exact race_size) HL1.out ?_; (case hx4 => rfl); (case hy4 => rfl)))
          have HS5 := Lib.hid (show OneS w (wc.setCells (g + 1) (bb * 19) C') g (g + 1) wc.heap.size nn acc' (updR R bb r') (updV sv bb v') from HST.out)
          generalize wc.setCells (g + 1) (bb * 19) C' = W5 at *
          clear HST HBX HTH HL1 HLL hCd'
          simp only [Act.put]
          go_wp2_with (go_at_call 19; (with_reducible refine (HDC.out _ _ _ _ HS5.out).mono ?_); rintro e w6 ⟨rfl, b6⟩; have S6 := Lib.hid (HS5.out.on b6); clear b6)
          go_roundw
          case rel => exact ⟨k + 1, acc', _, _, _, _, by omega, by omega, by go_num, rfl, rfl, HO'.out, S6.out.up S6.out.lt3 (Nat.le_refl _)⟩
          case measure => simp [intOf]; omega
        · rw [hd] at HDC
          have HO2 := Lib.hid ho2
          cases so with
          | false =>
            go_upto_region 34 with (first
              | (refine wpList_load_mid rfl 50 (.tmp 13) rfl wr.heap.size 0 ?hx3 C' _ HBX.out Try.underlying50 rfl (by rw [HLL.out]; exact race_size) ?_; (case hx3 => rfl))
              | (refine wpList_store_mid rfl 50 (.tmp 164) (.tmp 163) rfl (g + 1) (bb * 19) C'.toArray ?hx4 ?hy4 (by rw [List.size_toArray, HLL.out]; exact HTH.out) (by rw [List.size_toArray, HLL.out]; exact race_size) HL1.out ?_; (case hx4 => rfl); (case hy4 => rfl)))
            have HS5 := Lib.hid (show OneS w (wc.setCells (g + 1) (bb * 19) C') g (g + 1) wc.heap.size nn acc' (updR R bb r') (updV sv bb v') from HST.out)
            generalize wc.setCells (g + 1) (bb * 19) C' = W5 at *
            clear HST HBX HTH HL1 HLL hCd'
            simp only [Act.put]
            go_wp2_with (go_at_call 19; (with_reducible refine (HDC.out _ _ _ _ HS5.out).mono ?_); rintro e w6 ⟨rfl, b6⟩; have S6 := Lib.hid (HS5.out.on b6); clear b6)
            go_roundw
            case rel => exact ⟨k + 1, acc', _, _, _, _, by omega, by omega, by go_num, rfl, rfl, HO2.out, S6.out.up S6.out.lt3 (Nat.le_refl _)⟩
            case measure => simp [intOf]; omega
          | true =>
            obtain rfl := hsf rfl
            go_upto_region 34 with (first
              | (refine wpList_load_mid rfl 50 (.tmp 13) rfl wr.heap.size 0 ?hx3 C' _ HBX.out Try.underlying50 rfl (by rw [HLL.out]; exact race_size) ?_; (case hx3 => rfl))
              | (refine wpList_store_mid rfl 50 (.tmp 164) (.tmp 163) rfl (g + 1) (bb * 19) C'.toArray ?hx4 ?hy4 (by rw [List.size_toArray, HLL.out]; exact HTH.out) (by rw [List.size_toArray, HLL.out]; exact race_size) HL1.out ?_; (case hx4 => rfl); (case hy4 => rfl)))
            have HS5 := Lib.hid (show OneS w (wc.setCells (g + 1) (bb * 19) C') g (g + 1) wc.heap.size nn acc' (updR R bb r') (updV sv bb v') from HST.out)
            generalize wc.setCells (g + 1) (bb * 19) C' = W5 at *
            clear HST HBX HTH HL1 HLL hCd'
            simp only [Act.put]
            go_wp2_with (go_at_call 19; (with_reducible refine (HDC.out _ _ _ _ HS5.out).mono ?_); rintro e w6 ⟨rfl, b6⟩; have S6 := Lib.hid (HS5.out.on b6); clear b6)
            go_roundw
            case rel => exact ⟨k + 1, acc', _, _, _, _, by omega, by omega, by go_num, rfl, rfl, HO2.out, S6.out.up S6.out.lt3 (Nat.le_refl _)⟩
            case measure => simp [intOf]; omega
    · have q3 : ¬ (k < m ∧ k < 300) := hlt
      have B6 := Lib.hid hS.below
      clear hS hone
      by_cases hl1 : k < m
      · have q1 : (k : Int) < (m : Int) := by omega
        have q2 : ¬ ((k : Int) < 300) := by omega
        go_wp2
        go_ret
        exact ⟨rfl, B6.out⟩
      · have q1 : ¬ ((k : Int) < (m : Int)) := by omega
        go_wp2
        go_ret
        exact ⟨rfl, B6.out⟩
end Go.Proofs.Ytcfaeddjohpohaa
