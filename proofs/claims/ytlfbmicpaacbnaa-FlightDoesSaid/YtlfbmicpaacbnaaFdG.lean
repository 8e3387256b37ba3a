/-
  The walk of FlightDoes. Conditions: none but the arguments' own.
-/
import Derived.Test.YtlfbmicpaacbnaaFdF
namespace Go.Proofs.Ytlfbmicpaacbnaa
open Go.RowKit Go.Shelf Ros
attribute [local go_sem] Oper.semAt_some
attribute [local go_sem ↓] Go.wp_at_zero Go.wp_at_succ
theorem btt {a b c : World} (h : Below a.heap.size a b) (k : Below b.heap.size b c) : Below a.heap.size a c := h.trans (k.mono h.size)
set_option maxRecDepth 100000 in
set_option maxHeartbeats 8000000 in
theorem flightDoes_walk (A : Option Addr) (n c : Nat) (xs : List Ac) (w : World) (ha : ActsAt w A n xs) :
    Calls Try.prog 8 #[.slice A n c] w fun e w' => e = .returned (.bool true) ∧ Below w.heap.size w w' := by
  have HA := Lib.hid ha
  clear ha
  go_enter Try.func8, Try.ntmps8
  go_wp2_with (first
    | (go_at_call 10; refine (shown_any _).mono ?_; rintro e W1 ⟨rfl, h1⟩; have B1 := Lib.hid h1; clear h1)
    | (go_at_call 11; refine (new_any _).mono ?_; rintro e W2 ⟨rfl, h2, b2⟩; have F2 := Lib.hid h2; have B2 := Lib.hid b2; clear h2 b2))
  have N0 := Lib.hid (show Two w (W2.alloc (.cells #[.slice none 0 0, .int .u32 0] 55)) (fun k => k = W1.heap.size) (fun k => k = W2.heap.size) W1.heap.size W2.heap.size ⟨0, []⟩ ⟨0, []⟩ (fun _ => False) (fun _ => True) from by
    have hlt := F2.out.lt _ rfl
    exact ⟨F2.out.alloc _, ⟨_, World.alloc_heap_new W2 _, Row.nil _ _ _, fun k => by simp [Value.ownBlock]⟩, (B1.out.trans (B2.out.mono B1.out.size)).alloc (Nat.le_trans B1.out.size B2.out.size) _, fun k hk => by rw [hk]; exact B1.out.size, fun k hk => by rw [hk]; exact Nat.le_trans B1.out.size B2.out.size, fun k hk hk2 => by omega, fun _ hk => hk.elim, fun _ _ _ _ => trivial, trivial⟩)
  generalize W1.heap.size = g at *
  generalize W2.heap.size = r at *
  go_loopw [6] (fun i wr => ∃ (k : Nat) (S T : Nat → Prop) (f : Fs), k ≤ 60 ∧ k ≤ n ∧ i = .int .i64 k ∧ Gd f k ∧ Two w wr S T g r f f (fun _ => False) (fun _ => True)) (fun i _ => 60 - (intOf i).toNat)
  case atStart => exact ⟨0, _, _, ⟨0, []⟩, by omega, by omega, rfl, ⟨Nat.le_refl _, fun x hx => by simp at hx⟩, N0.out⟩
  case round =>
    obtain ⟨k, S, T, f, hk, hkn, rfl, hG, hN⟩ := hrel
    by_cases hlt : k < n ∧ k < 60
    · obtain ⟨hl1, hl2⟩ := hlt
      obtain ⟨a, x, rfl, hox, c0, c1, c2, c3, c4⟩ := act_cells HA.out (Below.refl _ w) hl1
      have hab : (a.add (k * 5)).block < w.heap.size := World.block_lt_of_cell? _ _ c0
      have HC := Lib.hid (fun (W : World) (hW : Below w.heap.size w W) => show W.cell? (a.add (k * 5)) = some (.int .i64 x.d) ∧ W.cell? ⟨(a.add (k * 5)).block, (a.add (k * 5)).off + 1, none⟩ = some (.int .i64 x.a) ∧ W.cell? ⟨(a.add (k * 5)).block, (a.add (k * 5)).off + 2, none⟩ = some (.int .i64 x.b) ∧ W.cell? ⟨(a.add (k * 5)).block, (a.add (k * 5)).off + 3, none⟩ = some (.int .u32 (x.m : Int)) ∧ W.cell? ⟨(a.add (k * 5)).block, (a.add (k * 5)).off + 4, none⟩ = some (.string x.s) from
        ⟨(hW.cell (p := a.add (k * 5)) hab).trans c0, (hW.cell (p := ⟨(a.add (k * 5)).block, (a.add (k * 5)).off + 1, none⟩) hab).trans c1, (hW.cell (p := ⟨(a.add (k * 5)).block, (a.add (k * 5)).off + 2, none⟩) hab).trans c2, (hW.cell (p := ⟨(a.add (k * 5)).block, (a.add (k * 5)).off + 3, none⟩) hab).trans c3, (hW.cell (p := ⟨(a.add (k * 5)).block, (a.add (k * 5)).off + 4, none⟩) hab).trans c4⟩)
      clear c0 c1 c2 c3 c4
      obtain ⟨c0, c1, c2, c3, c4⟩ := HC.out _ hN.below
      have HD := Lib.hid (did_any w wr S T g r k f x hN hG (by omega) hox)
      have HG2 := Lib.hid (Gd.did hG x)
      clear hN hG hox hab
      generalize mdid f x = f' at *
      go_wp2_with (go_at_call 21; (with_reducible refine HD.out.mono ?_); rintro e w5 ⟨rfl, S5, T5, h5⟩; have N5 := Lib.hid h5; clear h5)
      obtain ⟨v, hrg, hrr, _⟩ := N5.out.rf
      obtain ⟨A2, cp2, rfl, _, _⟩ := hrr.form
      have HRR := Lib.hid hrr
      have HK := Lib.hid (fun (W : World) (hb : Below w5.heap.size w5 W) => show W.cell? ⟨r, 0, none⟩ = some (.slice A2 f'.l.length cp2) ∧ W.cell? ⟨(a.add (k * 5)).block, (a.add (k * 5)).off + 1, none⟩ = some (.int .i64 x.a) from
        ⟨cell_row (obj_below hrg hb (obj_lt hrg)) 0, (HC.out _ (N5.out.below.trans (hb.mono N5.out.below.size))).2.1⟩)
      obtain ⟨p0, p1⟩ := HK.out _ (Below.refl _ _)
      have hlen := HG2.out.len
      have HAL := Lib.hid (fun W (hW : Two w W S5 T5 g r f' f' (fun _ => False) (fun _ => True)) => all_any S5 g f'.n f'.l W hW.fl (by omega))
      have HSA := Lib.hid (fun (A6 : Option Addr) (c6 : Nat) (W : World) (h6 : Row W 35 3 (.slice A6 f'.l.length c6) f'.l.length (cellsNs f'.l)) (hb : Below w5.heap.size w5 W) => nsame_any A6 A2 c6 cp2 f'.l W h6 (HRR.out.below hb (Nat.le_refl _)) (by omega))
      have HO := Lib.hid (fun W (hW : Two w W S5 T5 g r f' f' (fun _ => False) (fun _ => True)) => oldest_any S5 g f'.n f'.l x.a W hW.fl (by omega))
      have HRO := Lib.hid (fun W (hW : Two w W S5 T5 g r f' f' (fun _ => False) (fun _ => True)) => rold_any T5 r f'.n f'.l x.a W hW.rf (by omega))
      have hkl : k < n := hl1
      clear hrg hrr c0 c1 c2 c3 c4
      generalize mold f'.l x.a = mo at *
      go_region_held3 (fun w' => w'.cell? ⟨r, 0, none⟩ = some (.slice A2 f'.l.length cp2) ∧ w'.cell? ⟨(a.add (k * 5)).block, (a.add (k * 5)).off + 1, none⟩ = some (.int .i64 x.a)) (first | exact HK.out _ h3 | go_keep) ((first
        | (go_simp; go_at_call 13; (with_reducible refine (HAL.out _ N5.out.drew).mono ?_); rintro e w6 ⟨v6, rfl, hr6, _, b6⟩; obtain ⟨A6, c6, rfl, _, _⟩ := hr6.form; have R6 := Lib.hid hr6; have h3 := btt (Below.refl _ w5).drew b6; have B6 := Lib.hid h3)
        | (go_simp; go_at_call 18; (with_reducible refine (HSA.out A6 c6 _ R6.out B6.out).mono ?_); rintro e w7 ⟨rfl, b7⟩; have h3 := btt B6.out b7; have B7 := Lib.hid h3)
        | (go_simp; go_at_call 19; (with_reducible refine (HO.out _ (N5.out.on B7.out)).mono ?_); rintro e w8 ⟨rfl, b8⟩; have h3 := btt B7.out b8; have B8 := Lib.hid h3)
        | (go_simp; go_at_call 22; (with_reducible refine (HRO.out _ (N5.out.on B8.out)).mono ?_); rintro e w9 ⟨rfl, rfl⟩; have h3 := B8.out)))
      go_wp2
      go_roundw
      case rel => exact ⟨k + 1, S5, T5, f', by omega, by omega, by go_num, HG2.out, N5.out.on B8.out⟩
      case measure => simp [intOf]; omega
    · have hB := hN.below
      by_cases hl : k < n
      · have hl2 : 60 ≤ k := by omega
        go_wp2
        go_ret
        exact ⟨rfl, hB⟩
      · go_wp2
        go_ret
        exact ⟨rfl, hB⟩
end Go.Proofs.Ytlfbmicpaacbnaa
