/-
  Right frames. Conditions: numbers are as the program's types allow.
-/
import Derived.Test.YtcbihioflmfgjaaDoorFrmA
import Derived.BigQuiet
import Derived.Deep.RegionHeld3
import Derived.Deep.QuietTactic
namespace Ros
open Go Go.RowKit
/-- A right frame. -/
def rightP (x : Fr) : Prop := isW x.wire ∧ (0 ≤ x.kind ∧ x.kind ≤ 31) ∧ x.data.size ≤ 4096 ∧ (0 ≤ x.src ∧ x.src < 16) ∧ (0 ≤ x.dst ∧ x.dst < 16) ∧ (x.wire = 2 ∨ x.hint = 0)
instance (x : Fr) : Decidable (rightP x) := by unfold rightP; exact inferInstance
instance : DecidableEq Fr := fun a b => decidable_of_iff (a.wire = b.wire ∧ a.kind = b.kind ∧ a.src = b.src ∧ a.dst = b.dst ∧ a.life = b.life ∧ a.seq = b.seq ∧ a.ack = b.ack ∧ a.hint = b.hint ∧ a.data = b.data) (by cases a; cases b; simp)
def rightB (x : Fr) : Bool := decide (rightP x)
/-- A frame with another version. -/
def turnF (x : Fr) (wire : Int) : Fr := { x with wire := wire, hint := if wire = 1 then 0 else x.hint }
end Ros
namespace Go.Proofs.YtcbihioflmfgjaaDoor
open Go.RowKit Go.Shelf Ros Go.Maps
attribute [local go_sem] Oper.semAt_some
theorem results_cellG {P : Program} {fn : Func} {p : Tmp} {ty : TypeId} (h : fn.results = #[.cell p ty]) (tmps : Array Value) (w : World) :
    (results fn tmps).run P w = ((asAddr (tmps.getD p undef)).run P w).andThen fun a w₁ => (loadVar ty a).run P w₁ := by
  simp only [results, h]
  simp [Sem.run_bind, Result.andThen]
theorem eql_fr (x y : Fr) (W : World) : (binOp .eql 24 (frV x) (frV y)).run Tryd.prog W = .ok (.bool (decide (x = y))) W := by
  unfold frV
  go_simp
  obtain ⟨x0, x1, x2, x3, x4, x5, x6, x7, x8⟩ := x
  obtain ⟨y0, y1, y2, y3, y4, y5, y6, y7, y8⟩ := y
  dsimp only
  repeat' split
  · rename_i h0 h1 h2 h3 h4 h5 h6 h7 h8
    have e8 : x8 = y8 := by
      have h9 : (x8.toList == y8.toList) = true := by rw [h8]; exact beq_self_eq_true _
      rw [beq_bl, decide_eq_true_iff] at h9
      exact h9
    obtain rfl : x4 = y4 := by omega
    obtain rfl : x5 = y5 := by omega
    obtain rfl : x6 = y6 := by omega
    obtain rfl : x7 = y7 := by omega
    subst h0 h1 h2 h3 e8
    simp
  all_goals
    rename_i hn
    rw [decide_eq_false]
    intro e
    injection e with f0 f1 f2 f3 f4 f5 f6 f7 f8
    subst f0 f1 f2 f3 f4 f5 f6 f7 f8
    exact hn rfl
set_option maxRecDepth 100000 in
set_option maxHeartbeats 1000000 in
theorem turned_any (x : Fr) (wire : Int) (w : World) : Calls Tryd.prog 28 #[frV x, .int .i64 wire] w fun e w' => e = .returned (frV (turnF x wire)) ∧ Below w.heap.size w w' := by
  unfold frV turnF
  by_cases h : wire = 1
  · subst h
    go_enter Tryd.func28, Tryd.ntmps28
    go_wp2
    refine bodyPost_ret (v := frV { x with wire := 1, hint := 0 }) ?_ rfl ⟨rfl, ?_⟩
    · rw [results_cellG rfl]
      go_simp
      rfl
    · exact ((Below.refl _ w).alloc (Nat.le_refl _) _).alloc (by simp) _
  · have hq : (wire == 1) = false := by rw [beq_eq_false_iff_ne]; exact h
    rw [if_neg h]
    clear h
    go_enter Tryd.func28, Tryd.ntmps28
    go_wp2
    refine bodyPost_ret (v := frV { x with wire := wire }) ?_ rfl ⟨rfl, ?_⟩
    · rw [results_cellG rfl]
      go_simp
      rfl
    · exact ((Below.refl _ w).alloc (Nat.le_refl _) _).alloc (by simp) _
theorem btL2 {a b c : World} (h : Below a.heap.size a b) (k : Below b.heap.size b c) : Below a.heap.size a c := h.trans (k.mono h.size)
theorem below_bx {w w' : World} {o : Obj} (h : Below (w.alloc o).heap.size (w.alloc o) w') : Below w.heap.size w w' := ((Below.refl _ w).alloc (Nat.le_refl _) o).trans (h.mono (by simp))
set_option maxRecDepth 100000 in
set_option maxHeartbeats 2000000 in
theorem right_yes (x : Fr) (h : okF x) (hw : isW x.wire) (hk : 0 ≤ x.kind ∧ x.kind ≤ 31) (hd : x.data.size ≤ 4096) (hs : 0 ≤ x.src ∧ x.src < 16) (ht : 0 ≤ x.dst ∧ x.dst < 16) (w : World) :
    Calls Tryd.prog 15 #[frV x] w fun e w' => e = .returned (.bool (decide (x.wire = 2 ∨ x.hint = 0))) ∧ Below w.heap.size w w' := by
  have hE : agreeE x.wire x.wire = 0 := if_pos ⟨hw, hw⟩
  have HG := Lib.hid (fun W => agree_any x.wire x.wire W h.wire h.wire)
  rw [hE] at HG
  have HT := Lib.hid (fun W => turned_any x x.wire W)
  generalize agreeN x.wire x.wire = an at *
  have e1 : decide (x.kind < 0) = false := by simp; omega
  have e2 : decide (x.kind > 31) = false := by simp; omega
  have e3 : decide ((x.data.size : Int) > 4096) = false := by simp; omega
  have e4 : decide (x.src < 0) = false := by simp; omega
  have e5 : decide (x.src ≥ 16) = false := by simp; omega
  have e6 : decide (x.dst < 0) = false := by simp; omega
  have e7 : decide (x.dst ≥ 16) = false := by simp; omega
  have HW1 := Lib.hid (World.alloc_heap_new w (.cells #[.int .i64 x.wire, .int .i64 x.kind, .int .i64 x.src, .int .i64 x.dst, .int .u32 (x.life : Int), .int .u32 (x.seq : Int), .int .u32 (x.ack : Int), .int .u32 (x.hint : Int), .string x.data] 24))
  have heq := fun W => eql_fr x (turnF x x.wire) W
  have hdq : decide (x = turnF x x.wire) = decide (x.wire = 2 ∨ x.hint = 0) := by
    rw [decide_eq_decide]
    obtain ⟨x0, x1, x2, x3, x4, x5, x6, x7, x8⟩ := x
    unfold turnF
    dsimp only at *
    rcases hw with rfl | rfl
    · simp
    · simp
  rw [hdq] at heq
  generalize decide (x.wire = 2 ∨ x.hint = 0) = bb at *
  clear hdq
  generalize turnF x x.wire = y at *
  unfold frV at HT heq
  unfold frV
  clear hE hw hk hd hs ht h
  go_enter Tryd.func15, Tryd.ntmps15
  go_wp2_with (go_at_call 22; (with_reducible refine (HG.out _).mono ?_); rintro e w2 ⟨rfl, b2⟩; have B2 := Lib.hid (below_bx b2); have HB2 := Lib.hid b2; obtain ⟨c0, c1, c2, c3, c4, c5, c6, c7, c8, _, _⟩ := cells9 (obj_below HW1.out b2 (obj_lt HW1.out)); clear b2)
  have HS := Lib.hid (fun (w' : World) (hb : Below w2.heap.size w2 w') => (show w'.cell? ⟨w.heap.size, 0, none⟩ = some (.int .i64 x.wire) ∧ w'.cell? ⟨w.heap.size, 1, none⟩ = some (.int .i64 x.kind) ∧ w'.cell? ⟨w.heap.size, 2, none⟩ = some (.int .i64 x.src) ∧ w'.cell? ⟨w.heap.size, 3, none⟩ = some (.int .i64 x.dst) ∧ w'.cell? ⟨w.heap.size, 4, none⟩ = some (.int .u32 (x.life : Int)) ∧ w'.cell? ⟨w.heap.size, 5, none⟩ = some (.int .u32 (x.seq : Int)) ∧ w'.cell? ⟨w.heap.size, 6, none⟩ = some (.int .u32 (x.ack : Int)) ∧ w'.cell? ⟨w.heap.size, 7, none⟩ = some (.int .u32 (x.hint : Int)) ∧ w'.cell? ⟨w.heap.size, 8, none⟩ = some (.string x.data) from by
    obtain ⟨c0, c1, c2, c3, c4, c5, c6, c7, c8, _, _⟩ := cells9 (obj_below (obj_below HW1.out HB2.out (obj_lt HW1.out)) hb (by have := HB2.out.size; have := obj_lt HW1.out; omega))
    exact ⟨c0, c1, c2, c3, c4, c5, c6, c7, c8⟩))
  go_region_held3 (fun w' => w'.cell? ⟨w.heap.size, 0, none⟩ = some (.int .i64 x.wire) ∧ w'.cell? ⟨w.heap.size, 1, none⟩ = some (.int .i64 x.kind) ∧ w'.cell? ⟨w.heap.size, 2, none⟩ = some (.int .i64 x.src) ∧ w'.cell? ⟨w.heap.size, 3, none⟩ = some (.int .i64 x.dst) ∧ w'.cell? ⟨w.heap.size, 4, none⟩ = some (.int .u32 (x.life : Int)) ∧ w'.cell? ⟨w.heap.size, 5, none⟩ = some (.int .u32 (x.seq : Int)) ∧ w'.cell? ⟨w.heap.size, 6, none⟩ = some (.int .u32 (x.ack : Int)) ∧ w'.cell? ⟨w.heap.size, 7, none⟩ = some (.int .u32 (x.hint : Int)) ∧ w'.cell? ⟨w.heap.size, 8, none⟩ = some (.string x.data)) (first | exact HS.out _ h3 | go_keep) ((first
    | (go_simp; go_at_call 28; (with_reducible refine (HT.out _).mono ?_); rintro e w5 ⟨rfl, b5⟩; have h3 := btL2 (Below.refl _ w2).drew b5; have B5 := Lib.hid h3)))
  all_goals
    go_wp2
    go_ret
    exact ⟨rfl, btL2 B2.out B5.out⟩
set_option maxRecDepth 100000 in
set_option maxHeartbeats 4000000 in
theorem right_no (x : Fr) (h : okF x) (hn : ¬ (isW x.wire ∧ (0 ≤ x.kind ∧ x.kind ≤ 31) ∧ x.data.size ≤ 4096 ∧ (0 ≤ x.src ∧ x.src < 16) ∧ (0 ≤ x.dst ∧ x.dst < 16))) (w : World) :
    Calls Tryd.prog 15 #[frV x] w fun e w' => e = .returned (.bool false) ∧ Below w.heap.size w w' := by
  have HG := Lib.hid (fun W => agree_any x.wire x.wire W h.wire h.wire)
  have HW1 := Lib.hid (World.alloc_heap_new w (.cells #[.int .i64 x.wire, .int .i64 x.kind, .int .i64 x.src, .int .i64 x.dst, .int .u32 (x.life : Int), .int .u32 (x.seq : Int), .int .u32 (x.ack : Int), .int .u32 (x.hint : Int), .string x.data] 24))
  unfold frV
  by_cases hw : isW x.wire
  · have hE : agreeE x.wire x.wire = 0 := if_pos ⟨hw, hw⟩
    rw [hE] at HG
    generalize agreeN x.wire x.wire = an at *
    clear h hE
    have e3 : decide ((x.data.size : Int) > 4096) = decide (4096 < x.data.size) := by rw [decide_eq_decide]; omega
    by_cases h1 : x.kind < 0
    · have f0 : decide (x.kind < 0) = true := by simp; omega
      clear hn hw e3
      go_enter Tryd.func15, Tryd.ntmps15
      go_wp2_with (go_at_call 22; (with_reducible refine (HG.out _).mono ?_); rintro e w2 ⟨rfl, b2⟩; have B2 := Lib.hid (below_bx b2); obtain ⟨c0, c1, c2, c3, c4, c5, c6, c7, c8, _, _⟩ := cells9 (obj_below HW1.out b2 (obj_lt HW1.out)); clear b2)
      go_ret
      exact ⟨rfl, B2.out⟩
    by_cases h2 : x.kind > 31
    · have f0 : decide (x.kind < 0) = false := by simp; omega
      have f1 : decide (x.kind > 31) = true := by simp; omega
      clear hn hw e3
      go_enter Tryd.func15, Tryd.ntmps15
      go_wp2_with (go_at_call 22; (with_reducible refine (HG.out _).mono ?_); rintro e w2 ⟨rfl, b2⟩; have B2 := Lib.hid (below_bx b2); obtain ⟨c0, c1, c2, c3, c4, c5, c6, c7, c8, _, _⟩ := cells9 (obj_below HW1.out b2 (obj_lt HW1.out)); clear b2)
      go_ret
      exact ⟨rfl, B2.out⟩
    by_cases h3 : (x.data.size : Int) > 4096
    · have f0 : decide (x.kind < 0) = false := by simp; omega
      have f1 : decide (x.kind > 31) = false := by simp; omega
      have f2 : decide ((x.data.size : Int) > 4096) = true := by simp; omega
      clear hn hw e3
      go_enter Tryd.func15, Tryd.ntmps15
      go_wp2_with (go_at_call 22; (with_reducible refine (HG.out _).mono ?_); rintro e w2 ⟨rfl, b2⟩; have B2 := Lib.hid (below_bx b2); obtain ⟨c0, c1, c2, c3, c4, c5, c6, c7, c8, _, _⟩ := cells9 (obj_below HW1.out b2 (obj_lt HW1.out)); clear b2)
      go_ret
      exact ⟨rfl, B2.out⟩
    by_cases h4 : x.src < 0
    · have f0 : decide (x.kind < 0) = false := by simp; omega
      have f1 : decide (x.kind > 31) = false := by simp; omega
      have f2 : decide ((x.data.size : Int) > 4096) = false := by simp; omega
      have f3 : decide (x.src < 0) = true := by simp; omega
      clear hn hw e3
      go_enter Tryd.func15, Tryd.ntmps15
      go_wp2_with (go_at_call 22; (with_reducible refine (HG.out _).mono ?_); rintro e w2 ⟨rfl, b2⟩; have B2 := Lib.hid (below_bx b2); obtain ⟨c0, c1, c2, c3, c4, c5, c6, c7, c8, _, _⟩ := cells9 (obj_below HW1.out b2 (obj_lt HW1.out)); clear b2)
      go_ret
      exact ⟨rfl, B2.out⟩
    by_cases h5 : x.src ≥ 16
    · have f0 : decide (x.kind < 0) = false := by simp; omega
      have f1 : decide (x.kind > 31) = false := by simp; omega
      have f2 : decide ((x.data.size : Int) > 4096) = false := by simp; omega
      have f3 : decide (x.src < 0) = false := by simp; omega
      have f4 : decide (x.src ≥ 16) = true := by simp; omega
      clear hn hw e3
      go_enter Tryd.func15, Tryd.ntmps15
      go_wp2_with (go_at_call 22; (with_reducible refine (HG.out _).mono ?_); rintro e w2 ⟨rfl, b2⟩; have B2 := Lib.hid (below_bx b2); obtain ⟨c0, c1, c2, c3, c4, c5, c6, c7, c8, _, _⟩ := cells9 (obj_below HW1.out b2 (obj_lt HW1.out)); clear b2)
      go_ret
      exact ⟨rfl, B2.out⟩
    by_cases h6 : x.dst < 0
    · have f0 : decide (x.kind < 0) = false := by simp; omega
      have f1 : decide (x.kind > 31) = false := by simp; omega
      have f2 : decide ((x.data.size : Int) > 4096) = false := by simp; omega
      have f3 : decide (x.src < 0) = false := by simp; omega
      have f4 : decide (x.src ≥ 16) = false := by simp; omega
      have f5 : decide (x.dst < 0) = true := by simp; omega
      clear hn hw e3
      go_enter Tryd.func15, Tryd.ntmps15
      go_wp2_with (go_at_call 22; (with_reducible refine (HG.out _).mono ?_); rintro e w2 ⟨rfl, b2⟩; have B2 := Lib.hid (below_bx b2); obtain ⟨c0, c1, c2, c3, c4, c5, c6, c7, c8, _, _⟩ := cells9 (obj_below HW1.out b2 (obj_lt HW1.out)); clear b2)
      go_ret
      exact ⟨rfl, B2.out⟩
    by_cases h7 : x.dst ≥ 16
    · have f0 : decide (x.kind < 0) = false := by simp; omega
      have f1 : decide (x.kind > 31) = false := by simp; omega
      have f2 : decide ((x.data.size : Int) > 4096) = false := by simp; omega
      have f3 : decide (x.src < 0) = false := by simp; omega
      have f4 : decide (x.src ≥ 16) = false := by simp; omega
      have f5 : decide (x.dst < 0) = false := by simp; omega
      have f6 : decide (x.dst ≥ 16) = true := by simp; omega
      clear hn hw e3
      go_enter Tryd.func15, Tryd.ntmps15
      go_wp2_with (go_at_call 22; (with_reducible refine (HG.out _).mono ?_); rintro e w2 ⟨rfl, b2⟩; have B2 := Lib.hid (below_bx b2); obtain ⟨c0, c1, c2, c3, c4, c5, c6, c7, c8, _, _⟩ := cells9 (obj_below HW1.out b2 (obj_lt HW1.out)); clear b2)
      go_ret
      exact ⟨rfl, B2.out⟩
    exact absurd ⟨hw, ⟨by omega, by omega⟩, by omega, ⟨by omega, by omega⟩, ⟨by omega, by omega⟩⟩ hn
  · have hE : agreeE x.wire x.wire = 22 := if_neg (fun e => hw e.1)
    rw [hE] at HG
    generalize agreeN x.wire x.wire = an at *
    clear h hE hn hw
    go_enter Tryd.func15, Tryd.ntmps15
    go_wp2_with (go_at_call 22; (with_reducible refine (HG.out _).mono ?_); rintro e w2 ⟨rfl, b2⟩; have B2 := Lib.hid (below_bx b2); obtain ⟨c0, c1, c2, c3, c4, c5, c6, c7, c8, _, _⟩ := cells9 (obj_below HW1.out b2 (obj_lt HW1.out)); clear b2)
    go_ret
    exact ⟨rfl, B2.out⟩
theorem right_any (x : Fr) (h : okF x) (w : World) :
    Calls Tryd.prog 15 #[frV x] w fun e w' => e = .returned (.bool (rightB x)) ∧ Below w.heap.size w w' := by
  by_cases hn : isW x.wire ∧ (0 ≤ x.kind ∧ x.kind ≤ 31) ∧ x.data.size ≤ 4096 ∧ (0 ≤ x.src ∧ x.src < 16) ∧ (0 ≤ x.dst ∧ x.dst < 16)
  · obtain ⟨h1, h2, h3, h4, h5⟩ := hn
    have e : rightB x = decide (x.wire = 2 ∨ x.hint = 0) := by
      exact decide_eq_decide.2 (show rightP x ↔ _ from ⟨fun g => g.2.2.2.2.2, fun g => ⟨h1, h2, h3, h4, h5, g⟩⟩)
    rw [e]
    exact right_yes x h h1 h2 h3 h4 h5 w
  · have e : rightB x = false := by
      exact decide_eq_false (fun g : rightP x => hn ⟨g.1, g.2.1, g.2.2.1, g.2.2.2.1, g.2.2.2.2.1⟩)
    rw [e]
    exact right_no x h hn w
end Go.Proofs.YtcbihioflmfgjaaDoor
