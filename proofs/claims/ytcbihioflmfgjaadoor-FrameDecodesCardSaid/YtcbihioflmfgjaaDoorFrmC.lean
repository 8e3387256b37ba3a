/-
  The document's right frames; versions; frames turned. Conditions: numbers are as the program's types allow.
-/
import Derived.Test.YtcbihioflmfgjaaDoorFrmB
namespace Go.Proofs.YtcbihioflmfgjaaDoor
open Go.RowKit Go.Shelf Ros Go.Maps
attribute [local go_sem] Oper.semAt_some
theorem version_any (n : Int) (w : World) : Calls Tryd.prog 29 #[.int .i64 n] w fun e w' => e = .returned (.bool (decide (isW n))) ∧ w = w' := by
  by_cases h1 : n = 1
  · subst h1
    go_enter Tryd.func29, Tryd.ntmps29
    go_wp2
    go_ret
    exact ⟨rfl, rfl⟩
  · by_cases h2 : n = 2
    · subst h2
      go_enter Tryd.func29, Tryd.ntmps29
      go_wp2
      go_ret
      exact ⟨rfl, rfl⟩
    · have e1 : (n == 1) = false := by rw [beq_eq_false_iff_ne]; exact h1
      have e2 : (n == 2) = false := by rw [beq_eq_false_iff_ne]; exact h2
      have e3 : decide (isW n) = false := decide_eq_false (by rintro (e | e); exact h1 e; exact h2 e)
      rw [e3]
      clear h1 h2 e3
      go_enter Tryd.func29, Tryd.ntmps29
      go_wp2
      go_ret
      exact ⟨rfl, rfl⟩
set_option maxRecDepth 100000 in
set_option maxHeartbeats 4000000 in
theorem refright_any (x : Fr) (_h : okF x) (w : World) :
    Calls Tryd.prog 16 #[frV x] w fun e w' => e = .returned (.bool (rightB x)) ∧ Below w.heap.size w w' := by
  have HV := Lib.hid (fun W => version_any x.wire W)
  have HB := Lib.hid ((Below.refl _ w).alloc (Nat.le_refl _) (.cells #[.int .i64 x.wire, .int .i64 x.kind, .int .i64 x.src, .int .i64 x.dst, .int .u32 (x.life : Int), .int .u32 (x.seq : Int), .int .u32 (x.ack : Int), .int .u32 (x.hint : Int), .string x.data] 24))
  unfold frV
  by_cases hn : isW x.wire ∧ (0 ≤ x.kind ∧ x.kind ≤ 31) ∧ (0 ≤ x.src ∧ x.src < 16) ∧ (0 ≤ x.dst ∧ x.dst < 16)
  · obtain ⟨hw, h2, h4, h5⟩ := hn
    rw [decide_eq_true hw] at HV
    have f0 : decide (x.kind < 0) = false := by simp; omega
    have f1 : decide (x.kind > 31) = false := by simp; omega
    have f2 : decide (x.src < 0) = false := by simp; omega
    have f3 : decide (x.src ≥ 16) = false := by simp; omega
    have f4 : decide (x.dst < 0) = false := by simp; omega
    have f5 : decide (x.dst ≥ 16) = false := by simp; omega
    by_cases hd : x.data.size ≤ 4096
    · have f6 : decide ((x.data.size : Int) ≤ 4096) = true := by simp; omega
      have e : rightB x = (x.wire == 2 || (x.hint : Int) == 0) := by
        have e1 : rightB x = decide (x.wire = 2 ∨ (x.hint : Int) = 0) := decide_eq_decide.2 (show rightP x ↔ _ from ⟨fun g => g.2.2.2.2.2.imp id (by omega), fun g => ⟨hw, h2, hd, h4, h5, g.imp id (by omega)⟩⟩)
        rw [e1, Bool.eq_iff_iff, decide_eq_true_iff, Bool.or_eq_true, beq_iff_eq, beq_iff_eq]
      rw [e]
      clear e h2 h4 h5 hd
      rcases hw with hw | hw
      · have e2 : (x.wire == 2) = false := by rw [beq_eq_false_iff_ne]; omega
        clear hw
        go_enter Tryd.func16, Tryd.ntmps16
        go_wp2_with (go_at_call 29; (with_reducible refine (HV.out _).mono ?_); rintro e w2 ⟨rfl, rfl⟩)
        go_ret
        refine ⟨?_, HB.out⟩
        rw [e2]
        rfl
      · have e2 : (x.wire == 2) = true := by rw [beq_iff_eq]; exact hw
        clear hw
        go_enter Tryd.func16, Tryd.ntmps16
        go_wp2_with (go_at_call 29; (with_reducible refine (HV.out _).mono ?_); rintro e w2 ⟨rfl, rfl⟩)
        go_ret
        refine ⟨?_, HB.out⟩
        rw [e2]
        rfl
    · have f6 : decide ((x.data.size : Int) ≤ 4096) = false := by simp; omega
      have e : rightB x = false := decide_eq_false (fun g : rightP x => hd g.2.2.1)
      rw [e]
      clear e h2 h4 h5 hd hw
      go_enter Tryd.func16, Tryd.ntmps16
      go_wp2_with (go_at_call 29; (with_reducible refine (HV.out _).mono ?_); rintro e w2 ⟨rfl, rfl⟩)
      go_ret
      exact ⟨rfl, HB.out⟩
  · have e : rightB x = false := decide_eq_false (fun g : rightP x => hn ⟨g.1, g.2.1, g.2.2.2.1, g.2.2.2.2.1⟩)
    rw [e]
    by_cases hw : isW x.wire
    · rw [decide_eq_true hw] at HV
      by_cases h0 : x.kind < 0
      · have f0 : decide (x.kind < 0) = true := by simp; omega
        clear hn e hw
        go_enter Tryd.func16, Tryd.ntmps16
        go_wp2_with (go_at_call 29; (with_reducible refine (HV.out _).mono ?_); rintro e w2 ⟨rfl, rfl⟩)
        go_ret
        exact ⟨rfl, HB.out⟩
      by_cases h1 : x.kind > 31
      · have f0 : decide (x.kind < 0) = false := by simp; omega
        have f1 : decide (x.kind > 31) = true := by simp; omega
        clear hn e hw
        go_enter Tryd.func16, Tryd.ntmps16
        go_wp2_with (go_at_call 29; (with_reducible refine (HV.out _).mono ?_); rintro e w2 ⟨rfl, rfl⟩)
        go_ret
        exact ⟨rfl, HB.out⟩
      by_cases h2 : x.src < 0
      · have f0 : decide (x.kind < 0) = false := by simp; omega
        have f1 : decide (x.kind > 31) = false := by simp; omega
        have f2 : decide (x.src < 0) = true := by simp; omega
        clear hn e hw
        go_enter Tryd.func16, Tryd.ntmps16
        go_wp2_with (go_at_call 29; (with_reducible refine (HV.out _).mono ?_); rintro e w2 ⟨rfl, rfl⟩)
        go_ret
        exact ⟨rfl, HB.out⟩
      by_cases h3 : x.src ≥ 16
      · have f0 : decide (x.kind < 0) = false := by simp; omega
        have f1 : decide (x.kind > 31) = false := by simp; omega
        have f2 : decide (x.src < 0) = false := by simp; omega
        have f3 : decide (x.src ≥ 16) = true := by simp; omega
        clear hn e hw
        go_enter Tryd.func16, Tryd.ntmps16
        go_wp2_with (go_at_call 29; (with_reducible refine (HV.out _).mono ?_); rintro e w2 ⟨rfl, rfl⟩)
        go_ret
        exact ⟨rfl, HB.out⟩
      by_cases h4 : x.dst < 0
      · have f0 : decide (x.kind < 0) = false := by simp; omega
        have f1 : decide (x.kind > 31) = false := by simp; omega
        have f2 : decide (x.src < 0) = false := by simp; omega
        have f3 : decide (x.src ≥ 16) = false := by simp; omega
        have f4 : decide (x.dst < 0) = true := by simp; omega
        clear hn e hw
        go_enter Tryd.func16, Tryd.ntmps16
        go_wp2_with (go_at_call 29; (with_reducible refine (HV.out _).mono ?_); rintro e w2 ⟨rfl, rfl⟩)
        go_ret
        exact ⟨rfl, HB.out⟩
      by_cases h5 : x.dst ≥ 16
      · have f0 : decide (x.kind < 0) = false := by simp; omega
        have f1 : decide (x.kind > 31) = false := by simp; omega
        have f2 : decide (x.src < 0) = false := by simp; omega
        have f3 : decide (x.src ≥ 16) = false := by simp; omega
        have f4 : decide (x.dst < 0) = false := by simp; omega
        have f5 : decide (x.dst ≥ 16) = true := by simp; omega
        clear hn e hw
        go_enter Tryd.func16, Tryd.ntmps16
        go_wp2_with (go_at_call 29; (with_reducible refine (HV.out _).mono ?_); rintro e w2 ⟨rfl, rfl⟩)
        go_ret
        exact ⟨rfl, HB.out⟩
      exact absurd ⟨hw, ⟨by omega, by omega⟩, ⟨by omega, by omega⟩, ⟨by omega, by omega⟩⟩ hn
    · rw [decide_eq_false hw] at HV
      clear hn e hw
      go_enter Tryd.func16, Tryd.ntmps16
      go_wp2_with (go_at_call 29; (with_reducible refine (HV.out _).mono ?_); rintro e w2 ⟨rfl, rfl⟩)
      go_ret
      exact ⟨rfl, HB.out⟩
def zeroFr : Fr := ⟨0, 0, 0, 0, 0, 0, 0, 0, ⟨#[]⟩⟩
def turnE (x : Fr) (n : Int) : Int := if rightB x then (if isW n then 0 else 22) else 20
def turnR (x : Fr) (n : Int) : Fr := if rightB x then (if isW n then turnF x n else zeroFr) else zeroFr
theorem results_cell2 {P : Program} {fn : Func} {p : Tmp} {q : Tmp} {ty : TypeId} (h : fn.results = #[.cell p ty, .tmp q]) (tmps : Array Value) (w : World) :
    (results fn tmps).run P w = ((asAddr (tmps.getD p undef)).run P w).andThen fun a w₁ => ((loadVar ty a).run P w₁).andThen fun v w₂ => .ok (.tuple #[v, tmps.getD q undef]) w₂ := by
  simp only [results, h]
  simp [Sem.run_bind, Result.andThen]
set_option maxRecDepth 100000 in
theorem refagree_any (a b : Int) (w : World) : Calls Tryd.prog 23 #[.int .i64 a, .int .i64 b] w fun e w' => e = .returned (.tuple #[.int .i64 (agreeN a b), .int .i64 (agreeE a b)]) ∧ w = w' := by
  have HA := Lib.hid (fun W => version_any a W)
  have HB := Lib.hid (fun W => version_any b W)
  by_cases h1 : isW a
  · by_cases h2 : isW b
    · rw [decide_eq_true h1] at HA
      rw [decide_eq_true h2] at HB
      rcases h1 with rfl | rfl <;> rcases h2 with rfl | rfl
      all_goals
        go_enter Tryd.func23, Tryd.ntmps23
        go_wp2_with (first | (go_at_call 29; (with_reducible refine (HA.out _).mono ?_); rintro e w2 ⟨rfl, rfl⟩) | (go_at_call 29; (with_reducible refine (HB.out _).mono ?_); rintro e w2 ⟨rfl, rfl⟩))
        go_ret2
        exact ⟨rfl, rfl⟩
    · rw [decide_eq_true h1] at HA
      rw [decide_eq_false h2] at HB
      rw [show agreeN a b = 0 from if_neg (fun e => h2 e.2), show agreeE a b = 22 from if_neg (fun e => h2 e.2)]
      clear h1 h2
      go_enter Tryd.func23, Tryd.ntmps23
      go_wp2_with (first | (go_at_call 29; (with_reducible refine (HA.out _).mono ?_); rintro e w2 ⟨rfl, rfl⟩) | (go_at_call 29; (with_reducible refine (HB.out _).mono ?_); rintro e w2 ⟨rfl, rfl⟩))
      go_ret2
      exact ⟨rfl, rfl⟩
  · rw [decide_eq_false h1] at HA
    rw [show agreeN a b = 0 from if_neg (fun e => h1 e.1), show agreeE a b = 22 from if_neg (fun e => h1 e.1)]
    clear h1
    go_enter Tryd.func23, Tryd.ntmps23
    go_wp2_with (go_at_call 29; (with_reducible refine (HA.out _).mono ?_); rintro e w2 ⟨rfl, rfl⟩)
    go_ret2
    exact ⟨rfl, rfl⟩
set_option maxRecDepth 100000 in
set_option maxHeartbeats 4000000 in
theorem refturn_any (x : Fr) (h : okF x) (n : Int) (w : World) :
    Calls Tryd.prog 21 #[frV x, .int .i64 n] w fun e w' => e = .returned (.tuple #[frV (turnR x n), .int .i64 (turnE x n)]) ∧ Below w.heap.size w w' := by
  have HV := Lib.hid (fun W => version_any n W)
  have HR := Lib.hid (fun W => refright_any x h W)
  have HX := Lib.hid (World.alloc_heap_new w (.cells #[.int .i64 x.wire, .int .i64 x.kind, .int .i64 x.src, .int .i64 x.dst, .int .u32 (x.life : Int), .int .u32 (x.seq : Int), .int .u32 (x.ack : Int), .int .u32 (x.hint : Int), .string x.data] 24))
  have HZ := Lib.hid (new2 w (.cells #[.int .i64 x.wire, .int .i64 x.kind, .int .i64 x.src, .int .i64 x.dst, .int .u32 (x.life : Int), .int .u32 (x.seq : Int), .int .u32 (x.ack : Int), .int .u32 (x.hint : Int), .string x.data] 24) (.cells #[.int .i64 0, .int .i64 0, .int .i64 0, .int .i64 0, .int .u32 0, .int .u32 0, .int .u32 0, .int .u32 0, .string ⟨#[]⟩] 24))
  unfold turnR turnE
  unfold frV at HR
  by_cases hr : rightB x = true
  · rw [hr] at HR ⊢
    simp only [if_true]
    by_cases hn : isW n
    · rw [decide_eq_true hn] at HV
      rw [if_pos hn, if_pos hn]
      unfold frV turnF
      rcases hn with rfl | rfl
      all_goals
        clear hr h
        go_enter Tryd.func21, Tryd.ntmps21
        go_wp2_with (first
          | (go_at_call 16; (with_reducible refine (HR.out _).mono ?_); rintro e w2 ⟨rfl, b2⟩; have B2 := Lib.hid (below_bx (below_bx b2)); obtain ⟨c0, c1, c2, c3, c4, c5, c6, c7, c8, cf, cl⟩ := cells9 (obj_below (obj_alloc HX.out _) b2 (obj_lt (obj_alloc HX.out _))); obtain ⟨d0, d1, d2, d3, d4, d5, d6, d7, d8, df, dl⟩ := cells9 (obj_below HZ.out b2 (obj_lt HZ.out)); have f0 := cf 0; have f7 := cf 7; have g0 := df 0; have g1 := df 1; have g2 := df 2; have g3 := df 3; have g4 := df 4; have g5 := df 5; have g6 := df 6; have g7 := df 7; have g8 := df 8; clear b2 cf df)
          | (go_at_call 29; (with_reducible refine (HV.out _).mono ?_); rintro e w3 ⟨rfl, rfl⟩))
        refine bodyPost_ret ?_ rfl ⟨rfl, ?_⟩
        rotate_left
        · repeat first | with_reducible exact B2.out | (with_reducible refine Below.setCell ?_ (by first | exact Nat.le_refl _ | exact Nat.le_succ _) _)
        · rw [results_cell2 rfl]
          go_simp
    · rw [decide_eq_false hn] at HV
      rw [if_neg hn, if_neg hn]
      unfold frV zeroFr
      clear hr h hn
      go_enter Tryd.func21, Tryd.ntmps21
      go_wp2_with (first
        | (go_at_call 16; (with_reducible refine (HR.out _).mono ?_); rintro e w2 ⟨rfl, b2⟩; have B2 := Lib.hid (below_bx (below_bx b2)); obtain ⟨c0, c1, c2, c3, c4, c5, c6, c7, c8, cf, cl⟩ := cells9 (obj_below (obj_alloc HX.out _) b2 (obj_lt (obj_alloc HX.out _))); obtain ⟨d0, d1, d2, d3, d4, d5, d6, d7, d8, df, dl⟩ := cells9 (obj_below HZ.out b2 (obj_lt HZ.out)); have f0 := cf 0; have f7 := cf 7; have g0 := df 0; have g1 := df 1; have g2 := df 2; have g3 := df 3; have g4 := df 4; have g5 := df 5; have g6 := df 6; have g7 := df 7; have g8 := df 8; clear b2 cf df)
        | (go_at_call 29; (with_reducible refine (HV.out _).mono ?_); rintro e w3 ⟨rfl, rfl⟩))
      refine bodyPost_ret ?_ rfl ⟨rfl, ?_⟩
      rotate_left
      · repeat first | with_reducible exact B2.out | (with_reducible refine Below.setCell ?_ (by first | exact Nat.le_refl _ | exact Nat.le_succ _) _)
      · rw [results_cell2 rfl]
        go_simp
  · have hr' : rightB x = false := by simpa using hr
    rw [hr'] at HR ⊢
    unfold frV zeroFr
    clear hr h hr'
    go_enter Tryd.func21, Tryd.ntmps21
    go_wp2_with (first
      | (go_at_call 16; (with_reducible refine (HR.out _).mono ?_); rintro e w2 ⟨rfl, b2⟩; have B2 := Lib.hid (below_bx (below_bx b2)); obtain ⟨c0, c1, c2, c3, c4, c5, c6, c7, c8, cf, cl⟩ := cells9 (obj_below (obj_alloc HX.out _) b2 (obj_lt (obj_alloc HX.out _))); obtain ⟨d0, d1, d2, d3, d4, d5, d6, d7, d8, df, dl⟩ := cells9 (obj_below HZ.out b2 (obj_lt HZ.out)); have f0 := cf 0; have f7 := cf 7; have g0 := df 0; have g1 := df 1; have g2 := df 2; have g3 := df 3; have g4 := df 4; have g5 := df 5; have g6 := df 6; have g7 := df 7; have g8 := df 8; clear b2 cf df)
      | fail)
    refine bodyPost_ret ?_ rfl ⟨rfl, ?_⟩
    rotate_left
    · repeat first | with_reducible exact B2.out | (with_reducible refine Below.setCell ?_ (by first | exact Nat.le_refl _ | exact Nat.le_succ _) _)
    · rw [results_cell2 rfl]
      go_simp
set_option maxRecDepth 100000 in
set_option maxHeartbeats 4000000 in
theorem turn_any (x : Fr) (h : okF x) (n : Int) (hb : -9223372036854775808 ≤ n ∧ n ≤ 9223372036854775807) (w : World) :
    Calls Tryd.prog 20 #[frV x, .int .i64 n] w fun e w' => e = .returned (.tuple #[frV (turnR x n), .int .i64 (turnE x n)]) ∧ Below w.heap.size w w' := by
  have HG := Lib.hid (fun W => agree_any n n W hb hb)
  have HT := Lib.hid (fun W => turned_any x n W)
  have HR := Lib.hid (fun W => right_any x h W)
  have HX := Lib.hid (World.alloc_heap_new w (.cells #[.int .i64 x.wire, .int .i64 x.kind, .int .i64 x.src, .int .i64 x.dst, .int .u32 (x.life : Int), .int .u32 (x.seq : Int), .int .u32 (x.ack : Int), .int .u32 (x.hint : Int), .string x.data] 24))
  have HZ := Lib.hid (new2 w (.cells #[.int .i64 x.wire, .int .i64 x.kind, .int .i64 x.src, .int .i64 x.dst, .int .u32 (x.life : Int), .int .u32 (x.seq : Int), .int .u32 (x.ack : Int), .int .u32 (x.hint : Int), .string x.data] 24) (.cells #[.int .i64 0, .int .i64 0, .int .i64 0, .int .i64 0, .int .u32 0, .int .u32 0, .int .u32 0, .int .u32 0, .string ⟨#[]⟩] 24))
  unfold turnR turnE
  unfold frV at HR HT
  by_cases hr : rightB x = true
  · rw [hr] at HR ⊢
    simp only [if_true]
    by_cases hn : isW n
    · rw [show agreeE n n = 0 from if_pos ⟨hn, hn⟩] at HG
      rw [if_pos hn, if_pos hn]
      generalize agreeN n n = an at *
      generalize turnF x n = y at *
      unfold frV
      clear hr h hn hb
      go_enter Tryd.func20, Tryd.ntmps20
      go_wp2_with (first
        | (go_at_call 15; (with_reducible refine (HR.out _).mono ?_); rintro e w2 ⟨rfl, b2⟩; have B2 := Lib.hid (below_bx (below_bx b2)); have X2 := Lib.hid (obj_below (obj_alloc HX.out _) b2 (obj_lt (obj_alloc HX.out _))); have Z2 := Lib.hid (obj_below HZ.out b2 (obj_lt HZ.out)); obtain ⟨d0, d1, d2, d3, d4, d5, d6, d7, d8, df, dl⟩ := cells9 Z2.out; have g0 := df 0; have g1 := df 1; have g2 := df 2; have g3 := df 3; have g4 := df 4; have g5 := df 5; have g6 := df 6; have g7 := df 7; have g8 := df 8; clear b2 df)
        | (go_at_call 22; (with_reducible refine (HG.out _).mono ?_); rintro e w3 ⟨rfl, b3⟩; have B3 := Lib.hid (btL2 B2.out b3); have X3 := Lib.hid (obj_below X2.out b3 (obj_lt X2.out)); have Z3 := Lib.hid (obj_below Z2.out b3 (obj_lt Z2.out)); obtain ⟨x0, x1, x2, x3, x4, x5, x6, x7, x8, _, _⟩ := cells9 X3.out; obtain ⟨z0, z1, z2, z3, z4, z5, z6, z7, z8, zf, zl⟩ := cells9 Z3.out; have k0 := zf 0; have k1 := zf 1; have k2 := zf 2; have k3 := zf 3; have k4 := zf 4; have k5 := zf 5; have k6 := zf 6; have k7 := zf 7; have k8 := zf 8; clear b3 zf)
        | (go_at_call 28; (with_reducible refine (HT.out _).mono ?_); rintro e w4 ⟨rfl, b4⟩; have B4 := Lib.hid (btL2 B3.out b4); obtain ⟨z0', z1', z2', z3', z4', z5', z6', z7', z8', zf, zl'⟩ := cells9 (obj_below Z3.out b4 (obj_lt Z3.out)); have l0 := zf 0; have l1 := zf 1; have l2 := zf 2; have l3 := zf 3; have l4 := zf 4; have l5 := zf 5; have l6 := zf 6; have l7 := zf 7; have l8 := zf 8; clear b4 zf))
      refine bodyPost_ret ?_ rfl ⟨rfl, ?_⟩
      rotate_left
      · repeat first | with_reducible exact B4.out | (with_reducible refine Below.setCell ?_ (by first | exact Nat.le_refl _ | exact Nat.le_succ _) _)
      · rw [results_cell2 rfl]
        go_simp
    · rw [show agreeE n n = 22 from if_neg (fun e => hn e.1)] at HG
      rw [if_neg hn, if_neg hn]
      generalize agreeN n n = an at *
      unfold frV zeroFr
      clear hr h hn hb HT
      go_enter Tryd.func20, Tryd.ntmps20
      go_wp2_with (first
        | (go_at_call 15; (with_reducible refine (HR.out _).mono ?_); rintro e w2 ⟨rfl, b2⟩; have B2 := Lib.hid (below_bx (below_bx b2)); have X2 := Lib.hid (obj_below (obj_alloc HX.out _) b2 (obj_lt (obj_alloc HX.out _))); have Z2 := Lib.hid (obj_below HZ.out b2 (obj_lt HZ.out)); obtain ⟨d0, d1, d2, d3, d4, d5, d6, d7, d8, df, dl⟩ := cells9 Z2.out; have g0 := df 0; have g1 := df 1; have g2 := df 2; have g3 := df 3; have g4 := df 4; have g5 := df 5; have g6 := df 6; have g7 := df 7; have g8 := df 8; clear b2 df)
        | (go_at_call 22; (with_reducible refine (HG.out _).mono ?_); rintro e w3 ⟨rfl, b3⟩; have B3 := Lib.hid (btL2 B2.out b3); have X3 := Lib.hid (obj_below X2.out b3 (obj_lt X2.out)); have Z3 := Lib.hid (obj_below Z2.out b3 (obj_lt Z2.out)); obtain ⟨x0, x1, x2, x3, x4, x5, x6, x7, x8, _, _⟩ := cells9 X3.out; obtain ⟨z0, z1, z2, z3, z4, z5, z6, z7, z8, zf, zl⟩ := cells9 Z3.out; have k0 := zf 0; have k1 := zf 1; have k2 := zf 2; have k3 := zf 3; have k4 := zf 4; have k5 := zf 5; have k6 := zf 6; have k7 := zf 7; have k8 := zf 8; clear b3 zf)
        | (go_at_call 28; (with_reducible refine (HT.out _).mono ?_); rintro e w4 ⟨rfl, b4⟩; have B4 := Lib.hid (btL2 B3.out b4); obtain ⟨z0', z1', z2', z3', z4', z5', z6', z7', z8', zf, zl'⟩ := cells9 (obj_below Z3.out b4 (obj_lt Z3.out)); have l0 := zf 0; have l1 := zf 1; have l2 := zf 2; have l3 := zf 3; have l4 := zf 4; have l5 := zf 5; have l6 := zf 6; have l7 := zf 7; have l8 := zf 8; clear b4 zf))
      refine bodyPost_ret ?_ rfl ⟨rfl, ?_⟩
      rotate_left
      · repeat first | with_reducible exact B3.out | (with_reducible refine Below.setCell ?_ (by first | exact Nat.le_refl _ | exact Nat.le_succ _) _)
      · rw [results_cell2 rfl]
        go_simp
  · have hr' : rightB x = false := by simpa using hr
    rw [hr'] at HR ⊢
    unfold frV zeroFr
    clear hr h hr' hb HT HG
    go_enter Tryd.func20, Tryd.ntmps20
    go_wp2_with (first
      | (go_at_call 15; (with_reducible refine (HR.out _).mono ?_); rintro e w2 ⟨rfl, b2⟩; have B2 := Lib.hid (below_bx (below_bx b2)); have X2 := Lib.hid (obj_below (obj_alloc HX.out _) b2 (obj_lt (obj_alloc HX.out _))); have Z2 := Lib.hid (obj_below HZ.out b2 (obj_lt HZ.out)); obtain ⟨d0, d1, d2, d3, d4, d5, d6, d7, d8, df, dl⟩ := cells9 Z2.out; have g0 := df 0; have g1 := df 1; have g2 := df 2; have g3 := df 3; have g4 := df 4; have g5 := df 5; have g6 := df 6; have g7 := df 7; have g8 := df 8; clear b2 df)
      | (go_at_call 22; (with_reducible refine (HG.out _).mono ?_); rintro e w3 ⟨rfl, b3⟩; have B3 := Lib.hid (btL2 B2.out b3); have X3 := Lib.hid (obj_below X2.out b3 (obj_lt X2.out)); have Z3 := Lib.hid (obj_below Z2.out b3 (obj_lt Z2.out)); obtain ⟨x0, x1, x2, x3, x4, x5, x6, x7, x8, _, _⟩ := cells9 X3.out; obtain ⟨z0, z1, z2, z3, z4, z5, z6, z7, z8, zf, zl⟩ := cells9 Z3.out; have k0 := zf 0; have k1 := zf 1; have k2 := zf 2; have k3 := zf 3; have k4 := zf 4; have k5 := zf 5; have k6 := zf 6; have k7 := zf 7; have k8 := zf 8; clear b3 zf)
      | (go_at_call 28; (with_reducible refine (HT.out _).mono ?_); rintro e w4 ⟨rfl, b4⟩; have B4 := Lib.hid (btL2 B3.out b4); obtain ⟨z0', z1', z2', z3', z4', z5', z6', z7', z8', zf, zl'⟩ := cells9 (obj_below Z3.out b4 (obj_lt Z3.out)); have l0 := zf 0; have l1 := zf 1; have l2 := zf 2; have l3 := zf 3; have l4 := zf 4; have l5 := zf 5; have l6 := zf 6; have l7 := zf 7; have l8 := zf 8; clear b4 zf))
    refine bodyPost_ret ?_ rfl ⟨rfl, ?_⟩
    rotate_left
    · repeat first | with_reducible exact B2.out | (with_reducible refine Below.setCell ?_ (by first | exact Nat.le_refl _ | exact Nat.le_succ _) _)
    · rw [results_cell2 rfl]
      go_simp
end Go.Proofs.YtcbihioflmfgjaaDoor
