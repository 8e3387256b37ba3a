/-
  The laws of link: LinkLives. Conditions: numbers are as the program's types allow.
-/
import Derived.Test.YtbmlenffcmmkbaaLnkL
namespace Ros
open Go Go.RowKit
def sa : ByteArray := ⟨#[97]⟩
def sb : ByteArray := ⟨#[98]⟩
def sc : ByteArray := ⟨#[99]⟩
end Ros
namespace Go.Proofs.Ytbmlenffcmmkbaa
open Go.RowKit Go.Shelf Ros Go.Maps
attribute [local go_sem] Oper.semAt_some
set_option linter.unusedVariables false
theorem LkAt.other {w0 W W' : World} {S T : Nat → Prop} {g : Nat} {s : Lk} (H : LkAt w0 W S g s) (ht : Turn T T W W') (hd : ∀ k, S k → ¬ T k) (hT : ∀ k, T k → w0.heap.size ≤ k) : LkAt w0 W' S g s :=
  ⟨H.1.keep fun k hk => ht.block k (H.1.lt k hk) (hd k hk), (ht.below H.2.1 H.2.1.size hT).1, H.2.2⟩
theorem row_fr2 {W : World} {A : Option Addr} {c : Nat} {f1 f2 : Fr} (H : Row W 37 9 (.slice A 2 c) 2 ([f1, f2].flatMap frL)) :
    ∃ k, A = some ⟨k, 0, none⟩ ∧ W.cell? ⟨k, 0, none⟩ = some (.int .i64 f1.wire) ∧ W.cell? ⟨k, 1, none⟩ = some (.int .i64 f1.kind) ∧ W.cell? ⟨k, 2, none⟩ = some (.int .i64 f1.src) ∧ W.cell? ⟨k, 3, none⟩ = some (.int .i64 f1.dst) ∧ W.cell? ⟨k, 4, none⟩ = some (.int .u32 (f1.life : Int)) ∧ W.cell? ⟨k, 5, none⟩ = some (.int .u32 (f1.seq : Int)) ∧ W.cell? ⟨k, 6, none⟩ = some (.int .u32 (f1.ack : Int)) ∧ W.cell? ⟨k, 7, none⟩ = some (.int .u32 (f1.hint : Int)) ∧ W.cell? ⟨k, 8, none⟩ = some (.string f1.data) ∧
      W.cell? ⟨k, 9, none⟩ = some (.int .i64 f2.wire) ∧ W.cell? ⟨k, 10, none⟩ = some (.int .i64 f2.kind) ∧ W.cell? ⟨k, 11, none⟩ = some (.int .i64 f2.src) ∧ W.cell? ⟨k, 12, none⟩ = some (.int .i64 f2.dst) ∧ W.cell? ⟨k, 13, none⟩ = some (.int .u32 (f2.life : Int)) ∧ W.cell? ⟨k, 14, none⟩ = some (.int .u32 (f2.seq : Int)) ∧ W.cell? ⟨k, 15, none⟩ = some (.int .u32 (f2.ack : Int)) ∧ W.cell? ⟨k, 16, none⟩ = some (.int .u32 (f2.hint : Int)) ∧ W.cell? ⟨k, 17, none⟩ = some (.string f2.data) := by
  obtain ⟨k, cap, e, _, _, _, hc, _⟩ := H.some_ (by decide)
  cases e
  exact ⟨k, rfl, hc 0 _ rfl, hc 1 _ rfl, hc 2 _ rfl, hc 3 _ rfl, hc 4 _ rfl, hc 5 _ rfl, hc 6 _ rfl, hc 7 _ rfl, hc 8 _ rfl, hc 9 _ rfl, hc 10 _ rfl, hc 11 _ rfl, hc 12 _ rfl, hc 13 _ rfl, hc 14 _ rfl, hc 15 _ rfl, hc 16 _ rfl, hc 17 _ rfl⟩
theorem row_fr1 {W : World} {A : Option Addr} {c : Nat} {fr : Fr} (H : Row W 37 9 (.slice A 1 c) 1 (frL fr)) :
    ∃ k, A = some ⟨k, 0, none⟩ ∧ W.cell? ⟨k, 0, none⟩ = some (.int .i64 fr.wire) ∧ W.cell? ⟨k, 1, none⟩ = some (.int .i64 fr.kind) ∧ W.cell? ⟨k, 2, none⟩ = some (.int .i64 fr.src) ∧ W.cell? ⟨k, 3, none⟩ = some (.int .i64 fr.dst) ∧ W.cell? ⟨k, 4, none⟩ = some (.int .u32 (fr.life : Int)) ∧ W.cell? ⟨k, 5, none⟩ = some (.int .u32 (fr.seq : Int)) ∧ W.cell? ⟨k, 6, none⟩ = some (.int .u32 (fr.ack : Int)) ∧ W.cell? ⟨k, 7, none⟩ = some (.int .u32 (fr.hint : Int)) ∧ W.cell? ⟨k, 8, none⟩ = some (.string fr.data) := by
  obtain ⟨k, cap, e, _, _, _, hc, _⟩ := H.some_ (by decide)
  cases e
  exact ⟨k, rfl, hc 0 _ rfl, hc 1 _ rfl, hc 2 _ rfl, hc 3 _ rfl, hc 4 _ rfl, hc 5 _ rfl, hc 6 _ rfl, hc 7 _ rfl, hc 8 _ rfl⟩
def lx0 (l : Nat) : Lk := lk0 1 2 1 4 l
def lxa (l : Nat) (d : List ByteArray) : Lk := { lx0 l with outs := d }
/-- b; b behind a life; behind another. -/
def lbl (l : Nat) : Lk := { lb0 with peerLife := l, waits := 2 }
set_option maxRecDepth 100000 in
set_option maxHeartbeats 2000000 in
theorem linkLives_yes (old life : Nat) (h1 : 1 ≤ old) (h2 : old < life) (h3 : life < 4294967296) (w : World) :
    Calls Try.prog 5 #[.int .u32 (old : Int), .int .u32 (life : Int)] w fun e w' => e = .returned (.bool true) ∧ Below w.heap.size w w' := by
  have d1 : decide ((old : Int) < 1) = false := by simp; omega
  have d2 : decide ((life : Int) ≤ (old : Int)) = false := by simp; omega
  have d3 : ¬ life ≤ old := by omega
  have d4 : decide (life ≤ old) = false := by simp; omega
  have H12 := Lib.hid (show 1 ≤ old ∧ old < life ∧ life < 4294967296 from ⟨h1, h2, h3⟩)
  clear h1 h2 h3
  go_enter Try.func5, Try.ntmps5
  go_wp2_with fail
  refine (lshown_any _).mono ?_
  rintro e w1 ⟨rfl, b1⟩
  go_wp2_with fail
  refine (n1_law b1 2 1 1 4 1 ⟨by decide, by decide⟩ ⟨by decide, by decide⟩ (by decide) (.inl rfl) ⟨by decide, by decide⟩ (by decide)).mono ?_
  rintro e w2 ⟨gb, S, rfl, hb, _⟩
  replace hb : LkAt w w2 S gb lb0 := hb
  go_wp2_with fail
  refine (lnew_yes 1 2 1 4 old w2 ⟨by decide, by decide⟩ ⟨by decide, by decide⟩ (by decide) (.inl rfl) ⟨by decide, by decide⟩ (by have := H12.out; omega)).mono ?_
  rintro e w3 ⟨gx, T, rfl, hT, hx, b3⟩
  replace hx : LkAt w w3 T gx (lxa old []) := ⟨hx, btL hb.2.1 b3, fun k hk => Nat.le_trans hb.2.1.size (hT k hk)⟩
  have dST : ∀ k, S k → ¬ T k := fun k hk hk2 => by have := hb.1.lt k hk; have := hT k hk2; omega
  replace hb := hb.below b3
  clear hT b3 b1
  have DST := Lib.hid dST
  clear dST
  go_wp2_with fail
  refine (lnew_yes 1 2 1 4 life w3 ⟨by decide, by decide⟩ ⟨by decide, by decide⟩ (by decide) (.inl rfl) ⟨by decide, by decide⟩ (by have := H12.out; omega)).mono ?_
  rintro e w4 ⟨gy, U, rfl, hU, hy, b4⟩
  replace hy : LkAt w w4 U gy (lxa life []) := ⟨hy, btL hb.2.1 b4, fun k hk => Nat.le_trans hb.2.1.size (hU k hk)⟩
  have dSU : ∀ k, S k → ¬ U k := fun k hk hk2 => by have := hb.1.lt k hk; have := hU k hk2; omega
  have dTU : ∀ k, T k → ¬ U k := fun k hk hk2 => by have := hx.1.lt k hk; have := hU k hk2; omega
  replace hb := hb.below b4
  replace hx := hx.below b4
  clear hU b4
  have DSU := Lib.hid dSU
  have DTU := Lib.hid dTU
  clear dSU dTU
  go_wp2_with fail
  have c := lsend_any sa (by decide) w4 T gx (lxa old []) hx.1 (show 1 + 0 < 4294967296 by decide) (Nat.zero_le _)
  rw [lsend_yes (lxa old []) sa (by decide) (show ((0 : Nat) : Int) < 4 by decide) (show 1 + 0 ≠ 4294967295 by decide)] at c
  refine c.mono ?_
  rintro e w5 ⟨rfl, hL, ht⟩
  replace hb := hb.other ht DST.out hx.2.2
  replace hy := hy.other ht (fun k hk hk2 => DTU.out k hk2 hk) hx.2.2
  replace hx : LkAt w w5 T gx (lxa old [sa]) := hx.turn hL ht
  clear c hL ht
  go_wp2_with fail
  have c := lsend_any sb (by decide) w5 T gx (lxa old [sa]) hx.1 (show 1 + 1 < 4294967296 by decide) (by show 1 ≤ 1000; decide)
  rw [lsend_yes (lxa old [sa]) sb (by decide) (show ((1 : Nat) : Int) < 4 by decide) (show 1 + 1 ≠ 4294967295 by decide)] at c
  refine c.mono ?_
  rintro e w6 ⟨rfl, hL, ht⟩
  replace hb := hb.other ht DST.out hx.2.2
  replace hy := hy.other ht (fun k hk hk2 => DTU.out k hk2 hk) hx.2.2
  replace hx : LkAt w w6 T gx (lxa old [sa, sb]) := hx.turn hL ht
  clear c hL ht
  go_wp2_with fail
  have c := lsend_any sc (by decide) w6 U gy (lxa life []) hy.1 (show 1 + 0 < 4294967296 by decide) (Nat.zero_le _)
  rw [lsend_yes (lxa life []) sc (by decide) (show ((0 : Nat) : Int) < 4 by decide) (show 1 + 0 ≠ 4294967295 by decide)] at c
  refine c.mono ?_
  rintro e w7 ⟨rfl, hL, ht⟩
  replace hb := hb.other ht DSU.out hy.2.2
  replace hx := hx.other ht DTU.out hy.2.2
  replace hy : LkAt w w7 U gy (lxa life [sc]) := hy.turn hL ht
  clear c hL ht DTU
  go_wp2_with fail
  have c := out_any w7 T gx (lxa old [sa, sb]) hx.1 (show 1 + 2 < 4294967296 by decide) (show 1 < 4294967296 by decide) (show 2 ≤ 64 by decide)
  rw [show (lxa old [sa, sb]).outs.length = 2 from rfl] at c
  refine c.mono ?_
  rintro e w8 ⟨A, ca, rfl, hP, b8, hpf⟩
  replace hP : Row w8 37 9 (.slice A 2 ca) 2 ([lframe (lxa old [sa, sb]) 1 old 1 sa, lframe (lxa old [sa, sb]) 1 old 2 sb].flatMap frL) := hP
  have hpS : ∀ k, (Value.slice A 2 ca).ownBlock = some k → ¬ S k := fun k hk hk2 => by have := hb.1.lt k hk2; have := hpf k hk; omega
  replace hb := hb.below b8
  replace hy := hy.below b8
  clear c b8 hpf hx DST
  go_wp2_with fail
  have c := out_any w8 U gy (lxa life [sc]) hy.1 (show 1 + 1 < 4294967296 by decide) (show 1 < 4294967296 by decide) (show 1 ≤ 64 by decide)
  rw [show (lxa life [sc]).outs.length = 1 from rfl] at c
  refine c.mono ?_
  rintro e w9 ⟨B, cb, rfl, hQ, b9, hqf⟩
  replace hQ : Row w9 37 9 (.slice B 1 cb) 1 (frL (lframe (lxa life [sc]) 1 life 1 sc)) := hQ
  have hqS : ∀ k, (Value.slice B 1 cb).ownBlock = some k → ¬ S k := fun k hk hk2 => by have := hb.1.lt k hk2; have := hqf k hk; omega
  replace hb := hb.below b9
  replace hP := hP.below b9 (Nat.le_refl _)
  clear c b9 hqf hy DSU
  obtain ⟨f1, hf1⟩ : ∃ f, f = lframe (lxa old [sa, sb]) 1 old 1 sa := ⟨_, rfl⟩
  obtain ⟨f2, hf2⟩ : ∃ f, f = lframe (lxa old [sa, sb]) 1 old 2 sb := ⟨_, rfl⟩
  obtain ⟨f3, hf3⟩ : ∃ f, f = lframe (lxa life [sc]) 1 life 1 sc := ⟨_, rfl⟩
  rw [← hf1, ← hf2] at hP
  rw [← hf3] at hQ
  have F1 := Lib.hid hf1
  have F2 := Lib.hid hf2
  have F3 := Lib.hid hf3
  clear hf1 hf2 hf3
  obtain ⟨k, rfl, p0, p1, p2, p3, p4, p5, p6, p7, p8, _⟩ := row_fr2 hP
  go_wp2_with fail
  have c := recv_data f1 w9 S gb lb0 hb.1 (by rw [F1.out]; rfl) (by rw [F1.out]; rfl) (by rw [F1.out]; rfl) (by decide)
  have e1 : lrecv lb0 f1.life f1.seq f1.data = ([sa], [lframe (lbl old) 2 old 0 ⟨#[]⟩], lbl old) := by
    rw [F1.out]
    exact lrecv_new lb0 old sa (show 0 < old by have := H12.out; omega)
  rw [e1] at c
  refine c.mono ?_
  rintro e w10 ⟨sv1, av1, rfl, hL, ht, r1, _, k1, _⟩
  have hrS : ∀ k, sv1.ownBlock = some k → ¬ S k := fun k hk hk2 => by have := hb.1.lt k hk2; have := k1 k hk; omega
  replace hP := hP.keep fun k hk => ht.block k (hP.lt hk) (hpS k hk)
  replace hQ := hQ.keep fun k hk => ht.block k (hQ.lt hk) (hqS k hk)
  replace hb := hb.turn hL ht
  obtain ⟨A1, c1, rfl, _, _⟩ := r1.form
  clear c e1 hL ht k1 p0 p1 p2 p3 p4 p5 p6 p7 p8
  obtain ⟨k', rfl, p0, p1, p2, p3, p4, p5, p6, p7, p8⟩ := row_fr1 hQ
  go_wp2_with fail
  have c := recv_data f3 w10 S gb (lbl old) hb.1 (by rw [F3.out]; rfl) (by rw [F3.out]; rfl) (by rw [F3.out]; rfl) (show 2 < 4294967296 by decide)
  have e1 : lrecv (lbl old) f3.life f3.seq f3.data = ([sc], [lframe (lbl life) 2 life 0 ⟨#[]⟩], lbl life) := by
    rw [F3.out]
    exact lrecv_new (lbl old) life sc (show old < life by have := H12.out; omega)
  rw [e1] at c
  refine c.mono ?_
  rintro e w11 ⟨sv2, av2, rfl, hL, ht, r2, _, k2, _⟩
  have hsS : ∀ k, sv2.ownBlock = some k → ¬ S k := fun k hk hk2 => by have := hb.1.lt k hk2; have := k2 k hk; omega
  replace hP := hP.keep fun k hk => ht.block k (hP.lt hk) (hpS k hk)
  replace r1 := r1.keep fun k hk => ht.block k (r1.lt hk) (hrS k hk)
  replace hb := hb.turn hL ht
  obtain ⟨A2, c2, rfl, _, _⟩ := r2.form
  clear c e1 hL ht k2 p0 p1 p2 p3 p4 p5 p6 p7 p8 hqS hQ
  obtain ⟨k', e0, _, _, _, _, _, _, _, _, _, p0, p1, p2, p3, p4, p5, p6, p7, p8⟩ := row_fr2 hP
  cases e0
  go_wp2_with fail
  have c := recv_data f2 w11 S gb (lbl life) hb.1 (by rw [F2.out]; rfl) (by rw [F2.out]; rfl) (by rw [F2.out]; rfl) (show 2 < 4294967296 by decide)
  have e1 : lrecv (lbl life) f2.life f2.seq f2.data = ([], [], lbl life) := by
    rw [F2.out]
    exact lrecv_old (lbl life) old 2 sb (show old < life by have := H12.out; omega)
  rw [e1] at c
  refine c.mono ?_
  rintro e w12 ⟨sv3, av3, rfl, hL, ht, r3, r4, _, _⟩
  replace r1 := r1.keep fun k hk => ht.block k (r1.lt hk) (hrS k hk)
  replace r2 := r2.keep fun k hk => ht.block k (r2.lt hk) (hsS k hk)
  replace hb := hb.turn hL ht
  obtain ⟨A3, c3, rfl, _, _⟩ := r3.form
  obtain ⟨A4, c4, rfl, _, _⟩ := r4.form
  clear c e1 hL ht p0 p1 p2 p3 p4 p5 p6 p7 p8 hP r3 r4 hrS hsS hpS
  have R1 := Lib.hid (ArgAt.of_row r1)
  have R2 := Lib.hid (ArgAt.of_row r2)
  have HB := Lib.hid hb.2.1
  clear r1 r2 hb
  go_wp2_with fail
  have c := strSame_any A1 (some ⟨w12.heap.size, 0, none⟩) c1 1 [sa] [sa] (w12.alloc (.cells #[.string sa] 9)) (R1.out.alloc _) (ArgAt.freshL [.string sa]) (by unfold maxLen; decide) (by unfold maxLen; decide)
  simp only [decide_true] at c
  refine c.mono ?_
  clear c
  rintro e w13 ⟨rfl, b13⟩
  have B13 := Lib.hid (btL ((Below.refl _ _).alloc (Nat.le_refl _) _) b13)
  clear b13
  go_wp2_with fail
  have c := strSame_any A2 (some ⟨w13.heap.size, 0, none⟩) c2 1 [sc] [sc] (w13.alloc (.cells #[.string sc] 9)) ((R2.out.below B13.out).alloc _) (ArgAt.freshL [.string sc]) (by unfold maxLen; decide) (by unfold maxLen; decide)
  simp only [decide_true] at c
  refine c.mono ?_
  clear c
  rintro e w14 ⟨rfl, b14⟩
  have B14 := Lib.hid (btL ((Below.refl _ _).alloc (Nat.le_refl _) _) b14)
  clear b14
  go_wp2_with fail
  go_ret
  exact ⟨rfl, btL (btL HB.out B13.out) B14.out⟩
set_option maxRecDepth 100000 in
theorem linkLives_walk (old life : Nat) (h1 : old < 4294967296) (h2 : life < 4294967296) (w : World) :
    Calls Try.prog 5 #[.int .u32 (old : Int), .int .u32 (life : Int)] w fun e w' => e = .returned (.bool true) ∧ Below w.heap.size w w' := by
  by_cases h3 : old < 1
  · have d1 : decide ((old : Int) < 1) = true := by simp; omega
    obtain rfl : old = 0 := by omega
    clear h1 h3
    go_enter Try.func5, Try.ntmps5
    go_wp2_with fail
    refine (lshown_any _).mono ?_
    rintro e w1 ⟨rfl, b1⟩
    go_wp2_with fail
    go_ret
    exact ⟨rfl, b1⟩
  · by_cases h4 : life ≤ old
    · have d1 : decide ((old : Int) < 1) = false := by simp; omega
      have d2 : decide ((life : Int) ≤ (old : Int)) = true := by simp; omega
      have d4 : decide (life ≤ old) = true := by simp; omega
      clear h1 h2 h3
      go_enter Try.func5, Try.ntmps5
      go_wp2_with fail
      refine (lshown_any _).mono ?_
      rintro e w1 ⟨rfl, b1⟩
      go_wp2_with fail
      go_ret
      exact ⟨rfl, b1⟩
    · exact linkLives_yes old life (by omega) (by omega) h2 w
end Go.Proofs.Ytbmlenffcmmkbaa
