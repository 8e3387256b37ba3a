/-
  The laws of link: what stands in all of them, shown. Conditions: none.
-/
import Derived.Test.YtbmlenffcmmkbaaLnkJ
namespace Go.Proofs.Ytbmlenffcmmkbaa
open Go.RowKit Go.Shelf Ros Go.Maps
attribute [local go_sem] Oper.semAt_some
set_option linter.unusedVariables false
def xx : ByteArray := ⟨#[120]⟩
def la0 : Lk := lk0 1 2 1 4 1
def lb0 : Lk := lk0 2 1 1 4 1
def la1 : Lk := { la0 with outs := [xx] }
def lb1 : Lk := { lb0 with peerLife := 1, waits := 2 }
theorem la_send : lsend la0 xx = (0, la1) := by
  unfold lsend
  rw [if_pos (by decide), if_neg (by decide)]
  rfl
theorem row_fr {w0 W : World} {S T : Nat → Prop} {A : Option Addr} {c : Nat} {fr : Fr} (H : By2 w0 W S T 37 9 (.slice A 1 c) 1 (frL fr)) :
    ∃ k, A = some ⟨k, 0, none⟩ ∧ W.cell? ⟨k, 0, none⟩ = some (.int .i64 fr.wire) ∧ W.cell? ⟨k, 1, none⟩ = some (.int .i64 fr.kind) ∧ W.cell? ⟨k, 2, none⟩ = some (.int .i64 fr.src) ∧ W.cell? ⟨k, 3, none⟩ = some (.int .i64 fr.dst) ∧ W.cell? ⟨k, 4, none⟩ = some (.int .u32 (fr.life : Int)) ∧ W.cell? ⟨k, 5, none⟩ = some (.int .u32 (fr.seq : Int)) ∧ W.cell? ⟨k, 6, none⟩ = some (.int .u32 (fr.ack : Int)) ∧ W.cell? ⟨k, 7, none⟩ = some (.int .u32 (fr.hint : Int)) ∧ W.cell? ⟨k, 8, none⟩ = some (.string fr.data) := by
  obtain ⟨k, cap, e, _, _, _, hc, _⟩ := H.1.some_ (by decide)
  cases e
  exact ⟨k, rfl, hc 0 _ rfl, hc 1 _ rfl, hc 2 _ rfl, hc 3 _ rfl, hc 4 _ rfl, hc 5 _ rfl, hc 6 _ rfl, hc 7 _ rfl, hc 8 _ rfl⟩
set_option maxRecDepth 100000 in
set_option maxHeartbeats 1000000 in
theorem lshown_any (w : World) :
    Calls Try.prog 8 #[] w fun e w' => e = .returned (.bool true) ∧ Below w.heap.size w w' := by
  go_enter Try.func8, Try.ntmps8
  go_wp2_with fail
  refine (n1_law (Below.refl _ w) 1 2 1 4 1 ⟨by decide, by decide⟩ ⟨by decide, by decide⟩ (by decide) (.inl rfl) ⟨by decide, by decide⟩ (by decide)).mono ?_
  rintro e W1 ⟨g, S, rfl, h1, _⟩
  replace h1 : LkAt w W1 S g la0 := h1
  go_wp2_with fail
  refine (n2_law h1 2 1 1 4 1 ⟨by decide, by decide⟩ ⟨by decide, by decide⟩ (by decide) (.inl rfl) ⟨by decide, by decide⟩ (by decide)).mono ?_
  rintro e W2 ⟨h, T, rfl, h2, _⟩
  replace h2 : Two w W2 S g la0 T h lb0 := h2
  clear h1
  go_wp2_with fail
  have c3 := sd_law h2 xx (by decide) (by decide) (by decide)
  rw [la_send] at c3
  refine c3.mono ?_
  rintro e W3 ⟨rfl, h3, _⟩
  clear c3 h2
  go_wp2_with fail
  have c4 := ou_law h3 (by decide) (by decide) (by decide)
  have e4 : la1.outs.length = 1 := rfl
  rw [e4] at c4
  refine c4.mono ?_
  rintro e W4 ⟨A, cap, rfl, r4, h4, _⟩
  replace r4 : By2 w W4 S T 37 9 (.slice A 1 cap) 1 (frL (lframe la1 1 1 1 xx)) := r4
  clear h3 c4 e4
  obtain ⟨fr, hfr⟩ : ∃ fr, fr = lframe la1 1 1 1 xx := ⟨_, rfl⟩
  rw [← hfr] at r4
  have HF := Lib.hid hfr
  clear hfr
  obtain ⟨k, rfl, q0, q1, q2, q3, q4, q5, q6, q7, q8⟩ := row_fr r4
  go_wp2_with fail
  have c5 := da_law h4.symm fr (by rw [HF.out]; rfl) (by rw [HF.out]; rfl) (by rw [HF.out]; rfl) (by decide)
  have e5 : lrecv lb0 fr.life fr.seq fr.data = ([xx], [lframe lb1 2 1 0 ⟨#[]⟩], lb1) := by rw [HF.out]; rfl
  rw [e5] at c5
  have e5 : [xx].length = 1 := rfl
  have e6 : [lframe lb1 2 1 0 ⟨#[]⟩].length = 1 := rfl
  have e7 : [xx].map Value.string = [.string xx] := rfl
  rw [e5, e6, e7] at c5
  refine c5.mono ?_
  clear e5 e6 c5
  clear q0 q1 q2 q3 q4 q5 q6 q7 q8
  rintro e W5 ⟨A, c, B, d, rfl, r5, _, _, _, h5, t5⟩
  replace r4 := r4.symm.turn t5
  clear h4 t5
  obtain ⟨k2, e0, q0, q1, q2, q3, q4, q5, q6, q7, q8⟩ := row_fr r4
  cases e0
  go_wp2_with fail
  have c6 := da_law h5 fr (by rw [HF.out]; rfl) (by rw [HF.out]; rfl) (by rw [HF.out]; rfl) (by decide)
  have e5 : lrecv lb1 fr.life fr.seq fr.data = ([], [lframe lb1 2 1 0 ⟨#[]⟩], lb1) := by rw [HF.out]; rfl
  rw [e5] at c6
  have e6 : [lframe lb1 2 1 0 ⟨#[]⟩].length = 1 := rfl
  have e8 : ([] : List ByteArray).length = 0 := rfl
  rw [e6, e8] at c6
  refine c6.mono ?_
  clear e5 e6 e8 c6
  clear q0 q1 q2 q3 q4 q5 q6 q7 q8
  rintro e W6 ⟨A2, c2, B2, d2, rfl, _, _, _, _, h6, t6⟩
  replace r4 := r4.turn t6
  replace r5 := r5.turn t6
  clear h5 t6
  obtain ⟨k2, e0, q0, q1, q2, q3, q4, q5, q6, q7, q8⟩ := row_fr r4
  cases e0
  go_wp2_with fail
  refine (er_law h6.symm fr (by rw [HF.out]; decide)).mono ?_
  clear q0 q1 q2 q3 q4 q5 q6 q7 q8
  rintro e W7 ⟨rfl, h7, b7⟩
  replace r5 := r5.below b7
  clear h6 b7 r4
  have HR := Lib.hid r5
  have HH := Lib.hid h7
  clear r5 h7
  go_wp2_with fail
  have c8 := strSame_any A (some ⟨W7.heap.size, 0, none⟩) c 1 [xx] [xx] (W7.alloc (.cells #[.string xx] 9)) (HR.out.arg.alloc _) (ArgAt.freshL [.string xx]) (by unfold maxLen; decide) (by unfold maxLen; decide)
  simp only [decide_true] at c8
  refine c8.mono ?_
  clear c8
  rintro e W8 ⟨rfl, b8⟩
  go_wp2_with fail
  go_ret
  exact ⟨rfl, btL (btL HH.out.from_ ((Below.refl _ _).alloc (Nat.le_refl _) _)) b8⟩
end Go.Proofs.Ytbmlenffcmmkbaa
