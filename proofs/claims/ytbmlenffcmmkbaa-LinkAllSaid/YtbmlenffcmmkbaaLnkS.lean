/-
  The laws of link: LinkAll. Conditions: numbers are as the program's types allow.
-/
import Derived.Test.YtbmlenffcmmkbaaLnkQ
import Derived.Deep.CutBlock
import Derived.Deep.LoopGhost
namespace Ros
open Go Go.RowKit
def Ec.up (c : Ec) (lc : List ByteArray) (f p : Nat) : Ec := { c with came := lc, f := f, p := p }
/-- What holds behind j of what was out. -/
structure Ej (win : Int) (c : Ec) (j : Nat) (lc : List ByteArray) (f p : Nat) : Prop where
  ei : Ei win 100 (c.up lc f p)
  le : c.f + j ≤ lc.length + 1
  f0 : j = 0 → f = c.f
  f1 : 0 < j → f = lc.length + 1
theorem Ej.start {win : Int} {c : Ec} (h : Ei win 100 c) : Ej win c 0 c.came c.f c.p := ⟨h, by have := h.f2; omega, fun _ => rfl, fun h => absurd h (by omega)⟩
/-- What is out. -/
def outOk (c : Ec) (lf : List Fr) : Prop := ∀ i (hi : i < lf.length), lf[i].dst = 2 ∧ lf[i].seq = c.f + i ∧ ∀ lc f p, wayOk (c.up lc f p) lf[i]
theorem outOk_of {win : Int} {c : Ec} (h : Ei win 100 c) : outOk c (framesN (c.a win) (c.a win).outs.length) := by
  intro i hi
  have hl : (framesN (c.a win) (c.a win).outs.length).length = (c.a win).outs.length := by simp [framesN]
  have e : (framesN (c.a win) (c.a win).outs.length)[i] = lframe (c.a win) 1 (c.a win).life ((c.a win).first + i) ((c.a win).outs.getD i ⟨#[]⟩) := by simp [framesN]
  have ho := h.outs
  have hf1 := h.f1
  rw [e]
  refine ⟨rfl, rfl, fun lc f p => .inl ⟨rfl, rfl, rfl, rfl, by show 1 ≤ c.f + i; omega, ?_⟩⟩
  show c.sent[c.f + i - 1]? = some ((c.sent.drop (c.f - 1)).getD i ⟨#[]⟩)
  rw [List.getD_eq_getElem?_getD, List.getElem?_drop, show c.f - 1 + i = c.f + i - 1 by omega, List.getElem?_eq_getElem (by omega)]
  rfl
/-- One more comes, and its answer. -/
theorem Ej.step {win : Int} {c : Ec} {j : Nat} {lc : List ByteArray} {f p : Nat} (h : Ej win c j lc f p) (y : Fr) (hy : ∀ lc f p, wayOk (c.up lc f p) y) (hd : y.dst = 2) (hs : y.seq = c.f + j) :
    y.src = 1 ∧ y.kind = 1 ∧ ∃ (d : List ByteArray) (an : Fr), lrecv ((c.up lc f p).b win) y.life y.seq y.data = (d, [an], (c.up (lc ++ d) f 3).b win) ∧ d.length ≤ 1 ∧ an.src = 2 ∧ an.dst = 1 ∧ an.kind = 2 ∧
      lack ((c.up (lc ++ d) f 3).a win) an.life an.ack = (c.up (lc ++ d) ((lc ++ d).length + 1) 3).a win ∧ ((c.up (lc ++ d) f 3).a win).next = c.sent.length + 1 ∧ Ej win c (j + 1) (lc ++ d) ((lc ++ d).length + 1) 3 := by
  obtain ⟨h1, h2, d, an, h3, h4, h5, h6, h7, h8, h9, h10⟩ := h.ei.data (by omega) y (hy lc f p) hd
  obtain ⟨g1, g2, g3, g4, g5⟩ := h5.ack an h6 (by omega)
  have hf : f + (an.ack + 1 - f) = (lc ++ d).length + 1 := by
    have e1 : an.ack = (lc ++ d).length := h8
    have e2 : f ≤ (lc ++ d).length + 1 := h5.f2
    omega
  refine ⟨h1, h2, d, an, h3, h4, g1, g2, g3, ?_, h5.next, ?_⟩
  · have e : lack ((c.up (lc ++ d) f 3).a win) an.life an.ack = ({ c.up (lc ++ d) f 3 with f := f + (an.ack + 1 - f) } : Ec).a win := g4
    rw [e, hf]
    rfl
  · have e : Ei win (100 + 1 + 1) ({ c.up (lc ++ d) f 3 with f := f + (an.ack + 1 - f) } : Ec) := g5
    rw [hf] at e
    refine ⟨(show Ei win (100 + 1 + 1) (c.up (lc ++ d) ((lc ++ d).length + 1) 3) from e).at_ h.ei.sent, ?_, fun h => absurd h (by omega), fun _ => rfl⟩
    have hle := h.le
    by_cases hq : y.seq = lc.length + 1
    · have := h9 hq
      rw [this]
      simp
      omega
    · have := h10 hq
      rw [this]
      simp
      omega
/-- All has come, nothing is out. -/
theorem Ej.done {win : Int} {c : Ec} {lc : List ByteArray} {f p : Nat} (hc : Ei win 100 c) (h : Ej win c (c.a win).outs.length lc f p) : lc = c.sent ∧ ((c.up lc f p).a win).outs.length = 0 := by
  have ho := hc.outs
  have hle := h.le
  have h1 : lc.length ≤ c.sent.length := h.ei.le
  have h2 : lc = c.sent.take lc.length := h.ei.pre
  have hf2 := hc.f2
  have hcl := hc.le
  have hll : lc.length = c.sent.length := by omega
  refine ⟨by rw [h2, List.take_of_length_le (by omega)], ?_⟩
  have h3 := h.ei.outs
  rw [h3]
  show c.sent.length + 1 - f = 0
  rcases Nat.eq_zero_or_pos (c.a win).outs.length with e | e
  · have := h.f0 e
    omega
  · have := h.f1 e
    omega
end Ros
namespace Go.Proofs.Ytbmlenffcmmkbaa
open Go.RowKit Go.Shelf Ros Go.Maps
attribute [local go_sem] Oper.semAt_some
attribute [local go_sem ↓] Go.wp_at_zero Go.wp_at_succ
set_option linter.unusedVariables false
set_option maxRecDepth 100000 in
set_option maxHeartbeats 8000000 in
theorem linkAll_walk (win : Int) (A : Option Addr) (n cap : Nat) (xs : List Sp) (w : World) (_w1 : -9223372036854775808 ≤ win) (_w2 : win ≤ 9223372036854775807) (ha : ArgAt w 3 A n (cellsSps xs) ∧ (∀ x ∈ xs, okSp x) ∧ xs.length = n) :
    Calls Try.prog 4 #[.int .i64 win, .slice A n cap] w fun e w' => e = .returned (.bool true) ∧ Below w.heap.size w w' := by
  obtain ⟨ha, hx, rfl⟩ := ha
  go_enter Try.func4, Try.ntmps4
  go_wp2_with fail
  refine (lshown_any _).mono ?_
  rintro e w1 ⟨rfl, b1⟩
  go_wp2_with fail
  by_cases hw : win < 1 ∨ 64 < win
  · refine (ended_no win A xs.length cap w1 hw).mono ?_
    rintro e w2 ⟨rfl, b2⟩
    go_wp2_with fail
    go_ret
    exact ⟨rfl, btL b1 b2⟩
  · refine (ended_yes win A cap xs w1 (by omega) (by omega) (ha.below b1) hx).mono ?_
    rintro e w2 ⟨S, g, T, h, c, As, cs, Ac, cc, Aw, cw, rfl, hI, hE⟩
    obtain ⟨j0, hj0, jz0, jz1, jz2⟩ := info_parts strL_info
    have HOK := Lib.hid (outOk_of hI)
    have HFL := Lib.hid (show (framesN (c.a win) (c.a win).outs.length).length = (c.a win).outs.length by simp [framesN])
    have HDN := Lib.hid (fun lc f p (h : Ej win c (c.a win).outs.length lc f p) => Ej.done hI h)
    have HJ0 := Lib.hid (Ej.start hI)
    have HSL := Lib.hid hI.sent
    have h64 := hI.outs64
    have hnx := hI.next
    have hsl := hI.sent
    go_wp2_with fail
    refine (hE.goOut (by omega) (show 1 < 4294967296 by decide) h64).mono ?_
    rintro e w3 ⟨Ao, co, rfl, r3, hE3, b3⟩
    generalize framesN (c.a win) (c.a win).outs.length = lf at *
    generalize (c.a win).outs.length = no at *
    have HE0 := Lib.hid (show En w1 w3 S g T h ((c.up c.came c.f c.p).a win) ((c.up c.came c.f c.p).b win) (.slice As c.sent.length cs) c.sent (.slice Ac c.came.length cc) c.came (.slice Aw c.way.length cw) c.way from hE3)
    have HR0 := Lib.hid r3
    have HN64 := Lib.hid h64
    clear hE hE3 r3 b3 hI hnx hsl h64
    go_wp2_with fail
    go_loopg [7, 12] no (fun gk vc i wr => ∃ (j : Nat) (lc : List ByteArray) (f p : Nat) (Ac : Option Addr) (cc : Nat), gk + j = no ∧ i = .int .i64 j ∧ vc = .slice Ac lc.length cc ∧ Ej win c j lc f p ∧
      En w1 wr S g T h ((c.up lc f p).a win) ((c.up lc f p).b win) (.slice As c.sent.length cs) c.sent (.slice Ac lc.length cc) lc (.slice Aw c.way.length cw) c.way ∧ By2 w1 wr S T 37 9 (.slice Ao no co) no (lf.flatMap frL))
    case atStart => exact ⟨0, c.came, c.f, c.p, Ac, cc, by omega, rfl, rfl, HJ0.out, HE0.out, HR0.out⟩
    case round =>
      obtain ⟨j, lc, f, p, Ac1, cc1, hgk, rfl, rfl, hJ, hE, hR⟩ := hrel
      have HJ := Lib.hid hJ
      have HE := Lib.hid hE
      have HR := Lib.hid hR
      clear HE0 HR0 hJ hE hR HJ0
      by_cases hlt : j < no
      · have hjl : j < lf.length := by rw [HFL.out]; exact hlt
        obtain ⟨hd, hs, hy⟩ := HOK.out j hjl
        obtain ⟨a2, rfl, p0, p1, p2, p3, p4, p5, p6, p7, p8⟩ := fr_at (by rw [HFL.out]; exact HR.out.arg) j hjl
        generalize lf[j] = y at *
        obtain ⟨y1, y3, dl, an, hrec, hdl, a1, a3, a4, hak, hnx, hJ2⟩ := HJ.out.step y hy hd hs
        have HRC := Lib.hid (fun (W : World) (E : En w1 W S g T h ((c.up lc f p).a win) ((c.up lc f p).b win) (.slice As c.sent.length cs) c.sent (.slice Ac1 lc.length cc1) lc (.slice Aw c.way.length cw) c.way) => E.data y y1 hd y3 (by show lc.length + 1 < 4294967296; have h1 : lc.length ≤ c.sent.length := HJ.out.ei.le; have := HSL.out; omega) hrec)
        have HAK := Lib.hid (fun (W : World) (vc : Value) (lc2 : List ByteArray) (E : En w1 W S g T h ((c.up (lc ++ dl) f 3).a win) ((c.up (lc ++ dl) f 3).b win) (.slice As c.sent.length cs) c.sent vc lc2 (.slice Aw c.way.length cw) c.way) => E.ack an a1 a3 a4 (by rw [hnx]; have := HSL.out; omega) hak)
        simp only [frV] at HRC HAK
        have HJ2 := Lib.hid hJ2
        have hcl : lc.length ≤ 100 := by have h1 : lc.length ≤ c.sent.length := HJ.out.ei.le; have := HSL.out; omega
        have hn1 : lc.length + dl.length ≤ maxLen := by unfold maxLen; omega
        have hn2 : (lc.length + dl.length) * 16 ≤ 140737488355328 := by omega
        have HC1 := Lib.hid (show (lc ++ dl).length = lc.length + dl.length by simp)
        have HC2 := Lib.hid (show (lc ++ dl).map Value.string = lc.map Value.string ++ dl.map Value.string by simp)
        have HGK := Lib.hid hgk
        have HN := HN64.out
        clear y1 y3 hd hs hy hrec hdl a1 a3 a4 hak hnx hJ2 hcl hjl hgk
        go_wp2_with (first
          | (go_at_call 12; (with_reducible refine (HRC.out _ HE.out).mono ?_); rintro e w6 ⟨A6, c6, B6, k6, rfl, r6, s6, f6, h6, t6⟩; have H6 := Lib.hid h6; have R6 := Lib.hid r6; have S6 := Lib.hid s6; have HR6 := Lib.hid (HR.out.symm.turn t6).symm; clear r6 s6 f6 h6 t6)
          | (at_builtin; generalize hG : wpList _ _ _ _ _ _ = G'))
        subst hG
        clear p0 p1 p2 p3 p4 p5 p6 p7 p8
        refine wpList_append_row _ rfl _ _ 24 24 rfl 9 j0 _ 1 16 Try.underlying24 hj0 jz0 jz1 jz2 rfl _ lc.length _ rfl H6.out.rc.1 _ dl.length _ rfl (R6.out.1.srcL Try.underlying24 (str_one dl)) hn1 hn2 ?_
        intro A7 c7 w7 hr7 hg7 hat7
        rw [← HC2.out, ← HC1.out] at hr7
        have S7 := Lib.hid (S6.out.grown hg7 (H6.out.rc.1.apart S6.out.1 (by decide)))
        have HR7 := Lib.hid (HR6.out.grown hg7 (H6.out.rc.1.apart HR6.out.1 (by decide)))
        have H7 := Lib.hid (H6.out.putCame hr7 hg7 (by rw [HC1.out]; exact hat7))
        clear hr7 hg7 hat7
        obtain ⟨kb, rfl, _⟩ := row_fr S7.out
        go_wp2_with fail
        go_loopg [16] 1 (fun gi kk wi => (gi = 1 ∧ kk = .int .i64 0 ∧ En w1 wi S g T h ((c.up (lc ++ dl) f 3).a win) ((c.up (lc ++ dl) f 3).b win) (.slice As c.sent.length cs) c.sent (.slice A7 (lc ++ dl).length c7) (lc ++ dl) (.slice Aw c.way.length cw) c.way ∧ By2 w1 wi S T 37 9 (.slice (some ⟨kb, 0, none⟩) 1 k6) 1 (frL an) ∧ By2 w1 wi S T 37 9 (.slice (some a2) no co) no (lf.flatMap frL)) ∨
          (gi = 0 ∧ kk = .int .i64 1 ∧ En w1 wi S g T h ((c.up (lc ++ dl) ((lc ++ dl).length + 1) 3).a win) ((c.up (lc ++ dl) ((lc ++ dl).length + 1) 3).b win) (.slice As c.sent.length cs) c.sent (.slice A7 (lc ++ dl).length c7) (lc ++ dl) (.slice Aw c.way.length cw) c.way ∧ By2 w1 wi S T 37 9 (.slice (some a2) no co) no (lf.flatMap frL)))
        case atStart => exact .inl ⟨rfl, rfl, H7.out, S7.out, HR7.out⟩
        case round =>
          clear H7 S7 HR7 H6 R6 S6 HR6
          rcases hrel with ⟨rfl, rfl, hE8, hS8, hR8⟩ | ⟨rfl, rfl, hE8, hR8⟩
          · obtain ⟨_, e0, q0, q1, q2, q3, q4, q5, q6, q7, q8⟩ := row_fr hS8
            cases e0
            have H8 := Lib.hid hE8
            have R8 := Lib.hid hR8
            clear hE8 hS8 hR8
            go_wp2_with (go_at_call 12; (with_reducible refine (HAK.out _ _ _ H8.out).mono ?_); rintro e w9 ⟨rfl, h9, t9⟩; have H9 := Lib.hid h9; have R9 := Lib.hid (R8.out.turn t9); clear h9 t9)
            go_roundg 0
            case measure => omega
            case rel => exact .inr ⟨rfl, by first | rfl | go_num, H9.out, R9.out⟩
          · have H8 := Lib.hid hE8
            have R8 := Lib.hid hR8
            clear hE8 hR8
            go_wp2_with fail
            go_roundg (gk - 1)
            case measure => have := HGK.out; omega
            case rel => exact ⟨j + 1, lc ++ dl, (lc ++ dl).length + 1, 3, A7, c7, by have := HGK.out; omega, by go_num, by rw [HC1.out], HJ2.out, H8.out, R8.out⟩
      · obtain rfl : j = no := by omega
        obtain ⟨e1, e2⟩ := HDN.out _ _ _ HJ.out
        subst e1
        have HSM := Lib.hid (strSame_any Ac1 As cc1 cs c.sent c.sent wr HE.out.rc.arg HE.out.rs.arg (by have := HSL.out; unfold maxLen; omega) (by have := HSL.out; unfold maxLen; omega))
        rw [decide_eq_true rfl] at HSM
        have hnx := HJ.out.ei.next
        have HOU := Lib.hid (fun (W : World) (E : En w1 W S g T h ((c.up c.sent f p).a win) ((c.up c.sent f p).b win) (.slice As c.sent.length cs) c.sent (.slice Ac1 c.sent.length cc1) c.sent (.slice Aw c.way.length cw) c.way) => E.goOut (by rw [hnx]; have := HSL.out; show c.sent.length + 1 < _; omega) (show 1 < 4294967296 by decide) (by rw [e2]; decide))
        rw [e2] at HOU
        have HBB := Lib.hid (btL b1 HE.out.two.from_)
        have hN := HN64.out
        clear e2 hnx hgk hlt
        go_wp2_with (first
          | (go_at_call 10; (with_reducible refine HSM.out.mono ?_); rintro e w6 ⟨rfl, b6⟩; have B6 := Lib.hid b6; have H6 := Lib.hid (HE.out.below b6); clear b6)
          | (go_at_call 11; (with_reducible refine (HOU.out _ H6.out).mono ?_); rintro e w7 ⟨A7, c7, rfl, _, _, b7⟩; have B7 := Lib.hid b7; clear b7))
        go_ret
        exact ⟨rfl, btL (btL HBB.out B6.out) B7.out⟩
end Go.Proofs.Ytbmlenffcmmkbaa
