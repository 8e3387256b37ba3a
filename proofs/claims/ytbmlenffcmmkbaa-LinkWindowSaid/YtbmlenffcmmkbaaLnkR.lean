/-
  The laws of link: LinkWindow. Conditions: numbers are as the program's types allow.
-/
import Derived.Test.YtbmlenffcmmkbaaLnkQ
import Derived.BigRegion
import Derived.Deep.CutBlock
namespace Go.Proofs.Ytbmlenffcmmkbaa
open Go.RowKit Go.Shelf Ros Go.Maps
attribute [local go_sem] Oper.semAt_some
attribute [local go_sem ↓] Go.wp_at_zero Go.wp_at_succ
set_option linter.unusedVariables false
set_option maxRecDepth 100000 in
set_option maxHeartbeats 2000000 in
theorem marks_any (w : World) (S : Nat → Prop) (g : Nat) (s : Lk) (h : LkA w S g s) (hl : s.outs.length ≤ 64) :
    Calls Try.prog 15 #[.pointer (some ⟨g, 0, none⟩)] w fun e w' => ∃ B, e = .returned (.slice (some ⟨B, 0, none⟩) 4 4) ∧ w.heap.size ≤ B ∧ w'.heap[B]? = some (.cells #[.int .u32 (s.next : Int), .int .u32 (s.outs.length : Int), .int .u32 (s.peerLife : Int), .int .u32 (s.waits : Int)] 35 (0, 0)) ∧ Below w.heap.size w w' := by
  obtain ⟨_, _, q2, q4, q5, _⟩ := lk_cells h
  obtain ⟨b, hg, hm, hne, hS⟩ := h
  have q3 : w.cell? ⟨g, 3, none⟩ = some (.map (some b)) := cell_row hg 3
  have hln : (Builtin.len_ #[53] 3 #[.map (some b)]).run Try.prog w.drew = .ok (.int .i64 (s.outs.length : Int)) w.drew := hm.drew.len_ Try.underlying53 _
  have hwr : IntKind.u32.wrap (s.outs.length : Int) = (s.outs.length : Int) := by simp [IntKind.wrap, IntKind.signed, IntKind.bits]; omega
  clear hg hm hS hne
  generalize s.outs.length = L at *
  generalize s.next = nx at *
  go_enter Try.func15, Try.ntmps15
  go_wp2
  go_region
  all_goals
    go_wp2
    go_ret
    exact ⟨_, rfl, Nat.le_refl _, World.alloc_heap_new w _, ((Below.refl _ w).alloc (Nat.le_refl _) _).drew⟩
theorem seq_at {win : Int} {k : Nat} {c : Ec} (h : Ei win k c) (i : Nat) (hi : i < (c.a win).outs.length) (hl : i < (framesN (c.a win) (c.a win).outs.length).length) :
    (framesN (c.a win) (c.a win).outs.length)[i].seq = c.f + i ∧ ∃ hs : c.f + i - 1 < c.sent.length, (framesN (c.a win) (c.a win).outs.length)[i].data = c.sent[c.f + i - 1] := by
  have ho := h.outs
  have hf1 := h.f1
  have hs : c.f + i - 1 < c.sent.length := by omega
  have e : (framesN (c.a win) (c.a win).outs.length)[i] = lframe (c.a win) 1 (c.a win).life ((c.a win).first + i) ((c.a win).outs.getD i ⟨#[]⟩) := by simp [framesN]
  rw [e]
  refine ⟨rfl, hs, ?_⟩
  show (c.sent.drop (c.f - 1)).getD i ⟨#[]⟩ = _
  rw [List.getD_eq_getElem?_getD, List.getElem?_drop, show c.f - 1 + i = c.f + i - 1 by omega, List.getElem?_eq_getElem hs]
  rfl
set_option maxRecDepth 100000 in
set_option maxHeartbeats 4000000 in
theorem linkWindow_walk (win : Int) (A : Option Addr) (n cap : Nat) (xs : List Sp) (w : World) (_w1 : -9223372036854775808 ≤ win) (_w2 : win ≤ 9223372036854775807) (ha : ArgAt w 3 A n (cellsSps xs) ∧ (∀ x ∈ xs, okSp x) ∧ xs.length = n) :
    Calls Try.prog 7 #[.int .i64 win, .slice A n cap] w fun e w' => e = .returned (.bool true) ∧ Below w.heap.size w w' := by
  obtain ⟨ha, hx, rfl⟩ := ha
  go_enter Try.func7, Try.ntmps7
  go_wp2_with fail
  refine (lshown_any _).mono ?_
  rintro e w1 ⟨rfl, b1⟩
  go_wp2_with fail
  by_cases hw : win < 1 ∨ 64 < win
  · refine (ended_no win A xs.length cap w1 hw).mono ?_
    rintro e w2 ⟨rfl, b2⟩
    go_wp2_with fail
    go_ret
    exact ⟨rfl, btL b1 b2⟩
  · refine (ended_yes win A cap xs w1 (by omega) (by omega) (ha.below b1) hx).mono ?_
    rintro e w2 ⟨S, g, T, h, c, As, cs, Ac, cc, Aw, cw, rfl, hI, hE⟩
    have HSZ := Lib.hid hI.sent
    have HNX := Lib.hid hI.next
    have H64 := Lib.hid hI.outs64
    have HO := Lib.hid hI.outs
    have HOW := Lib.hid hI.out
    have HF1 := Lib.hid hI.f1
    have HQ := Lib.hid (seq_at hI)
    have HFL := Lib.hid (show (framesN (c.a win) (c.a win).outs.length).length = (c.a win).outs.length by simp [framesN])
    clear hI
    go_wp2_with fail
    refine (hE.goOut (by rw [HNX.out]; have := HSZ.out; omega) (show 1 < 4294967296 by decide) H64.out).mono ?_
    rintro e w3 ⟨Ao, co, rfl, r3, hE3, b3⟩
    go_wp2_with fail
    refine (marks_any w3 S g (c.a win) hE3.two.1.1 H64.out).mono ?_
    rintro e w4 ⟨B, rfl, hB, hm, b4⟩
    have r4 := r3.below b4
    have hE4 := hE3.below b4
    clear hE hE3 r3 b3
    have HM := Lib.hid hm
    have HR := Lib.hid r4.arg
    have HS := Lib.hid (ArgAt.of_row hE4.rs.1)
    have HB := Lib.hid (btL b1 hE4.two.from_)
    clear hm r4 hE4 b4 b1
    rw [HNX.out] at HM
    obtain ⟨p0, p1, _⟩ : w4.cell? ⟨B, 0, none⟩ = some (.int .u32 ((c.sent.length + 1 : Nat) : Int)) ∧ w4.cell? ⟨B, 1, none⟩ = some (.int .u32 ((c.a win).outs.length : Int)) ∧ True := ⟨cell_row HM.out 0, cell_row HM.out 1, trivial⟩
    generalize framesN (c.a win) (c.a win).outs.length = lf at *
    generalize (c.a win).outs.length = no at *
    generalize c.f = f at *
    have hf1 := HF1.out
    have ho := HO.out
    have hs100 := HSZ.out
    have h64 := H64.out
    have how := HOW.out
    have HALL := Lib.hid (show 1 ≤ f ∧ no = c.sent.length + 1 - f ∧ c.sent.length ≤ 100 from ⟨hf1, ho, hs100⟩)
    generalize hls : c.sent = ls at *
    have e1 : decide ((no : Int) > win) = false := by simp; omega
    have e2 : IntKind.i64.wrap ((ls.length + 1 : Nat) : Int) = ((ls.length + 1 : Nat) : Int) := by rw [IntKind.wrap_i64]; omega
    have e3 : IntKind.i64.wrap (no : Int) = (no : Int) := by rw [IntKind.wrap_i64]; omega
    have e4 : IntKind.i64.wrap ((ls.length : Int) + 1) = ((ls.length + 1 : Nat) : Int) := by rw [IntKind.wrap_i64]; omega
    have e5 : wrap64 ((ls.length : Int) + 1) = ((ls.length + 1 : Nat) : Int) := by unfold wrap64; omega
    clear hf1 ho hs100 h64 how hls
    go_wp2_with fail
    go_loopw [13] (fun i wr => ∃ k : Nat, k ≤ no ∧ i = .int .i64 k ∧ Below w4.heap.size w4 wr) (fun i _ => no - (intOf i).toNat)
    case atStart => exact ⟨0, Nat.zero_le _, rfl, Below.refl _ _⟩
    case round =>
      obtain ⟨k, hk, rfl, hBl⟩ := hrel
      by_cases hlt : k < no
      · have hB4 := obj_below HM.out hBl (obj_lt HM.out)
        have q0 : wr.cell? ⟨B, 0, none⟩ = some (.int .u32 ((ls.length + 1 : Nat) : Int)) := cell_row hB4 0
        have hkl : k < lf.length := by rw [HFL.out]; exact hlt
        obtain ⟨a, rfl, c0, _, _, _, _, c5, _, _, c8⟩ := fr_at (by rw [HFL.out]; exact HR.out.below hBl) k hkl
        obtain ⟨hq1, hq2, hq3⟩ := HQ.out k hlt hkl
        rw [hq1] at c5
        rw [hq3] at c8
        obtain ⟨a2, hl2, rfl, hab, d0⟩ := (HS.out.below hBl).one (f + k - 1) hq2
        generalize hqd : f + k = q at *
        generalize ls[q - 1] = dd at *
        have hk2 : (k : Int) < (no : Int) := by omega
        clear hq1 hq3
        obtain ⟨hf1, ho, hs100⟩ := HALL.out
        have hbq : ((q : Int) != IntKind.u32.wrap ((ls.length : Int) + 1 - IntKind.u32.wrap (IntKind.i64.wrap ((no : Int) - (k : Int))))) = false := by
          have h1 : IntKind.i64.wrap ((no : Int) - (k : Int)) = ((no - k : Nat) : Int) := by rw [IntKind.wrap_i64]; omega
          have h2 : IntKind.u32.wrap ((no - k : Nat) : Int) = ((no - k : Nat) : Int) := by simp [IntKind.wrap, IntKind.signed, IntKind.bits]; omega
          have h3 : IntKind.u32.wrap ((ls.length : Int) + 1 - ((no - k : Nat) : Int)) = (q : Int) := by simp [IntKind.wrap, IntKind.signed, IntKind.bits]; omega
          rw [h1, h2, h3]
          simp
        have hqw : IntKind.u32.wrap ((q : Int) - 1) = ((q - 1 : Nat) : Int) := by simp [IntKind.wrap, IntKind.signed, IntKind.bits]; omega
        have hqi : ((q - 1 : Nat) : Int) < (ls.length : Int) := by omega
        have hBl2 := Lib.hid hBl
        clear hf1 ho hs100 hq2 hl2 hqd hB4 hBl
        generalize q - 1 = p at *
        go_upto_region 12 with fail
        go_quiet (fail)
        have h64 := H64.out
        go_wp2_with fail
        go_roundw
        case rel => exact ⟨k + 1, by omega, by go_num, below_dN hBl2.out _⟩
        case measure => simp [intOf]; omega
      · have HBl := Lib.hid hBl
        clear hBl
        go_wp2_with fail
        go_ret
        exact ⟨rfl, btL HB.out HBl.out⟩
end Go.Proofs.Ytbmlenffcmmkbaa
