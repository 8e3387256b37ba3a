/-
  What the functions of store compute, one by one: Write, Snapshot, Cut, Holds; the snapshot's data; Recover. Conditions: at most 2^21 bytes lie there.
-/
import Derived.Test.YtcepdmpdabiglaaStoD
import Derived.Test.YtcepdmpdabiglaaBox
namespace Ros
open Go Go.RowKit
def encS (x : List UInt8) : Array Value := #[.string (str x)]
theorem arg_str {w : World} {A : Option Addr} {l : List (List UInt8)} (h : ArgAt w 1 A l.length (cellsS l)) (k : Nat) (hk : k < l.length) : ∃ a : Addr, A = some a ∧ w.cell? (a.add k) = some (.string (str l[k])) := by
  obtain ⟨a, e, _, hc⟩ := h.2 (by omega)
  exact ⟨a, e, hc k _ (by simp [cellsS, hk])⟩
end Ros
namespace Go.Proofs.Ytcepdmpdabiglaa
open Go.RowKit Go.Shelf Ros
attribute [local go_sem] Oper.semAt_some
set_option linter.unusedVariables false

set_option maxHeartbeats 400000 in
theorem Write_any (S : Nat → Prop) (g : Nat) (s : St) (d : ByteArray) (w : World) (h : StA w S g s) (hd : d.size ≤ maxLen) (hl : s.log.length ≤ 1990000) (hn : s.snap.size ≤ 1990000) (hc1 : 64 ≤ s.cap) (hc2 : s.cap ≤ 1048576) :
    Calls Try.prog 9 #[.pointer (some ⟨g, 0, none⟩), .string d] w fun e w' => e = .returned (.int .i64 (swrite s d).1) ∧ ∃ S', StA w' S' g (swrite s d).2 ∧ Turn S S' w w' := by
  have HH := Lib.hid (fun (w1 : World) (b1 : Below w.heap.size w w1) => holds_any S g s w1 (h.below b1) (by omega) (by omega))
  have HW := Lib.hid (fun (w1 : World) (b1 : Below w.heap.size w w1) => writeA_any S g s d w1 (h.below b1) hd hl hn hc1 hc2)
  have HT := Lib.hid (fun (w1 : World) (b1 : Below w.heap.size w w1) => Turn.of_below b1 h.lt)
  generalize swrite s d = r at *
  generalize s.holds = n at *
  clear h
  go_enter Try.func9, Try.ntmps9
  go_wp2_with fail
  go_region_law ((first
    | (go_simp; go_at_call 18; refine (HH.out _ (Below.refl _ w).drew).mono ?_; rintro e w1 ⟨rfl, b1⟩)
    | (go_simp; go_at_call 17; refine (HW.out _ (bt (Below.refl _ w).drew b1)).mono ?_; rintro e w2 ⟨rfl, S2, h2, t2⟩)))
  all_goals
    go_wp2_with fail
    go_ret
    exact ⟨rfl, S2, h2, (HT.out _ (bt (Below.refl _ w).drew b1)).trans t2⟩

set_option maxHeartbeats 400000 in
theorem Snapshot_any (S : Nat → Prop) (g : Nat) (s : St) (d : ByteArray) (w : World) (h : StA w S g s) (hd : d.size ≤ maxLen) (hc1 : 64 ≤ s.cap) (hc2 : s.cap ≤ 1048576) :
    Calls Try.prog 15 #[.pointer (some ⟨g, 0, none⟩), .string d] w fun e w' => e = .returned (.int .i64 (ssnap s d).1) ∧ ∃ S', StA w' S' g (ssnap s d).2 ∧ Turn S S' w w' := by
  have HW := Lib.hid (writeR_any S g s d w h hd hc1 hc2)
  generalize ssnap s d = r at *
  clear h
  go_enter Try.func15, Try.ntmps15
  go_wp2_with (go_at_call 17; refine HW.out.mono ?_; rintro e w2 ⟨rfl, S2, h2, t2⟩)
  go_ret
  exact ⟨rfl, S2, h2, t2⟩

set_option maxHeartbeats 400000 in
theorem Holds_any (S : Nat → Prop) (g : Nat) (s : St) (w : World) (h : StA w S g s) (hl : s.log.length ≤ 2000000) (hs : s.snap.size ≤ 2000000) :
    Calls Try.prog 10 #[.pointer (some ⟨g, 0, none⟩)] w fun e w' => e = .returned (.int .i64 (s.holds : Int)) ∧ Below w.heap.size w w' := by
  have HH := Lib.hid (holds_any S g s w h hl hs)
  generalize s.holds = n at *
  clear h
  go_enter Try.func10, Try.ntmps10
  go_wp2_with (go_at_call 18; refine HH.out.mono ?_; rintro e w1 ⟨rfl, b1⟩)
  go_ret
  exact ⟨rfl, b1⟩

theorem scut_down {s : St} (k : Int) (h : s.down = true) : scut s k = (31, s) := by unfold scut; rw [if_pos h]
theorem scut_neg {s : St} {k : Int} (h : s.down = false) (hk : k < 0) : scut s k = (2, s) := by unfold scut; rw [if_neg (by rw [h]; simp), if_pos hk]
theorem scut_yes {s : St} {k : Nat} (h : s.down = false) : scut s (k : Int) = (0, { s with cut := true, keep := k }) := by unfold scut; rw [if_neg (by rw [h]; simp), if_neg (by omega), Int.toNat_natCast]

set_option maxHeartbeats 400000 in
theorem Cut_any (S : Nat → Prop) (g : Nat) (s : St) (k : Int) (w : World) (h : StA w S g s) :
    Calls Try.prog 11 #[.pointer (some ⟨g, 0, none⟩), .int .i64 k] w fun e w' => e = .returned (.int .i64 (scut s k).1) ∧ StA w' S g (scut s k).2 ∧ Turn S S w w' := by
  obtain ⟨⟨_, _, p3, p4, p5⟩, f3, f4, _⟩ := h.cells
  cases hs : s.down
  · rw [hs] at p5
    by_cases hk : k < 0
    · rw [scut_neg hs hk]
      have HS := Lib.hid h
      clear h p3 p4 f3 f4
      go_enter Try.func11, Try.ntmps11
      go_wp2
      go_ret
      exact ⟨rfl, HS.out, .refl HS.out.lt⟩
    · obtain ⟨n, rfl⟩ := Int.eq_ofNat_of_zero_le (show 0 ≤ k by omega)
      rw [scut_yes hs]
      have HS := Lib.hid (h.set2 (.refl h.lt) true n)
      rw [hs] at HS
      clear h
      go_enter Try.func11, Try.ntmps11
      go_wp2
      go_ret
      exact ⟨rfl, HS.out.1, HS.out.2⟩
  · rw [hs] at p5
    rw [scut_down k hs]
    have HS := Lib.hid h
    clear h p3 p4 f3 f4
    go_enter Try.func11, Try.ntmps11
    go_wp2
    go_ret
    exact ⟨rfl, HS.out, .refl HS.out.lt⟩

theorem svalues_any (A : Option Addr) (n c : Nat) (w : World) :
    Calls Try.prog 33 #[.slice A n c] w fun e w' => e = .returned (.func (.func 38) #[] #[.pointer (some ⟨w.heap.size, 0, none⟩)]) ∧ w.alloc (.cells #[.slice A n c] 22) = w' := by
  go_enter Try.func33, Try.ntmps33
  go_wp2
  go_ret
  exact ⟨rfl, rfl⟩

set_option maxRecDepth 100000 in
set_option maxHeartbeats 1000000 in
theorem svalues1_iter (Bs : Nat) (A : Option Addr) (c : Nat) (l : List (List UInt8)) (hl : l.length ≤ 9223372036854775807) :
    IterOn Try.prog 38 #[.pointer (some ⟨Bs, 0, none⟩)] encS (fun _ W => W.cell? ⟨Bs, 0, none⟩ = some (.slice A l.length c) ∧ ArgAt W 1 A l.length (cellsS l)) l := by
  intro L J Jx W gJ gJx hRd hY h0
  have hc0 := (hRd _ _ h0).1
  refine callsIn_of_wp Try.func38 rfl trivial ?_ rfl
  simp only [Try.ntmps38, List.size_toArray, List.length_cons, List.length_nil, Nat.reduceAdd, Nat.reduceSub, Array.replicate_succ, Array.replicate_zero, List.push_toArray, List.append_toArray, List.nil_append, List.cons_append]
  gi_wp2
  gi_loopw [7] (fun i wr => ∃ k : Nat, k ≤ l.length ∧ i = .int .i64 k ∧ J (l.take k) wr) (fun i _ => l.length - (intOf i).toNat)
  case atStart => exact ⟨0, by omega, rfl, by simpa using h0⟩
  case round =>
    obtain ⟨k, hk, rfl, hj⟩ := hrel
    have hrd := (hRd _ _ hj).2
    by_cases hlt : k < l.length
    · obtain ⟨a, rfl, p0⟩ := arg_str hrd k hlt
      have hsp : l = l.take k ++ l[k] :: l.drop (k + 1) := by rw [List.getElem_cons_drop, List.take_append_drop]
      have hsp2 : l.take k ++ [l[k]] = l.take (k + 1) := List.take_append_getElem hlt
      have hY2 := fun W1 hW1 => hY _ _ _ W1 hsp hW1
      rw [hsp2] at hY2
      clear hsp hsp2 hY hrd
      unfold encS at hY2
      generalize str l[k] = x at *
      obtain ⟨fn, tmps, assign, body, hy, hR⟩ := hY2 _ hj
      clear hY2
      gi_wp2
      refine hR.mono ?_
      rintro e W3 (⟨rfl, hJ3⟩ | ⟨rfl, hJx3⟩)
      · gi_wp2
        go_roundw
        case rel => exact ⟨k + 1, by omega, by go_num, hJ3⟩
        case measure => simp [intOf]; omega
      · gi_wp2
        refine bodyPost_ret (results_none rfl _ _ _) rfl ?_
        exact ⟨⟨_, rfl⟩, .inr ⟨_, List.take_prefix _ _, hJx3⟩⟩
    · obtain rfl : k = l.length := by omega
      gi_wp2
      go_end0
      refine ⟨⟨_, rfl⟩, .inl ?_⟩
      rw [List.take_of_length_le (Nat.le_refl _)] at hj
      exact hj

set_option maxHeartbeats 400000 in
theorem records_any (b : ByteArray) (w : World) (hb : b.size ≤ 67108864) :
    Calls Try.prog 27 #[.string b] w fun e w' => ∃ (A : Option Addr) (c B : Nat), e = .returned (.func (.func 38) #[] #[.pointer (some ⟨B, 0, none⟩)]) ∧
      w.heap.size ≤ B ∧ Boxed w' B 22 (.slice A (readL (bl b)).1.length c) ∧ ArgAt w' 1 A (readL (bl b)).1.length (cellsS (readL (bl b)).1) ∧ Below w.heap.size w w' := by
  have HD := Lib.hid (read_any b w hb)
  generalize readL (bl b) = r at *
  generalize cellsS r.1 = cs at *
  generalize r.1.length = n at *
  go_enter Try.func27, Try.ntmps27
  go_wp2_with (first
    | (go_at_call 20; refine HD.out.mono ?_; rintro e w1 ⟨A, c, rfl, r1, b1⟩)
    | (go_at_call 33; refine (svalues_any _ _ _ _).mono ?_; rintro e w2 ⟨rfl, rfl⟩))
  go_ret
  exact ⟨A, c, _, rfl, b1.size, Boxed.new _ _ _, (ArgAt.of_row r1).alloc _, bal b1 _⟩

set_option maxRecDepth 100000 in
set_option maxHeartbeats 1000000 in
theorem snapshot_any (S : Nat → Prop) (g : Nat) (s : St) (w : World) (h : StA w S g s) (hs : s.snap.size ≤ 67108864) :
    Calls Try.prog 21 #[.pointer (some ⟨g, 0, none⟩)] w fun e w' => e = .returned (.string (snapD s.snap)) ∧ Below w.heap.size w w' := by
  have HC := Lib.hid (fun o : Obj => (h.below ((Below.refl _ w).alloc (Nat.le_refl _) o)).cells.1.1)
  have HR := Lib.hid (fun W : World => records_any s.snap W hs)
  have HSD : Hid (∀ x t, (readL (bl s.snap)).1 = x :: t → snapD s.snap = str x) := Lib.hid fun x t e => by unfold snapD; rw [e]
  have HS0 : Hid ((readL (bl s.snap)).1 = [] → snapD s.snap = ⟨#[]⟩) := Lib.hid fun e => by unfold snapD; rw [e]
  have hlen := (read_len (bl s.snap)).2
  rw [← size_bl] at hlen
  generalize snapD s.snap = sd at *
  generalize (readL (bl s.snap)).1 = l at *
  have hcell := HC.out (.cells #[.string ⟨#[]⟩] 9)
  clear h HC
  refine calls_marksP Try.func21 rfl ?_
  simp only [Try.ntmps21, List.size_toArray, List.length_cons, List.length_nil, Nat.reduceAdd, Nat.reduceSub, Array.replicate_succ, Array.replicate_zero, List.push_toArray, List.append_toArray, List.nil_append, List.cons_append]
  go_wp2
  go_step3
  go_wp2
  go_step3
  go_wp2_with (go_at_call 27; refine (HR.out _).mono ?_; rintro e w1 ⟨A, c, B, rfl, hB, bB, ha, b1⟩)
  have hbx := boxes1 b1
  have hBw := below1 b1
  have HA := Lib.hid ha
  clear b1 ha
  refine range_lawP (gf := 38) (lb := #[.pointer (some ⟨B, 0, none⟩)]) rfl (enters_of Try.func38 (by kernel_rfl) rfl) (svalues1_iter B A c l (by omega)) (fun _ => rfl)
    (fun pre W => Boxed W w.heap.size 9 (.string ⟨#[]⟩) ∧ Boxed W B 22 (.slice A l.length c) ∧ Below w.heap.size w W ∧ Below w1.heap.size w1 W ∧ pre = [])
    (fun e pre W => e = .exit 0 ∧ Boxed W w.heap.size 9 (.string sd) ∧ Below w.heap.size w W)
    (OwnFrom.and (own_box _ _ _ _) (OwnFrom.and (own_box _ _ _ _) (OwnFrom.and (own_below (Nat.le_refl _) hBw.size) (OwnFrom.and (own_below (Nat.le_refl _) (Nat.le_refl _)) (own_pure _ _)))))
    (fun _ => (own_pure _ _).and ((own_box _ _ _ _).and (own_below (Nat.le_refl _) hBw.size))) (fun _ _ h => ⟨h.2.1.cell, HA.out.below h.2.2.2.1⟩) ?h0 ?hround ?hdone ?hstop
  case h0 => exact ⟨hbx, bB, hBw, Below.refl _ _, rfl⟩
  case hround =>
    rintro L pre x post W hxs hlL hlW ⟨hb1, hb2, hb3, hb4, rfl⟩
    have hsd := HSD.out x post hxs
    have HSX := Lib.hid hsd
    clear hsd hxs
    dsimp only [encS]
    gi_wp2
    refine ⟨KeepsFrom.refl _ _, ⟨hb1, hb2, hb3, hb4, rfl⟩, ?_⟩
    clear hb1 hb2 hb3 hb4
    rintro W2 hg hsz ⟨hb1, hb2, hb3, hb4, _⟩
    have hc := hb1.cell
    have hf := hb1.frozen
    gi_wp2
    exact ⟨keeps_set _ _ _, rfl, by rw [HSX.out]; exact hb1.set _, hb3.setCell (p := ⟨w.heap.size, 0, none⟩) (Nat.le_refl _) _⟩
  case hdone =>
    rintro D W hD ⟨hb1, hb2, hb3, hb4, hl⟩ hK
    have hcs := hb1.cell
    have hsd := HS0.out hl
    subst hsd
    go_wp2
    (try rw [Exit.noGoto_ret])
    refine leaves_mark1 rfl hK ?_
    exact ⟨rfl, below_put hb3 (Nat.le_trans hBw.size hD) (Nat.le_refl _)⟩
  case hstop =>
    rintro D c pre W hD hp ⟨rfl, hb1, hb3⟩ hK
    have hcs := hb1.cell
    go_wp2
    (try rw [Exit.noGoto_ret])
    refine leaves_mark1 rfl hK ?_
    exact ⟨rfl, below_put hb3 (Nat.le_trans hBw.size hD) (Nat.le_refl _)⟩
end Go.Proofs.Ytcepdmpdabiglaa
