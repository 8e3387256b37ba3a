/-
  What the functions of flight compute, one by one: all notes, the oldest one. Conditions: at most a thousand notes lie there.
-/
import Derived.Test.YtlfbmicpaacbnaaFliD
namespace Ros
open Go Go.RowKit
/-- The first place of a note to a node. -/
def mold (l : List Nt) (to : Int) : Int := match l.findIdx? (fun x => x.to == to) with | some i => (i : Int) | none => -1
def encN (x : Nat × Nt) : Array Value := #[.int .i64 (x.1 : Int), noteV x.2]
def numbered (l : List Nt) : List (Nat × Nt) := (List.range l.length).map fun i => (i, l.getD i nt0)
theorem numbered_split (l : List Nt) (k : Nat) (h : k < l.length) : numbered l = (numbered l).take k ++ (k, l[k]) :: (numbered l).drop (k + 1) ∧ (numbered l).take k ++ [(k, l[k])] = (numbered l).take (k + 1) := by
  have hl : k < (numbered l).length := by simpa [numbered] using h
  have he : (numbered l)[k] = (k, l[k]) := by simp [numbered, h]
  refine ⟨?_, ?_⟩
  · rw [← he, List.getElem_cons_drop, List.take_append_drop]
  · rw [← he, List.take_append_getElem]
theorem numbered_mid (l : List Nt) (pre : List (Nat × Nt)) (x : Nat × Nt) (post : List (Nat × Nt)) (h : numbered l = pre ++ x :: post) :
    pre.length < l.length ∧ x = (pre.length, l.getD pre.length nt0) ∧ pre = (numbered l).take pre.length := by
  have hl : (numbered l).length = l.length := by simp [numbered]
  have h1 : pre.length < (numbered l).length := by rw [h]; simp
  refine ⟨by omega, ?_, by rw [h]; simp⟩
  have h2 : (numbered l)[pre.length]'h1 = x := by simp [h]
  rw [← h2]; simp [numbered]
/-- None of these notes is to a node. -/
def noneTo (to : Int) (pre : List (Nat × Nt)) : Prop := ∀ x ∈ pre, x.2.to ≠ to
theorem noneTo_at {l : List Nt} {to : Int} {k : Nat} (h : noneTo to ((numbered l).take k)) (j : Nat) (hj : j < k) (hl : j < l.length) : l[j].to ≠ to := by
  have hl' : j < (numbered l).length := by simpa [numbered] using hl
  have he : (numbered l)[j] = (j, l[j]) := by simp [numbered, hl]
  have hm : (j, l[j]) ∈ (numbered l).take k := by
    rw [← he]
    rw [List.mem_take_iff_getElem]
    exact ⟨j, by omega, rfl⟩
  exact h _ hm
theorem mold_hit {l : List Nt} {to : Int} {k : Nat} (hk : k < l.length) (h : l[k].to = to) (hn : ∀ j (hj : j < k), l[j].to ≠ to) : mold l to = (k : Int) := by
  unfold mold
  rw [List.findIdx?_eq_some_iff_getElem.2 ⟨hk, by simpa using h, fun j hj => by simpa using hn j hj⟩]
theorem mold_none {l : List Nt} {to : Int} (hn : ∀ j (hj : j < l.length), l[j].to ≠ to) : mold l to = -1 := by
  unfold mold
  rw [List.findIdx?_eq_none_iff.2 (fun x hx => by
    obtain ⟨j, hj, rfl⟩ := List.mem_iff_getElem.1 hx
    simpa using hn j hj)]
end Ros
namespace Go.Proofs.Ytlfbmicpaacbnaa
open Go.RowKit Go.Shelf Ros
attribute [local go_sem] Oper.semAt_some
attribute [local go_sem ↓] Go.wp_at_zero Go.wp_at_succ

set_option maxRecDepth 100000 in
set_option maxHeartbeats 400000 in
theorem clone_any (v : Value) (l : List Nt) (w : World) (hr : Row w 35 3 v l.length (cellsNs l)) (hl : l.length ≤ 100000) :
    Calls Try.prog 24 #[v] w fun e w' => ∃ v', e = .returned v' ∧ Row w' 35 3 v' l.length (cellsNs l) ∧ (∀ k, v'.ownBlock = some k → w.heap.size ≤ k) ∧ Below w.heap.size w w' := by
  have hq : ∀ w' a c, _ := fun w' a c => run_eql_slice_nil (P := Try.prog) (w := w') _ _ a l.length c Try.underlying29
  rcases hr.2 with ⟨rfl, h0⟩ | ⟨g, cap, cur, rfl, hg, h1, h2, h3, h4⟩
  · obtain rfl : l = [] := List.eq_nil_of_length_eq_zero h0
    dsimp only [List.length_nil, Option.isNone] at hq
    go_enter Try.func24, Try.ntmps24
    go_wp2
    go_ret
    exact ⟨_, rfl, Row.nil _ _ _, fun k hk => by simp [Value.ownBlock] at hk, Below.refl _ _⟩
  · obtain ⟨i0, hi0, hz0, hz1, hz2⟩ := info_parts note_info
    have HR := Lib.hid hr
    have HS := Lib.hid (fun (w' : World) (h : Row w' 35 3 (.slice (some ⟨g, 0, none⟩) l.length cap) l.length (cellsNs l)) => Src.ofSlice w' (P := Try.prog) Try.underlying29 _ l.length cap _ (cellsNs_length l) (h.cells _ ⟨_, rfl⟩) (cellsNs_one' l))
    have HB := Lib.hid (Row.of_own (World.ownsRow_lit (base := w.heap.size) (e := 35) (size := 3) w #[] 0 (Nat.le_refl _) (by simp [maxLen]) (by rfl)))
    have HL1 := Lib.hid (show 0 + l.length ≤ maxLen by unfold maxLen; omega)
    have HL2 := Lib.hid (show (0 + l.length) * 32 ≤ 140737488355328 by omega)
    clear hr hg h1 h2 h3 h4
    go_enter Try.func24, Try.ntmps24
    go_wp2_with (at_builtin; refine wpList_append_row _ rfl _ _ _ _ rfl 35 i0 _ 3 32 Try.underlying29 hi0 hz0 hz1 hz2 rfl (.slice (some ⟨w.heap.size, 0, none⟩) 0 0) 0 [] rfl HB.out _ l.length _ rfl (HS.out _ (HR.out.alloc _)) HL1.out HL2.out ?_; intro A1 c1 w1 hr1 hg1 hat1)
    go_ret
    refine ⟨_, rfl, by simpa using hr1, fun k hk => ?_, ((Below.refl _ w).alloc (Nat.le_refl _) _).grown hg1 (by simp) (by simp [Value.ownBlock])⟩
    have hk' : (Value.slice A1 (0 + l.length) c1).ownBlock = some k := by simpa [Value.ownBlock] using hk
    rcases hat1 with e | e
    · rw [e] at hk'; simp [Value.ownBlock] at hk'; omega
    · rw [e] at hk'; simp at hk'; omega

set_option maxRecDepth 100000 in
set_option maxHeartbeats 400000 in
theorem all_any (S : Nat → Prop) (g n : Nat) (l : List Nt) (w : World) (h : FlA w S g n l) (hl : l.length ≤ 100000) :
    Calls Try.prog 13 #[.pointer (some ⟨g, 0, none⟩)] w fun e w' => ∃ v', e = .returned v' ∧ Row w' 35 3 v' l.length (cellsNs l) ∧ (∀ k, v'.ownBlock = some k → w.heap.size ≤ k) ∧ Below w.heap.size w w' := by
  obtain ⟨v, hg, hr, hS⟩ := h
  obtain ⟨A, c, rfl, _, _⟩ := hr.form
  have hc : w.cell? ⟨g, 1, none⟩ = some (.slice A l.length c) := cell_row hg 1
  have HR := Lib.hid hr
  clear hg hr hS
  go_enter Try.func13, Try.ntmps13
  go_wp2_with (go_at_call 24; refine (clone_any _ l _ HR.out hl).mono ?_; rintro e w1 ⟨v1, rfl, hr1, ho1, hb1⟩)
  go_ret
  exact ⟨v1, rfl, hr1, ho1, hb1⟩

theorem slices_all_any (A : Option Addr) (n c : Nat) (w : World) :
    Calls Try.prog 26 #[.slice A n c] w fun e w' => e = .returned (.func (.func 34) #[] #[.pointer (some ⟨w.heap.size, 0, none⟩)]) ∧ w.alloc (.cells #[.slice A n c] 29) = w' := by
  go_enter Try.func26, Try.ntmps26
  go_wp2
  go_ret
  exact ⟨rfl, rfl⟩

set_option maxRecDepth 100000 in
set_option maxHeartbeats 1000000 in
theorem all1_iter (Bs : Nat) (v : Value) (l : List Nt) (hl : l.length ≤ 100000) :
    IterOn Try.prog 34 #[.pointer (some ⟨Bs, 0, none⟩)] encN (fun _ W => W.cell? ⟨Bs, 0, none⟩ = some v ∧ Row W 35 3 v l.length (cellsNs l)) (numbered l) := by
  intro L J Jx W gJ gJx hRd hY h0
  have hc0 := (hRd _ _ h0).1
  obtain ⟨A, c, rfl, _, _⟩ := (hRd _ _ h0).2.form
  refine callsIn_of_wp Try.func34 rfl trivial ?_ rfl
  simp only [Try.ntmps34, List.size_toArray, List.length_cons, List.length_nil, Nat.reduceAdd, Nat.reduceSub, Array.replicate_succ, Array.replicate_zero, List.push_toArray, List.append_toArray, List.nil_append, List.cons_append]
  gi_wp2
  gi_loopw [7] (fun i wr => ∃ k : Nat, k ≤ l.length ∧ i = .int .i64 k ∧ J ((numbered l).take k) wr) (fun i _ => l.length - (intOf i).toNat)
  case atStart => exact ⟨0, by omega, rfl, by simpa using h0⟩
  case round =>
    obtain ⟨k, hk, rfl, hj⟩ := hrel
    have hrd := (hRd _ _ hj).2
    by_cases hlt : k < l.length
    · obtain ⟨gb, c', hv, _, _, hgb, hcs, hfs⟩ := hrd.some_ (by omega)
      cases hv
      have hx0 : wr.cell? ⟨gb, k * 3, none⟩ = some (.int .u32 (l[k].id : Int)) := hcs _ _ (by rw [← Nat.add_zero (k * 3), cellsNs_at l k 0 hlt (by omega)]; rfl)
      have hx1 : wr.cell? ⟨gb, k * 3 + 1, none⟩ = some (.int .i64 l[k].to) := hcs _ _ (by rw [cellsNs_at l k 1 hlt (by omega)]; rfl)
      have hx2 : wr.cell? ⟨gb, k * 3 + 2, none⟩ = some (.string l[k].s) := hcs _ _ (by rw [cellsNs_at l k 2 hlt (by omega)]; rfl)
      have hsp := numbered_split l k hlt
      clear hcs hrd
      have hY2 := fun W1 hW1 => hY _ _ _ W1 hsp.1 hW1
      rw [hsp.2] at hY2
      have HG := Lib.hid (fun o => gJ _ wr (wr.alloc o) hj (World.grownBy_alloc wr o none))
      clear hsp hY
      unfold encN noteV at hY2
      dsimp only at hY2
      generalize l[k] = x at *
      obtain ⟨fn, tmps, assign, body, hy, hR⟩ := hY2 _ (HG.out (.cells #[.int .u32 (x.id : Int), .int .i64 x.to, .string x.s] 35))
      clear hY2
      gi_wp2
      refine hR.mono ?_
      rintro e W3 (⟨rfl, hJ3⟩ | ⟨rfl, hJx3⟩)
      · gi_wp2
        go_roundw
        case rel => exact ⟨k + 1, by omega, by go_num, hJ3⟩
        case measure => simp [intOf]; omega
      · gi_wp2
        refine bodyPost_ret (results_none rfl _ _ _) rfl ?_
        exact ⟨⟨_, rfl⟩, .inr ⟨_, List.take_prefix _ _, hJx3⟩⟩
    · obtain rfl : k = l.length := by omega
      gi_wp2
      go_end0
      refine ⟨⟨_, rfl⟩, .inl ?_⟩
      rw [List.take_of_length_le (by simp [numbered])] at hj
      exact hj

set_option maxRecDepth 100000 in
set_option maxHeartbeats 1000000 in
theorem oldest_any (S : Nat → Prop) (g n : Nat) (l : List Nt) (to : Int) (w : World) (h : FlA w S g n l) (hl : l.length ≤ 100000) :
    Calls Try.prog 19 #[.pointer (some ⟨g, 0, none⟩), .int .i64 to] w fun e w' => e = .returned (.int .i64 (mold l to)) ∧ Below w.heap.size w w' := by
  obtain ⟨v, hg, hr, hS⟩ := h
  obtain ⟨A, c, rfl, _, _⟩ := hr.form
  have hc : w.cell? ⟨g, 1, none⟩ = some (.slice A l.length c) := cell_row hg 1
  have HR := Lib.hid hr
  have hgl := obj_lt hg
  clear hg hr hS
  refine calls_marksP Try.func19 rfl ?_
  simp only [Try.ntmps19, List.size_toArray, List.length_cons, List.length_nil, Nat.reduceAdd, Nat.reduceSub, Array.replicate_succ, Array.replicate_zero, List.push_toArray, List.append_toArray, List.nil_append, List.cons_append]
  go_wp2
  go_step3
  go_wp2
  go_step3
  go_wp2_with (go_at_call 26; refine (slices_all_any _ _ _ _).mono ?_; rintro e w' ⟨rfl, rfl⟩)
  refine range_lawP (gf := 34) (lb := #[.pointer (some ⟨w.heap.size + 2, 0, none⟩)]) rfl (enters_of Try.func34 (by kernel_rfl) rfl) (all1_iter (w.heap.size + 2) (.slice A l.length c) l hl) (fun _ => rfl)
    (fun pre W => Boxed W w.heap.size 3 (.int .i64 to) ∧ Boxed W (w.heap.size + 1) 3 (.int .i64 (-1)) ∧ Boxed W (w.heap.size + 2) 29 (.slice A l.length c) ∧ Below w.heap.size w W ∧ noneTo to pre)
    (fun e pre W => e = .exit 0 ∧ Boxed W (w.heap.size + 1) 3 (.int .i64 (mold l to)) ∧ Below w.heap.size w W)
    ((own_box _ _ _ _).and ((own_box _ _ _ _).and ((own_box _ _ _ _).and ((own_below (Nat.le_refl _) (by simp; omega)).and (own_pure _ _)))))
    (fun _ => (own_pure _ _).and ((own_box _ _ _ _).and (own_below (Nat.le_refl _) (by simp; omega)))) (fun _ _ h => ⟨h.2.2.1.cell, HR.out.below h.2.2.2.1 (Nat.le_refl _)⟩) ?h0 ?hround ?hdone ?hstop
  case h0 =>
    have hz : (((w.alloc (.cells #[.int .i64 to] 3)).alloc (.cells #[.int .i64 (-1)] 3)).heap.size) = w.heap.size + 2 := by simp
    refine ⟨((Boxed.new _ _ _).alloc _).alloc _, ?_, ?_, (((Below.refl _ w).alloc (Nat.le_refl _) _).alloc (by simp) _).alloc (by simp; omega) _, fun x hx => by simp at hx⟩
    · have h := Boxed.new (w.alloc (.cells #[.int .i64 to] 3)) 3 (.int .i64 (-1))
      rw [World.size_alloc] at h
      exact h.alloc _
    · have h := Boxed.new ((w.alloc (.cells #[.int .i64 to] 3)).alloc (.cells #[.int .i64 (-1)] 3)) 29 (.slice A l.length c)
      rw [hz] at h
      exact h
  case hround =>
    rintro L pre x post W hxs hl hlW ⟨hb1, hb2, hb3, hB, hN⟩
    obtain ⟨hx1, hx2, hx3⟩ := numbered_mid _ _ _ _ hxs
    dsimp only [encN, noteV]
    subst hx2
    have HM := Lib.hid (fun h : (l.getD pre.length nt0).to = to => mold_hit hx1 (by simpa [hx1] using h) (fun j hj => noneTo_at (hx3 ▸ hN) j hj (by omega)))
    clear hxs hx3
    have hN2 := Lib.hid (fun h : (l.getD pre.length nt0).to ≠ to => show noneTo to (pre ++ [(pre.length, l.getD pre.length nt0)]) from fun x hx => by
      rcases List.mem_append.1 hx with h1 | h1
      · exact hN x h1
      · rw [List.mem_singleton.1 h1]; exact h)
    have HN := Lib.hid hN
    clear hN
    generalize l.getD pre.length nt0 = x at *
    gi_wp2
    refine ⟨keeps_below ((Below.refl _ W).alloc (Nat.le_refl _) _), ⟨hb1.alloc _, hb2.alloc _, hb3.alloc _, hB.alloc (by have := hB.size; omega) _, HN.out⟩, ?_⟩
    clear hb1 hb2 hb3 hB
    rintro W2 hg hsz ⟨hb1, hb2, hb3, hB, _⟩
    have hbn := (hg.block W.heap.size (by simp) (by simp; omega)).trans (World.alloc_heap_new W _)
    have hca := hb1.cell
    have hcb := hb2.cell
    have hfb := hb2.frozen
    have hcn : W2.cell? ⟨W.heap.size, 1, none⟩ = some (.int .i64 x.to) := cell_row hbn 1
    have HSZ := Lib.hid hsz
    clear hsz
    by_cases ht : x.to = to
    · have ht' : (x.to == to) = true := by simpa using ht
      have HT := Lib.hid ht
      clear ht
      gi_wp2
      refine ⟨keeps_set _ _ _, rfl, ?_, hB.setCell (p := ⟨w.heap.size + 1, 0, none⟩) (by simp) _⟩
      rw [HM.out HT.out]
      exact hb2.set _
    · have ht' : (x.to == to) = false := by simpa using ht
      have HT := Lib.hid ht
      clear ht
      gi_wp2
      exact ⟨KeepsFrom.refl _ _, hb1, hb2, hb3, hB, hN2.out HT.out⟩
  case hdone =>
    rintro D W hD ⟨hb1, hb2, hb3, hB, hN⟩ hK
    have hcs := hb2.cell
    go_wp2
    rw [Exit.noGoto_ret]
    refine leaves_mark1 rfl hK ?_
    refine ⟨ret_int (mold_none fun j hj => noneTo_at (k := l.length) (by rw [List.take_of_length_le (by simp [numbered])]; exact hN) j hj hj).symm, below_put hB (by simp at hD; omega) (Nat.le_refl _)⟩
  case hstop =>
    rintro D c pre W hD hp ⟨rfl, hb2, hB⟩ hK
    have hcs := hb2.cell
    go_wp2
    rw [Exit.noGoto_ret]
    refine leaves_mark1 rfl hK ?_
    exact ⟨rfl, below_put hB (by simp at hD; omega) (Nat.le_refl _)⟩
end Go.Proofs.Ytlfbmicpaacbnaa
