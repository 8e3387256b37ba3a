/-
  What the functions of flight compute, one by one: sending, taking. Conditions: at most a thousand notes lie there.
-/
import Derived.Test.YtlfbmicpaacbnaaFliB
import Derived.Deep.RegionLaw
namespace Ros
open Go Go.RowKit
def noteV (x : Nt) : Value := .agg #[.int .u32 (x.id : Int), .int .i64 x.to, .string x.s]
end Ros
namespace Go.Proofs.Ytlfbmicpaacbnaa
open Go.RowKit Go.Shelf Ros
attribute [local go_sem] Oper.semAt_some
attribute [local go_sem ↓] Go.wp_at_zero Go.wp_at_succ

set_option maxRecDepth 100000 in
set_option maxHeartbeats 400000 in
theorem send_any (S : Nat → Prop) (g n : Nat) (l : List Nt) (to : Int) (s : ByteArray) (w : World) (h : FlA w S g n l) (hl : l.length ≤ 1000) :
    Calls Try.prog 12 #[.pointer (some ⟨g, 0, none⟩), .int .i64 to, .string s] w fun e w' => e = .returned (.tuple #[.int .u32 ((msend ⟨n, l⟩ to s).1.1 : Int), .int .i64 (msend ⟨n, l⟩ to s).1.2]) ∧
      ∃ S', FlA w' S' g (msend ⟨n, l⟩ to s).2.n (msend ⟨n, l⟩ to s).2.l ∧ Turn S S' w w' := by
  have hL := Lib.hid (launch_any S g n l to s w h hl)
  have HT := Lib.hid (Turn.refl h.lt)
  have HF := Lib.hid h
  unfold msend
  clear h hl
  generalize mlaunch ⟨n, l⟩ to s = r at *
  by_cases h1 : to < 0 ∨ 16 ≤ to
  · rw [if_pos h1]
    rcases h1 with h1 | h1
    all_goals
      go_enter Try.func12, Try.ntmps12
      go_wp2
      go_ret2
      exact ⟨rfl, S, HF.out, HT.out⟩
  · rw [if_neg h1]
    go_enter Try.func12, Try.ntmps12
    go_wp2_with (go_at_call 23; refine hL.out.mono ?_; rintro e w1 ⟨rfl, S2, hf2, ht2⟩)
    go_ret2
    exact ⟨rfl, S2, hf2, ht2⟩

theorem load_note (w : World) (b : Nat) (x : Nt) (h : w.heap[b]? = some (.cells #[.int .u32 (x.id : Int), .int .i64 x.to, .string x.s] 35 (0, 0))) :
    (loadVar 35 ⟨b, 0, none⟩).run Try.prog w = .ok (noteV x) w := by
  have h0 : w.cell? ⟨b, 0, none⟩ = some (.int .u32 (x.id : Int)) := cell_row h 0
  have h1 : w.cell? ⟨b, 1, none⟩ = some (.int .i64 x.to) := cell_row h 1
  have h2 : w.cell? ⟨b, 2, none⟩ = some (.string x.s) := cell_row h 2
  clear h
  simp only [go_sem, noteV, *]
  go_simp

set_option maxRecDepth 100000 in
set_option maxHeartbeats 400000 in
theorem take_no (S : Nat → Prop) (g n : Nat) (l : List Nt) (a : Int) (w : World) (h : FlA w S g n l) (ha : isB l a = false) :
    Calls Try.prog 17 #[.pointer (some ⟨g, 0, none⟩), .int .i64 a] w fun e w' => e = .returned (.tuple #[noteV nt0, .int .i64 2]) ∧ FlA w' S g n l ∧ Turn S S w w' := by
  have HI := Lib.hid (fun w2 (h2 : FlA w2 S g n l) => is_any S g n l a w2 h2)
  have HF := Lib.hid h
  rw [ha] at HI
  clear h ha
  go_enter Try.func17, Try.ntmps17
  go_wp2_with (go_at_call 25; refine (HI.out _ (HF.out.alloc _)).mono ?_; rintro e w1 ⟨rfl, rfl⟩)
  refine bodyPost_ret (v := .tuple #[noteV nt0, .int .i64 2]) ?_ rfl ⟨rfl, HF.out.alloc _, (Turn.refl HF.out.lt).alloc _⟩
  rw [results_cell_tmp rfl]
  have hld := load_note _ w.heap.size nt0 (World.alloc_heap_new w (.cells #[.int .u32 (0 : Int), .int .i64 0, .string ⟨#[]⟩] 35))
  simp [asAddr, Result.andThen, hld]

theorem take_end (S : Nat → Prop) (g n gb c k c1 : Nat) (l : List Nt) (x : Nt) (w w1 : World) (A1 : Option Addr) (hg : w.heap[g]? = some (.cells #[.int .u32 (n : Int), .slice (some ⟨gb, 0, none⟩) l.length c] 61 (0, 0)))
    (hk : k < l.length) (hgb : gb < w.heap.size) (hF : FlA w S g n l) (hg1 : w1.heap[g]? = some (.cells #[.int .u32 (n : Int), .slice (some ⟨gb, 0, none⟩) l.length c] 61 (0, 0)))
    (hb0 : w1.heap[w.heap.size]? = some (.cells #[.int .u32 (0 : Int), .int .i64 0, .string ⟨#[]⟩] 35 (0, 0)))
    (hr1 : Row w1 35 3 (.slice A1 (k + (l.length - (k + 1))) c1) (k + (l.length - (k + 1))) (cellsNs (l.take k) ++ cellsNs (l.drop (k + 1))))
    {o1 o2 : Obj} (hgrow : ((w.alloc o1).alloc o2).drew.grownBy w1 (Value.slice (some ⟨gb, 0, none⟩) k k).ownBlock)
    (hat : (Value.slice A1 (k + (l.length - (k + 1))) c1).ownBlock = (Value.slice (some ⟨gb, 0, none⟩) k k).ownBlock ∨ (Value.slice A1 (k + (l.length - (k + 1))) c1).ownBlock = some ((w.alloc o1).alloc o2).drew.heap.size) :
    ∃ S', FlA ((((w1.setCell ⟨g, 1, none⟩ (.slice A1 (k + (l.length - (k + 1))) c1)).setCell ⟨w.heap.size, 0, none⟩ (.int .u32 (x.id : Int))).setCell ⟨w.heap.size, 1, none⟩ (.int .i64 x.to)).setCell ⟨w.heap.size, 2, none⟩ (.string x.s)) S' g n (l.eraseIdx k) ∧
      Turn S S' w ((((w1.setCell ⟨g, 1, none⟩ (.slice A1 (k + (l.length - (k + 1))) c1)).setCell ⟨w.heap.size, 0, none⟩ (.int .u32 (x.id : Int))).setCell ⟨w.heap.size, 1, none⟩ (.int .i64 x.to)).setCell ⟨w.heap.size, 2, none⟩ (.string x.s)) ∧
      (loadVar 35 ⟨w.heap.size, 0, none⟩).run Try.prog ((((w1.setCell ⟨g, 1, none⟩ (.slice A1 (k + (l.length - (k + 1))) c1)).setCell ⟨w.heap.size, 0, none⟩ (.int .u32 (x.id : Int))).setCell ⟨w.heap.size, 1, none⟩ (.int .i64 x.to)).setCell ⟨w.heap.size, 2, none⟩ (.string x.s)) =
        .ok (noteV x) ((((w1.setCell ⟨g, 1, none⟩ (.slice A1 (k + (l.length - (k + 1))) c1)).setCell ⟨w.heap.size, 0, none⟩ (.int .u32 (x.id : Int))).setCell ⟨w.heap.size, 1, none⟩ (.int .i64 x.to)).setCell ⟨w.heap.size, 2, none⟩ (.string x.s)) := by
  have hlt := hF.lt
  obtain ⟨v, hgv, hrv, hS⟩ := hF
  have hv : v = .slice (some ⟨gb, 0, none⟩) l.length c := by
    rw [hg] at hgv
    injection hgv with hgv
    injection hgv with hgv
    simp at hgv
    exact hgv.symm
  subst hv
  have hel : k + (l.length - (k + 1)) = (l.eraseIdx k).length := by rw [List.length_eraseIdx, if_pos hk]; omega
  have hec : cellsNs (l.take k) ++ cellsNs (l.drop (k + 1)) = cellsNs (l.eraseIdx k) := by rw [← cellsNs_append, List.eraseIdx_eq_take_drop_succ]
  rw [hec] at hr1
  rw [hel] at hr1 hat ⊢
  generalize hw2 : w1.setCell ⟨g, 1, none⟩ (.slice A1 (l.eraseIdx k).length c1) = w2
  have hgS : g < w.heap.size := obj_lt hg
  have hs1 : w.heap.size < w1.heap.size := obj_lt hb0
  have hg2 : w2.heap[g]? = some (.cells #[.int .u32 (n : Int), .slice A1 (l.eraseIdx k).length c1] 61 (0, 0)) := by rw [← hw2]; simpa using obj_set hg1 1 (.slice A1 (l.eraseIdx k).length c1)
  have hb2 : w2.heap[w.heap.size]? = some (.cells #[.int .u32 (0 : Int), .int .i64 0, .string ⟨#[]⟩] 35 (0, 0)) := by rw [← hw2]; exact obj_far hb0 (by simp; omega) _
  have hr2 : Row w2 35 3 (.slice A1 (l.eraseIdx k).length c1) (l.eraseIdx k).length (cellsNs (l.eraseIdx k)) := by
    rw [← hw2]
    have hne1 := hr1.ne_ hg1 (by decide)
    exact hr1.keep fun k hk => Below.heap_setCell _ _ _ _ (fun e => hne1 (by rw [hk, e]))
  have hnb : ∀ j, (Value.slice A1 (l.eraseIdx k).length c1).ownBlock = some j → (j = gb ∨ w.heap.size < j) := by
    intro j hj
    rcases hat with e | e
    · rw [e] at hj; simp [Value.ownBlock] at hj; exact .inl hj.symm
    · rw [e] at hj; simp at hj; right; omega
  refine ⟨fun j => j = g ∨ (Value.slice A1 (l.eraseIdx k).length c1).ownBlock = some j, ⟨_, obj_far (obj_far (obj_far hg2 (by simp; omega) _) (by simp; omega) _) (by simp; omega) _, ?_, fun _ => Iff.rfl⟩, ?_, ?_⟩
  · refine hr2.keep fun j hj => ?_
    have := hnb j hj
    rw [Below.heap_setCell _ _ _ _ (by simp; omega), Below.heap_setCell _ _ _ _ (by simp; omega), Below.heap_setCell _ _ _ _ (by simp; omega)]
  · have t0 : Turn S S w ((w.alloc o1).alloc o2).drew := (((Turn.refl hlt).alloc o1).alloc o2).drew
    have t1 : Turn S S w w1 := t0.grown hgrow fun j hj => .inl ((hS j).2 (.inr (by simpa [Value.ownBlock] using hj)))
    have t2 : Turn S S w w2 := by rw [← hw2]; exact t1.set_ (.inl ((hS g).2 (.inl rfl))) _
    refine (((t2.re ?_ ?_).set_ (p := ⟨w.heap.size, 0, none⟩) (.inr (Nat.le_refl _)) _).set_ (p := ⟨w.heap.size, 1, none⟩) (.inr (Nat.le_refl _)) _).set_ (p := ⟨w.heap.size, 2, none⟩) (.inr (Nat.le_refl _)) _
    · rintro j (rfl | hj)
      · exact .inl ((hS j).2 (.inl rfl))
      · rcases hnb j hj with rfl | h
        · exact .inl ((hS j).2 (.inr rfl))
        · exact .inr (by omega)
    · rintro j (rfl | hj)
      · exact obj_lt hg2
      · exact hr2.lt hj
  · refine load_note _ _ x ?_
    have := obj_set (obj_set (obj_set hb2 0 (.int .u32 (x.id : Int))) 1 (.int .i64 x.to)) 2 (.string x.s)
    simpa using this

set_option maxRecDepth 100000 in
set_option maxHeartbeats 400000 in
theorem take_yes (S : Nat → Prop) (g n : Nat) (l : List Nt) (k : Nat) (w : World) (h : FlA w S g n l) (hk : k < l.length) (hl : l.length ≤ 1000) :
    Calls Try.prog 17 #[.pointer (some ⟨g, 0, none⟩), .int .i64 (k : Int)] w fun e w' => e = .returned (.tuple #[noteV l[k], .int .i64 0]) ∧ ∃ S', FlA w' S' g n (l.eraseIdx k) ∧ Turn S S' w w' := by
  have HI := Lib.hid (fun w2 (h2 : FlA w2 S g n l) => is_any S g n l k w2 h2)
  have HF := Lib.hid h
  have ha : isB l (k : Int) = true := isB_iff.2 (by omega)
  rw [ha] at HI
  obtain ⟨v, hg, hr, hS⟩ := id h
  obtain ⟨gb, c, rfl, hc1, hc2, hgb, hcs, hfs⟩ := hr.some_ (by omega)
  have hh : w.cell? ⟨g, 1, none⟩ = some (.slice (some ⟨gb, 0, none⟩) l.length c) := cell_row hg 1
  have hx0 : w.cell? ⟨gb, k * 3, none⟩ = some (.int .u32 (l[k].id : Int)) := hcs _ _ (by rw [← Nat.add_zero (k * 3), cellsNs_at l k 0 hk (by omega)]; rfl)
  have hx1 : w.cell? ⟨gb, k * 3 + 1, none⟩ = some (.int .i64 l[k].to) := hcs _ _ (by rw [cellsNs_at l k 1 hk (by omega)]; rfl)
  have hx2 : w.cell? ⟨gb, k * 3 + 2, none⟩ = some (.string l[k].s) := hcs _ _ (by rw [cellsNs_at l k 2 hk (by omega)]; rfl)
  have hgl := obj_lt hg
  have HG := Lib.hid hg
  have HR := Lib.hid hr
  clear h ha hcs hfs hg hr hS
  generalize hX : l[k] = x at *
  have HX := Lib.hid hX
  clear hX
  go_enter Try.func17, Try.ntmps17
  go_wp2_with (go_at_call 25; refine (HI.out _ (HF.out.alloc _)).mono ?_; rintro e w1 ⟨rfl, rfl⟩)
  clear hx0 hx1 hx2 HI HX
  obtain ⟨i0, hi0, hz0, hz1, hz2⟩ := info_parts note_info
  have hs1 : ∀ w' : World, _ := fun w' => slice_hm (P := Try.prog) Try.underlying29 hi0 (some ⟨gb, 0, none⟩) l.length c k (by omega) w'
  have hs2 : ∀ w' : World, _ := fun w' => slice_l (P := Try.prog) Try.underlying29 hi0 (some ⟨gb, 0, none⟩) l.length c (k + 1) (by omega) ((k : Int) + 1) (by omega) w'
  have hsrc := Lib.hid (fun (w' : World) (h : Row w' 35 3 (.slice (some ⟨gb, 0, none⟩) l.length c) l.length (cellsNs l)) => Row.src_from (P := Try.prog) Try.underlying29 h (k := k + 1) (by omega) (cellsNs_one' l))
  rw [hz1] at hs2
  simp only [cellsNs_drop] at hsrc
  generalize (if c = k + 1 then some (⟨gb, 0, none⟩ : Addr) else (some (⟨gb, 0, none⟩ : Addr)).map (·.add ((k + 1) * 3))) = A2 at *
  have hwk : IntKind.i64.wrap ((k : Int) + 1) = (k : Int) + 1 := IntWalk.i64_in _ ⟨by omega, by unfold maxLen at hc2; omega⟩
  have HSR := hsrc
  clear hsrc
  have HRC := Lib.hid (fun (w' : World) (h : Row w' 35 3 (.slice (some ⟨gb, 0, none⟩) l.length c) l.length (cellsNs l)) => (cellsNs_take l k) ▸ h.cut3 (k := k) (by omega))
  have HB1 := Lib.hid (show k + (l.length - (k + 1)) ≤ maxLen by unfold maxLen; omega)
  have HB2 := Lib.hid (show (k + (l.length - (k + 1))) * 32 ≤ 140737488355328 by omega)
  have HNE := Lib.hid (HR.out.ne_ HG.out (by decide))
  have HS1 := Lib.hid (fun (o1 o2 : Obj) (w1 : World) (hgr : ((w.alloc o1).alloc o2).drew.grownBy w1 (Value.slice (some ⟨gb, 0, none⟩) k k).ownBlock) => (show w1.cell? ⟨g, 1, none⟩ = some (.slice (some ⟨gb, 0, none⟩) l.length c) from
    (hgr.cell_far ⟨g, 1, none⟩ (by simp; omega) (Ne.symm HNE.out)).trans (cell_row (obj_alloc (obj_alloc HG.out o1) o2) 1)))
  have HS3 := Lib.hid (fun (o1 o2 : Obj) (w1 : World) (hgr : ((w.alloc o1).alloc o2).drew.grownBy w1 (Value.slice (some ⟨gb, 0, none⟩) k k).ownBlock) => obj_grown (show ((w.alloc o1).alloc o2).drew.heap[g]? = _ from obj_alloc (obj_alloc HG.out o1) o2) hgr HNE.out)
  have HS2 := Lib.hid (fun (o1 o2 : Obj) (w1 : World) (hgr : ((w.alloc o1).alloc o2).drew.grownBy w1 (Value.slice (some ⟨gb, 0, none⟩) k k).ownBlock) => obj_frozen (HS3.out o1 o2 w1 hgr) 1)
  have HC := Lib.hid hc1
  have HGB := Lib.hid hgb
  have HK := Lib.hid hk
  clear hc1 hc2 hk hl
  go_region_law
    ((refine step_append_row _ (by rfl) _ _ _ _ (by rfl) 35 i0 _ 3 32 Try.underlying29 hi0 hz0 hz1 hz2 rfl _ k (cellsNs (l.take k)) (by rfl) (HRC.out _ (((HR.out.alloc _).alloc _).drew))
        _ (l.length - (k + 1)) (cellsNs (l.drop (k + 1))) (by rfl) (HSR.out _ (((HR.out.alloc _).alloc _).drew)) HB1.out HB2.out ?_; intro A1 c1 w1 hr1 hgrow hat; have hf1 := HS2.out _ _ _ hgrow; have hcc1 := HS1.out _ _ _ hgrow))
  all_goals
    have hB0 := obj_grown (show ((w.alloc (.cells #[.int .u32 (0 : Int), .int .i64 0, .string ⟨#[]⟩] 35)).alloc (.cells #[.int .u32 (x.id : Int), .int .i64 x.to, .string x.s] 35)).drew.heap[w.heap.size]? = _ from obj_alloc (World.alloc_heap_new w _) _) hgrow (by simp [Value.ownBlock]; omega)
    have hB1 := obj_grown (show ((w.alloc (.cells #[.int .u32 (0 : Int), .int .i64 0, .string ⟨#[]⟩] 35)).alloc (.cells #[.int .u32 (x.id : Int), .int .i64 x.to, .string x.s] 35)).drew.heap[w.heap.size + 1]? = _ from new2 w _ _) hgrow (by simp [Value.ownBlock]; omega)
    have p0 : w1.cell? ⟨w.heap.size, 0, none⟩ = some (.int .u32 (0 : Int)) := cell_row hB0 0
    have p1 : w1.cell? ⟨w.heap.size, 1, none⟩ = some (.int .i64 0) := cell_row hB0 1
    have p2 : w1.cell? ⟨w.heap.size, 2, none⟩ = some (.string ⟨#[]⟩) := cell_row hB0 2
    have q0 : w1.cell? ⟨w.heap.size + 1, 0, none⟩ = some (.int .u32 (x.id : Int)) := cell_row hB1 0
    have q1 : w1.cell? ⟨w.heap.size + 1, 1, none⟩ = some (.int .i64 x.to) := cell_row hB1 1
    have q2 : w1.cell? ⟨w.heap.size + 1, 2, none⟩ = some (.string x.s) := cell_row hB1 2
    have f0 := obj_frozen hB0 0
    have f1 := obj_frozen hB0 1
    have f2 := obj_frozen hB0 2
    have n1 : ¬ w.heap.size = g := by omega
    have n2 : ¬ w.heap.size + 1 = g := by omega
    have HB0 := Lib.hid hB0
    clear hB0 hB1 hs1 hs2
    go_wp2
    obtain ⟨S', e1, e2, e3⟩ := take_end S g n gb c k c1 l x w w1 A1 HG.out HK.out HGB.out HF.out (HS3.out _ _ _ hgrow) HB0.out hr1 hgrow hat
    refine bodyPost_ret (v := .tuple #[noteV x, .int .i64 0]) ?_ rfl ⟨rfl, S', e1, e2⟩
    rw [results_cell_tmp rfl]
    simp [asAddr, Result.andThen, e3]

theorem take_any (S : Nat → Prop) (g n : Nat) (l : List Nt) (a : Int) (w : World) (h : FlA w S g n l) (hl : l.length ≤ 1000) :
    Calls Try.prog 17 #[.pointer (some ⟨g, 0, none⟩), .int .i64 a] w fun e w' => e = .returned (.tuple #[noteV (mtake ⟨n, l⟩ a).1.1, .int .i64 (mtake ⟨n, l⟩ a).1.2]) ∧
      ∃ S', FlA w' S' g (mtake ⟨n, l⟩ a).2.n (mtake ⟨n, l⟩ a).2.l ∧ Turn S S' w w' := by
  unfold mtake
  dsimp only
  cases ha : isB l a
  · refine (take_no S g n l a w h ha).mono ?_
    rintro e w' ⟨rfl, h1, h2⟩
    exact ⟨by simp, S, by simpa using h1, h2⟩
  · obtain ⟨h0, h1⟩ := isB_iff.1 ha
    obtain ⟨k, rfl⟩ := Int.eq_ofNat_of_zero_le h0
    have hk : k < l.length := by omega
    refine (take_yes S g n l k w h hk hl).mono ?_
    rintro e w' ⟨rfl, S', h1, h2⟩
    refine ⟨?_, S', by simpa using h1, h2⟩
    simp [hk]
end Go.Proofs.Ytlfbmicpaacbnaa
