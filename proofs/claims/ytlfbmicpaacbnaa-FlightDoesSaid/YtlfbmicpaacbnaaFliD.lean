/-
  What the functions of flight compute, one by one: dropping, copying, hurting. Conditions: at most a thousand notes lie there.
-/
import Derived.Test.YtlfbmicpaacbnaaFliC
namespace Ros
open Go Go.RowKit
def mhurt (f : Fs) (a bit : Int) (mask : Nat) : Int × Fs :=
  if isB f.l a = true then (chgE (bl (f.l.getD a.toNat nt0).s) bit, if chgE (bl (f.l.getD a.toNat nt0).s) bit = 0 then ⟨f.n, f.l.set a.toNat { f.l.getD a.toNat nt0 with s := str (chgL (bl (f.l.getD a.toNat nt0).s) bit mask) }⟩ else f) else (2, f)
end Ros
namespace Go.Proofs.Ytlfbmicpaacbnaa
open Go.RowKit Go.Shelf Ros
attribute [local go_sem] Oper.semAt_some
attribute [local go_sem ↓] Go.wp_at_zero Go.wp_at_succ

set_option maxRecDepth 100000 in
set_option maxHeartbeats 400000 in
theorem drop_any (S : Nat → Prop) (g n : Nat) (l : List Nt) (a : Int) (w : World) (h : FlA w S g n l) (hl : l.length ≤ 1000) :
    Calls Try.prog 16 #[.pointer (some ⟨g, 0, none⟩), .int .i64 a] w fun e w' => e = .returned (.int .i64 (mtake ⟨n, l⟩ a).1.2) ∧
      ∃ S', FlA w' S' g (mtake ⟨n, l⟩ a).2.n (mtake ⟨n, l⟩ a).2.l ∧ Turn S S' w w' := by
  have HT := Lib.hid (take_any S g n l a w h hl)
  clear h hl
  generalize mtake ⟨n, l⟩ a = r at *
  unfold noteV at HT
  go_enter Try.func16, Try.ntmps16
  go_wp2_with (go_at_call 17; refine HT.out.mono ?_; rintro e w1 ⟨rfl, S1, hf1, ht1⟩)
  go_ret
  exact ⟨rfl, S1, hf1.alloc _, ht1.alloc _⟩

set_option maxRecDepth 100000 in
set_option maxHeartbeats 400000 in
theorem copy_no (S : Nat → Prop) (g n : Nat) (l : List Nt) (a : Int) (w : World) (h : FlA w S g n l) (ha : isB l a = false) :
    Calls Try.prog 14 #[.pointer (some ⟨g, 0, none⟩), .int .i64 a] w fun e w' => e = .returned (.tuple #[.int .u32 0, .int .i64 2]) ∧ FlA w' S g n l ∧ Turn S S w w' := by
  have HI := Lib.hid (fun w2 (h2 : FlA w2 S g n l) => is_any S g n l a w2 h2)
  have HF := Lib.hid h
  rw [ha] at HI
  clear h ha
  go_enter Try.func14, Try.ntmps14
  go_wp2_with (go_at_call 25; refine (HI.out _ HF.out).mono ?_; rintro e w1 ⟨rfl, rfl⟩)
  go_ret2
  exact ⟨rfl, HF.out, Turn.refl HF.out.lt⟩

theorem note_at {w : World} {S : Nat → Prop} {g n : Nat} {l : List Nt} {k : Nat} (h : FlA w S g n l) (hk : k < l.length) :
    ∃ gb c, w.heap[g]? = some (.cells #[.int .u32 (n : Int), .slice (some ⟨gb, 0, none⟩) l.length c] 61 (0, 0)) ∧ Row w 35 3 (.slice (some ⟨gb, 0, none⟩) l.length c) l.length (cellsNs l) ∧ l.length ≤ c ∧
      (∀ j, S j ↔ j = g ∨ j = gb) ∧ w.cell? ⟨g, 1, none⟩ = some (.slice (some ⟨gb, 0, none⟩) l.length c) ∧ w.cell? ⟨gb, k * 3, none⟩ = some (.int .u32 (l[k].id : Int)) ∧ w.cell? ⟨gb, k * 3 + 1, none⟩ = some (.int .i64 l[k].to) ∧ w.cell? ⟨gb, k * 3 + 2, none⟩ = some (.string l[k].s) ∧
      (∀ j, w.frozen? ⟨gb, j, none⟩ = false) ∧ gb < w.heap.size ∧ g ≠ gb := by
  obtain ⟨v, hg, hr, hS⟩ := h
  obtain ⟨gb, c, rfl, hc1, hc2, hgb, hcs, hfs⟩ := hr.some_ (by omega)
  refine ⟨gb, c, hg, hr, hc1, fun j => (hS j).trans (by simp [Value.ownBlock, eq_comm]), cell_row hg 1, ?_, ?_, ?_, hfs, hgb, ?_⟩
  · exact hcs _ _ (by rw [← Nat.add_zero (k * 3), cellsNs_at l k 0 hk (by omega)]; rfl)
  · exact hcs _ _ (by rw [cellsNs_at l k 1 hk (by omega)]; rfl)
  · exact hcs _ _ (by rw [cellsNs_at l k 2 hk (by omega)]; rfl)
  · have := hr.ne_ hg (by decide)
    simpa [Value.ownBlock, eq_comm] using this

set_option maxRecDepth 100000 in
set_option maxHeartbeats 1600000 in
theorem copy_yes (S : Nat → Prop) (g n : Nat) (l : List Nt) (k : Nat) (w : World) (h : FlA w S g n l) (hk : k < l.length) (hl : l.length ≤ 1000) :
    Calls Try.prog 14 #[.pointer (some ⟨g, 0, none⟩), .int .i64 (k : Int)] w fun e w' => e = .returned (.tuple #[.int .u32 ((mlaunch ⟨n, l⟩ l[k].to l[k].s).1.1 : Int), .int .i64 (mlaunch ⟨n, l⟩ l[k].to l[k].s).1.2]) ∧
      ∃ S', FlA w' S' g (mlaunch ⟨n, l⟩ l[k].to l[k].s).2.n (mlaunch ⟨n, l⟩ l[k].to l[k].s).2.l ∧ Turn S S' w w' := by
  have HI := Lib.hid (fun w2 (h2 : FlA w2 S g n l) => is_any S g n l k w2 h2)
  have ha : isB l (k : Int) = true := isB_iff.2 (by omega)
  rw [ha] at HI
  have HF := Lib.hid h
  have HL := Lib.hid (launch_any S g n l l[k].to l[k].s w.drew h.drew hl)
  obtain ⟨gb, c, hg, hr, hc1, hS, hh, hx0, hx1, hx2, hfs, hgb, hne⟩ := note_at h hk
  have HT := Lib.hid (Turn.refl h.lt).drew
  clear hg hr h ha hS hfs
  generalize mlaunch ⟨n, l⟩ l[k].to l[k].s = r at *
  generalize l[k] = x at *
  go_enter Try.func14, Try.ntmps14
  go_wp2_with (go_at_call 25; refine (HI.out _ HF.out).mono ?_; rintro e w1 ⟨rfl, rfl⟩)
  go_region_law ((go_simp; go_at_call 23; refine HL.out.mono ?_; rintro e w1 ⟨rfl, S1, hf1, ht1⟩))
  all_goals
    go_wp2
    go_ret2
    exact ⟨rfl, S1, hf1, HT.out.trans ht1⟩

theorem copy_any (S : Nat → Prop) (g n : Nat) (l : List Nt) (a : Int) (w : World) (h : FlA w S g n l) (hl : l.length ≤ 1000) :
    Calls Try.prog 14 #[.pointer (some ⟨g, 0, none⟩), .int .i64 a] w fun e w' => e = .returned (.tuple #[.int .u32 ((mcopy ⟨n, l⟩ a).1.1 : Int), .int .i64 (mcopy ⟨n, l⟩ a).1.2]) ∧
      ∃ S', FlA w' S' g (mcopy ⟨n, l⟩ a).2.n (mcopy ⟨n, l⟩ a).2.l ∧ Turn S S' w w' := by
  unfold mcopy
  dsimp only
  cases ha : isB l a
  · refine (copy_no S g n l a w h ha).mono ?_
    rintro e w' ⟨rfl, h1, h2⟩
    exact ⟨by simp, S, by simpa using h1, h2⟩
  · obtain ⟨h0, h1⟩ := isB_iff.1 ha
    obtain ⟨k, rfl⟩ := Int.eq_ofNat_of_zero_le h0
    have hk : k < l.length := by omega
    have hg : l.getD (Int.toNat (k : Int)) nt0 = l[k] := by simp [hk]
    rw [if_pos rfl, hg]
    exact copy_yes S g n l k w h hk hl

set_option maxRecDepth 100000 in
set_option maxHeartbeats 400000 in
theorem hurt_no (S : Nat → Prop) (g n : Nat) (l : List Nt) (a bit : Int) (mask : Nat) (w : World) (h : FlA w S g n l) (ha : isB l a = false) :
    Calls Try.prog 20 #[.pointer (some ⟨g, 0, none⟩), .int .i64 a, .int .i64 bit, .int .u32 (mask : Int)] w fun e w' => e = .returned (.int .i64 2) ∧ FlA w' S g n l ∧ Turn S S w w' := by
  have HI := Lib.hid (fun w2 (h2 : FlA w2 S g n l) => is_any S g n l a w2 h2)
  have HF := Lib.hid h
  rw [ha] at HI
  clear h ha
  go_enter Try.func20, Try.ntmps20
  go_wp2_with (go_at_call 25; refine (HI.out _ HF.out).mono ?_; rintro e w1 ⟨rfl, rfl⟩)
  go_ret
  exact ⟨rfl, HF.out, Turn.refl HF.out.lt⟩

theorem hurt_end (S : Nat → Prop) (g n : Nat) (l : List Nt) (k : Nat) (t : ByteArray) (w w1 : World) (h : FlA w S g n l) (hk : k < l.length) (hw1 : Below w.heap.size w w1) :
    ∃ gb c, w1.cell? ⟨g, 1, none⟩ = some (.slice (some ⟨gb, 0, none⟩) l.length c) ∧ w1.cell? ⟨gb, k * 3 + 2, none⟩ = some (.string l[k].s) ∧ w1.frozen? ⟨gb, k * 3 + 2, none⟩ = false ∧
      FlA (w1.setCell ⟨gb, k * 3 + 2, none⟩ (.string t)) S g n (l.set k { l[k] with s := t }) ∧ Turn S S w (w1.setCell ⟨gb, k * 3 + 2, none⟩ (.string t)) := by
  obtain ⟨gb, c, hg, hr, hc1, hS, hh, hx0, hx1, hx2, hfs, hgb, hne⟩ := note_at (h.below hw1) hk
  refine ⟨gb, c, hh, hx2, hfs _, ⟨_, obj_far hg hne _, ?_, fun j => (hS j).trans (by simp [Value.ownBlock, eq_comm])⟩, ((Turn.refl h.lt).belowR hw1).set_ (.inl ((hS gb).2 (.inr rfl))) _⟩
  have := hr.set_ (j := k * 3 + 2) (by omega) (.string t)
  rw [cellsNs_set l k t hk] at this
  simpa using this

set_option maxRecDepth 100000 in
set_option maxHeartbeats 400000 in
theorem hurt_yes (S : Nat → Prop) (g n : Nat) (l : List Nt) (k : Nat) (bit : Int) (mask : Nat) (w : World) (h : FlA w S g n l) (hk : k < l.length) (hs : l[k].s.size ≤ 140737488355328) (hm : mask < 4294967296) (hb1 : -9223372036854775808 ≤ bit) (hb2 : bit ≤ 9223372036854775807) :
    Calls Try.prog 20 #[.pointer (some ⟨g, 0, none⟩), .int .i64 (k : Int), .int .i64 bit, .int .u32 (mask : Int)] w fun e w' => e = .returned (.int .i64 (chgE (bl l[k].s) bit)) ∧
      FlA w' S g n (if chgE (bl l[k].s) bit = 0 then l.set k { l[k] with s := str (chgL (bl l[k].s) bit mask) } else l) ∧ Turn S S w w' := by
  have HI := Lib.hid (fun w2 (h2 : FlA w2 S g n l) => is_any S g n l k w2 h2)
  have ha : isB l (k : Int) = true := isB_iff.2 (by omega)
  rw [ha] at HI
  have HF := Lib.hid h
  have HC := Lib.hid (change_all l[k].s bit mask w hs hm hb1 hb2)
  have HE := Lib.hid (fun (w1 : World) (hw1 : Below w.heap.size w w1) => hurt_end S g n l k (str (chgL (bl l[k].s) bit mask)) w w1 h hk hw1)
  obtain ⟨gb, c, hg, hr, hc1, hS, hh, hx0, hx1, hx2, hfs, hgb, hne⟩ := note_at h hk
  have hgl := obj_lt hg
  clear hg hr h ha hS hs hm hb1 hb2 hx0 hx1
  generalize chgE (bl l[k].s) bit = er at *
  generalize chgL (bl l[k].s) bit mask = t at *
  generalize l[k].s = s0 at *
  by_cases he : er = 0
  · subst he
    go_enter Try.func20, Try.ntmps20
    go_wp2_with (first | (go_at_call 25; refine (HI.out _ HF.out).mono ?_; rintro e w1 ⟨rfl, rfl⟩) | (go_at_call 27; refine HC.out.mono ?_; rintro e w1 ⟨rfl, hw1⟩; obtain ⟨gb', c', e1, e2, e3, e4⟩ := HE.out w1 hw1))
    go_ret
    exact ⟨rfl, e4.1, e4.2⟩
  · go_enter Try.func20, Try.ntmps20
    go_wp2_with (first | (go_at_call 25; refine (HI.out _ HF.out).mono ?_; rintro e w1 ⟨rfl, rfl⟩) | (go_at_call 27; refine HC.out.mono ?_; rintro e w1 ⟨rfl, hw1⟩))
    go_ret
    exact ⟨rfl, HF.out.below hw1, .of_below hw1 HF.out.lt⟩

theorem hurt_any (S : Nat → Prop) (g n : Nat) (l : List Nt) (a bit : Int) (mask : Nat) (w : World) (h : FlA w S g n l) (hs : ∀ x ∈ l, x.s.size ≤ 140737488355328) (hm : mask < 4294967296) (hb1 : -9223372036854775808 ≤ bit) (hb2 : bit ≤ 9223372036854775807) :
    Calls Try.prog 20 #[.pointer (some ⟨g, 0, none⟩), .int .i64 a, .int .i64 bit, .int .u32 (mask : Int)] w fun e w' => e = .returned (.int .i64 (mhurt ⟨n, l⟩ a bit mask).1) ∧
      FlA w' S g (mhurt ⟨n, l⟩ a bit mask).2.n (mhurt ⟨n, l⟩ a bit mask).2.l ∧ Turn S S w w' := by
  unfold mhurt
  dsimp only
  cases ha : isB l a
  · refine (hurt_no S g n l a bit mask w h ha).mono ?_
    rintro e w' ⟨rfl, h1, h2⟩
    exact ⟨by simp, by simpa using h1, h2⟩
  · obtain ⟨h0, h1⟩ := isB_iff.1 ha
    obtain ⟨k, rfl⟩ := Int.eq_ofNat_of_zero_le h0
    have hk : k < l.length := by omega
    have hg : l.getD (Int.toNat (k : Int)) nt0 = l[k] := by simp [hk]
    rw [if_pos rfl, hg]
    refine (hurt_yes S g n l k bit mask w h hk (hs _ (List.getElem_mem hk)) hm hb1 hb2).mono ?_
    rintro e w' ⟨rfl, h1, h2⟩
    refine ⟨rfl, ?_, h2⟩
    dsimp only
    split at h1 <;> simp_all
end Go.Proofs.Ytlfbmicpaacbnaa
