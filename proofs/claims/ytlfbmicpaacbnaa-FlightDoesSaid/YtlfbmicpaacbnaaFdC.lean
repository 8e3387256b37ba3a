/-
  The document's flight: copying, hurting, the oldest one, two lists the same. Conditions: at most a thousand notes lie there.
-/
import Derived.Test.YtlfbmicpaacbnaaFdB
import Derived.Deep.QuietTactic
import Derived.BigQuiet
namespace Go.Proofs.Ytlfbmicpaacbnaa
open Go.RowKit Go.Shelf Ros
attribute [local go_sem] Oper.semAt_some
attribute [local go_sem ↓] Go.wp_at_zero Go.wp_at_succ
theorem rnote_at {w : World} {S : Nat → Prop} {g n : Nat} {l : List Nt} {k : Nat} (h : RfA w S g n l) (hk : k < l.length) :
    ∃ gb c, w.heap[g]? = some (.cells #[.slice (some ⟨gb, 0, none⟩) l.length c, .int .u32 (n : Int)] 55 (0, 0)) ∧ Row w 35 3 (.slice (some ⟨gb, 0, none⟩) l.length c) l.length (cellsNs l) ∧ l.length ≤ c ∧
      (∀ j, S j ↔ j = g ∨ j = gb) ∧ w.cell? ⟨g, 0, none⟩ = some (.slice (some ⟨gb, 0, none⟩) l.length c) ∧ w.cell? ⟨gb, k * 3, none⟩ = some (.int .u32 (l[k].id : Int)) ∧ w.cell? ⟨gb, k * 3 + 1, none⟩ = some (.int .i64 l[k].to) ∧ w.cell? ⟨gb, k * 3 + 2, none⟩ = some (.string l[k].s) ∧
      (∀ j, w.frozen? ⟨gb, j, none⟩ = false) ∧ gb < w.heap.size ∧ g ≠ gb := by
  obtain ⟨v, hg, hr, hS⟩ := h
  obtain ⟨gb, c, rfl, hc1, hc2, hgb, hcs, hfs⟩ := hr.some_ (by omega)
  refine ⟨gb, c, hg, hr, hc1, fun j => (hS j).trans (by simp [Value.ownBlock, eq_comm]), cell_row hg 0, ?_, ?_, ?_, hfs, hgb, ?_⟩
  · exact hcs _ _ (by rw [← Nat.add_zero (k * 3), cellsNs_at l k 0 hk (by omega)]; rfl)
  · exact hcs _ _ (by rw [cellsNs_at l k 1 hk (by omega)]; rfl)
  · exact hcs _ _ (by rw [cellsNs_at l k 2 hk (by omega)]; rfl)
  · have := hr.ne_ hg (by decide)
    simpa [Value.ownBlock, eq_comm] using this
theorem RfA.drew {w : World} {S : Nat → Prop} {g n : Nat} {l : List Nt} (h : RfA w S g n l) : RfA w.drew S g n l := h
set_option maxRecDepth 100000 in
set_option maxHeartbeats 1600000 in
theorem rcopy_no (S : Nat → Prop) (g n : Nat) (l : List Nt) (a : Int) (w : World) (h : RfA w S g n l) (ha : isB l a = false) :
    Calls Try.prog 30 #[.pointer (some ⟨g, 0, none⟩), .int .i64 a] w fun e w' => e = .returned (.tuple #[.int .u32 0, .int .i64 2]) ∧ RfA w' S g n l ∧ Turn S S w w' := by
  have HF := Lib.hid h
  obtain ⟨v, hg, hr, hS⟩ := h
  obtain ⟨A, c, rfl, _, _⟩ := hr.form
  have q0 : w.cell? ⟨g, 0, none⟩ = some (.slice A l.length c) := cell_row hg 0
  clear hg hr hS
  rcases isB_no.1 ha with h1 | h1
  · go_enter Try.func30, Try.ntmps30
    go_wp2
    go_ret2
    exact ⟨rfl, HF.out, Turn.refl HF.out.lt⟩
  · have h0 : 0 ≤ a := by omega
    go_enter Try.func30, Try.ntmps30
    go_wp2
    go_ret2
    exact ⟨rfl, HF.out, Turn.refl HF.out.lt⟩
set_option maxRecDepth 100000 in
set_option maxHeartbeats 1600000 in
theorem rcopy_yes (S : Nat → Prop) (g n : Nat) (l : List Nt) (k : Nat) (w : World) (h : RfA w S g n l) (hk : k < l.length) (hl : l.length ≤ 1000) (hto : 0 ≤ l[k].to ∧ l[k].to < 16) :
    Calls Try.prog 30 #[.pointer (some ⟨g, 0, none⟩), .int .i64 (k : Int)] w fun e w' => e = .returned (.tuple #[.int .u32 ((mlaunch ⟨n, l⟩ l[k].to l[k].s).1.1 : Int), .int .i64 (mlaunch ⟨n, l⟩ l[k].to l[k].s).1.2]) ∧
      ∃ S', RfA w' S' g (mlaunch ⟨n, l⟩ l[k].to l[k].s).2.n (mlaunch ⟨n, l⟩ l[k].to l[k].s).2.l ∧ Turn S S' w w' := by
  have HL := rsend_any S g n l l[k].to l[k].s w.drew h.drew hl
  have he : msend ⟨n, l⟩ l[k].to l[k].s = mlaunch ⟨n, l⟩ l[k].to l[k].s := by unfold msend; rw [if_neg (by omega)]
  rw [he] at HL
  have HL := Lib.hid HL
  obtain ⟨gb, c, hg, hr, hc1, hS, hh, hx0, hx1, hx2, hfs, hgb, hne⟩ := rnote_at h hk
  have HT := Lib.hid (Turn.refl h.lt).drew
  have hd0 : decide ((k : Int) < 0) = false := by simp
  have hd1 : decide ((k : Int) ≥ (l.length : Int)) = false := by simp; omega
  clear hg hr h hS hfs he hto
  generalize mlaunch ⟨n, l⟩ l[k].to l[k].s = r at *
  generalize l[k] = x at *
  go_enter Try.func30, Try.ntmps30
  go_wp2
  go_region_law ((go_simp; go_at_call 28; (with_reducible refine HL.out.mono ?_); rintro e w1 ⟨rfl, S1, hf1, ht1⟩))
  all_goals
    go_wp2
    go_ret2
    exact ⟨rfl, S1, hf1, HT.out.trans ht1⟩
theorem rcopy_any (S : Nat → Prop) (g n : Nat) (l : List Nt) (a : Int) (w : World) (h : RfA w S g n l) (hl : l.length ≤ 1000) (hto : ∀ x ∈ l, 0 ≤ x.to ∧ x.to < 16) :
    Calls Try.prog 30 #[.pointer (some ⟨g, 0, none⟩), .int .i64 a] w fun e w' => e = .returned (.tuple #[.int .u32 ((mcopy ⟨n, l⟩ a).1.1 : Int), .int .i64 (mcopy ⟨n, l⟩ a).1.2]) ∧
      ∃ S', RfA w' S' g (mcopy ⟨n, l⟩ a).2.n (mcopy ⟨n, l⟩ a).2.l ∧ Turn S S' w w' := by
  unfold mcopy
  dsimp only
  cases ha : isB l a
  · refine (rcopy_no S g n l a w h ha).mono ?_
    rintro e w' ⟨rfl, h1, h2⟩
    exact ⟨by simp, S, by simpa using h1, h2⟩
  · obtain ⟨h0, h1⟩ := isB_iff.1 ha
    obtain ⟨k, rfl⟩ := Int.eq_ofNat_of_zero_le h0
    have hk : k < l.length := by omega
    have hg : l.getD (Int.toNat (k : Int)) nt0 = l[k] := by simp [hk]
    rw [if_pos rfl, hg]
    exact rcopy_yes S g n l k w h hk hl (hto _ (List.getElem_mem hk))
set_option maxRecDepth 100000 in
set_option maxHeartbeats 1600000 in
theorem rhurt_no (S : Nat → Prop) (g n : Nat) (l : List Nt) (a bit : Int) (mask : Nat) (w : World) (h : RfA w S g n l) (ha : isB l a = false) :
    Calls Try.prog 31 #[.pointer (some ⟨g, 0, none⟩), .int .i64 a, .int .i64 bit, .int .u32 (mask : Int)] w fun e w' => e = .returned (.int .i64 2) ∧ RfA w' S g n l ∧ Turn S S w w' := by
  have HF := Lib.hid h
  obtain ⟨v, hg, hr, hS⟩ := h
  obtain ⟨A, c, rfl, _, _⟩ := hr.form
  have q0 : w.cell? ⟨g, 0, none⟩ = some (.slice A l.length c) := cell_row hg 0
  clear hg hr hS
  rcases isB_no.1 ha with h1 | h1
  · go_enter Try.func31, Try.ntmps31
    go_wp2
    go_ret
    exact ⟨rfl, HF.out, Turn.refl HF.out.lt⟩
  · have h0 : 0 ≤ a := by omega
    go_enter Try.func31, Try.ntmps31
    go_wp2
    go_ret
    exact ⟨rfl, HF.out, Turn.refl HF.out.lt⟩
theorem rhurt_end (S : Nat → Prop) (g n : Nat) (l : List Nt) (k : Nat) (t : ByteArray) (w w1 : World) (h : RfA w S g n l) (hk : k < l.length) (hw1 : Below w.heap.size w w1) :
    ∃ gb c, w1.cell? ⟨g, 0, none⟩ = some (.slice (some ⟨gb, 0, none⟩) l.length c) ∧ w1.cell? ⟨gb, k * 3 + 2, none⟩ = some (.string l[k].s) ∧ w1.frozen? ⟨gb, k * 3 + 2, none⟩ = false ∧
      RfA (w1.setCell ⟨gb, k * 3 + 2, none⟩ (.string t)) S g n (l.set k { l[k] with s := t }) ∧ Turn S S w (w1.setCell ⟨gb, k * 3 + 2, none⟩ (.string t)) := by
  obtain ⟨gb, c, hg, hr, hc1, hS, hh, hx0, hx1, hx2, hfs, hgb, hne⟩ := rnote_at (h.below hw1) hk
  refine ⟨gb, c, hh, hx2, hfs _, ⟨_, obj_far hg hne _, ?_, fun j => (hS j).trans (by simp [Value.ownBlock, eq_comm])⟩, ((Turn.refl h.lt).belowR hw1).set_ (.inl ((hS gb).2 (.inr rfl))) _⟩
  have := hr.set_ (j := k * 3 + 2) (by omega) (.string t)
  rw [cellsNs_set l k t hk] at this
  simpa using this
set_option maxRecDepth 100000 in
set_option maxHeartbeats 1600000 in
theorem rhurt_yes (S : Nat → Prop) (g n : Nat) (l : List Nt) (k : Nat) (bit : Int) (mask : Nat) (w : World) (h : RfA w S g n l) (hk : k < l.length) (hs : l[k].s.size ≤ 140737488355328) (hm : mask < 4294967296) (hb1 : -9223372036854775808 ≤ bit) (hb2 : bit ≤ 9223372036854775807) :
    Calls Try.prog 31 #[.pointer (some ⟨g, 0, none⟩), .int .i64 (k : Int), .int .i64 bit, .int .u32 (mask : Int)] w fun e w' => e = .returned (.int .i64 (chgE (bl l[k].s) bit)) ∧
      RfA w' S g n (if chgE (bl l[k].s) bit = 0 then l.set k { l[k] with s := str (chgL (bl l[k].s) bit mask) } else l) ∧ Turn S S w w' := by
  have HF := Lib.hid h
  have HC := Lib.hid (refchange_all l[k].s bit mask w hs hm hb1 hb2)
  have HE := Lib.hid (fun (w1 : World) (hw1 : Below w.heap.size w w1) => rhurt_end S g n l k (str (chgL (bl l[k].s) bit mask)) w w1 h hk hw1)
  obtain ⟨gb, c, hg, hr, hc1, hS, hh, hx0, hx1, hx2, hfs, hgb, hne⟩ := rnote_at h hk
  have hgl := obj_lt hg
  have hd0 : decide ((k : Int) < 0) = false := by simp
  have hd1 : decide ((k : Int) ≥ (l.length : Int)) = false := by simp; omega
  clear hg hr h hS hs hm hb1 hb2 hx0 hx1
  generalize chgE (bl l[k].s) bit = er at *
  generalize chgL (bl l[k].s) bit mask = t at *
  generalize l[k].s = s0 at *
  by_cases he : er = 0
  · subst he
    go_enter Try.func31, Try.ntmps31
    go_wp2_with (go_at_call 37; refine HC.out.mono ?_; rintro e w1 ⟨rfl, hw1⟩; obtain ⟨gb', c', e1, e2, e3, e4⟩ := HE.out w1 hw1)
    go_ret
    exact ⟨rfl, e4.1, e4.2⟩
  · go_enter Try.func31, Try.ntmps31
    go_wp2_with (go_at_call 37; refine HC.out.mono ?_; rintro e w1 ⟨rfl, hw1⟩)
    go_ret
    exact ⟨rfl, HF.out.below hw1, .of_below hw1 HF.out.lt⟩
theorem rhurt_any (S : Nat → Prop) (g n : Nat) (l : List Nt) (a bit : Int) (mask : Nat) (w : World) (h : RfA w S g n l) (hs : ∀ x ∈ l, x.s.size ≤ 140737488355328) (hm : mask < 4294967296) (hb1 : -9223372036854775808 ≤ bit) (hb2 : bit ≤ 9223372036854775807) :
    Calls Try.prog 31 #[.pointer (some ⟨g, 0, none⟩), .int .i64 a, .int .i64 bit, .int .u32 (mask : Int)] w fun e w' => e = .returned (.int .i64 (mhurt ⟨n, l⟩ a bit mask).1) ∧
      RfA w' S g (mhurt ⟨n, l⟩ a bit mask).2.n (mhurt ⟨n, l⟩ a bit mask).2.l ∧ Turn S S w w' := by
  unfold mhurt
  dsimp only
  cases ha : isB l a
  · refine (rhurt_no S g n l a bit mask w h ha).mono ?_
    rintro e w' ⟨rfl, h1, h2⟩
    exact ⟨by simp, by simpa using h1, h2⟩
  · obtain ⟨h0, h1⟩ := isB_iff.1 ha
    obtain ⟨k, rfl⟩ := Int.eq_ofNat_of_zero_le h0
    have hk : k < l.length := by omega
    have hg : l.getD (Int.toNat (k : Int)) nt0 = l[k] := by simp [hk]
    rw [if_pos rfl, hg]
    refine (rhurt_yes S g n l k bit mask w h hk (hs _ (List.getElem_mem hk)) hm hb1 hb2).mono ?_
    rintro e w' ⟨rfl, h1, h2⟩
    refine ⟨rfl, ?_, h2⟩
    dsimp only
    split at h1 <;> simp_all
set_option maxRecDepth 100000 in
set_option maxHeartbeats 1600000 in
theorem rold_any (S : Nat → Prop) (g n : Nat) (l : List Nt) (to : Int) (w : World) (h : RfA w S g n l) (hl : l.length ≤ 1000) :
    Calls Try.prog 22 #[.pointer (some ⟨g, 0, none⟩), .int .i64 to] w fun e w' => e = .returned (.int .i64 (mold l to)) ∧ w = w' := by
  have HF := Lib.hid h
  obtain ⟨v, hg, hr, hS⟩ := h
  obtain ⟨A, c, rfl, _, _⟩ := hr.form
  have q0 : w.cell? ⟨g, 0, none⟩ = some (.slice A l.length c) := cell_row hg 0
  clear hg hr hS
  go_enter Try.func22, Try.ntmps22
  go_wp2
  go_loop [5] (fun i => ∃ k : Nat, k ≤ l.length ∧ i = .int .i64 k ∧ ∀ j (hj : j < k) (hl : j < l.length), l[j].to ≠ to) (fun i => l.length - (intOf i).toNat)
  case atStart => exact ⟨0, by omega, rfl, fun j hj _ => absurd hj (by omega)⟩
  case round =>
    obtain ⟨k, hk, rfl, hno⟩ := hrel
    have HNO := Lib.hid hno
    clear hno
    by_cases hlt : k < l.length
    · obtain ⟨gb, c2, _, _, _, _, hh, hx0, hx1, hx2, _, _, _⟩ := rnote_at HF.out hlt
      rw [q0] at hh
      injection hh with hh
      injection hh with hA _ hc
      subst hA
      clear hx0 hx2
      by_cases he : l[k].to = to
      · have HM := Lib.hid (mold_hit hlt he (fun j hj => HNO.out j hj (by omega)))
        rw [he] at hx1
        clear he
        go_wp2
        go_ret
        exact ⟨by rw [HM.out]; rfl, rfl⟩
      · have hq : (l[k].to == to) = false := by simpa using he
        have HN2 := Lib.hid (show ∀ j (hj : j < k + 1) (hl : j < l.length), l[j].to ≠ to from fun j hj hl2 => by
          by_cases e : j = k
          · subst e; exact he
          · exact HNO.out j (by omega) hl2)
        clear he
        generalize l[k].to = t at *
        go_wp2
        go_round
        case rel => exact ⟨k + 1, by omega, by go_num, HN2.out⟩
        case measure => simp [intOf]; omega
    · have hke : k = l.length := by omega
      subst hke
      have HM := Lib.hid (mold_none (l := l) (to := to) (fun j hj => HNO.out j hj hj))
      go_wp2
      go_ret
      exact ⟨by rw [HM.out]; rfl, rfl⟩
end Go.Proofs.Ytlfbmicpaacbnaa
