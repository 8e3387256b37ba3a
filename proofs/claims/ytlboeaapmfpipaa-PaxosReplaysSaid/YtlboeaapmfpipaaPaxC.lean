/-
  A node's acceptors: whether one can be asked, kept, and read. Conditions: a million changes at most.
-/
import Derived.Test.YtlboeaapmfpipaaPaxB
namespace Ros
open Go Go.RowKit Go.Maps Go.ChangeMaps
theorem encVt_or (o : Option Vt) : (o.map encVt).getD (encVt vt0) = encVt (o.getD vt0) := by cases o <;> rfl
theorem openE_no {s : Nd} {i : Int} (h : ¬ (1 ≤ i ∧ i ≤ 10000)) : openE s i = 2 := by unfold openE; rw [if_neg (by rw [isI_iff]; exact h)]
theorem openE_gone {s : Nd} {i : Int} (h : 1 ≤ i ∧ i ≤ 10000) (h2 : i ≤ (s.gone : Int)) : openE s i = 90 := by unfold openE; rw [if_pos (isI_iff.2 h), if_pos h2]
theorem openE_ok {s : Nd} {i : Int} (h : 1 ≤ i ∧ i ≤ 10000) (h2 : ¬ i ≤ (s.gone : Int)) : openE s i = 0 := by unfold openE; rw [if_pos (isI_iff.2 h), if_neg h2]
theorem openE_zero {s : Nd} {i : Int} (h : openE s i = 0) : 1 ≤ i ∧ i ≤ 10000 := by
  by_cases h1 : 1 ≤ i ∧ i ≤ 10000
  · exact h1
  · rw [openE_no h1] at h; cases h
end Ros
namespace Go.Proofs.Ytlboeaapmfpipaa
open Go.RowKit Go.Shelf Ros
attribute [local go_sem] Oper.semAt_some

set_option maxHeartbeats 400000 in
theorem nopen_any (i : Int) (w : World) (S : Nat → Prop) (g c : Nat) (s : Nd) (h : NdA w S g s c) :
    Calls Try.prog 22 #[.pointer (some ⟨g, 0, none⟩), .int .i64 i] w fun e w' => e = .returned (.int .i64 (openE s i)) ∧ Below w.heap.size w w' := by
  obtain ⟨bv, bk, nv, nk, hg, _⟩ := h
  have hc3 := cell_row hg 3
  simp only [List.getElem?_toArray, List.getElem?_cons_succ, List.getElem?_cons_zero] at hc3
  have HI := Lib.hid (fun W : World => isInst_any i W)
  by_cases h1 : 1 ≤ i ∧ i ≤ 10000
  · rw [isI_iff.2 h1] at HI
    by_cases h2 : i ≤ (s.gone : Int)
    · rw [openE_gone h1 h2]
      go_enter Try.func22, Try.ntmps22
      go_wp2_with (go_at_call 28; refine (HI.out _).mono ?_; rintro e w1 ⟨rfl, rfl⟩)
      go_ret
      exact ⟨rfl, Below.refl _ _⟩
    · rw [openE_ok h1 h2]
      go_enter Try.func22, Try.ntmps22
      go_wp2_with (go_at_call 28; refine (HI.out _).mono ?_; rintro e w1 ⟨rfl, rfl⟩)
      go_ret
      exact ⟨rfl, Below.refl _ _⟩
  · have hI : isI i = false := by rw [← Bool.not_eq_true, isI_iff]; exact h1
    rw [hI] at HI
    rw [openE_no h1]
    clear h1
    go_enter Try.func22, Try.ntmps22
    go_wp2_with (go_at_call 28; refine (HI.out _).mono ?_; rintro e w1 ⟨rfl, rfl⟩)
    go_ret
    exact ⟨rfl, Below.refl _ _⟩

set_option maxHeartbeats 400000 in
theorem nopen_nil (i : Int) (w : World) :
    Calls Try.prog 22 #[.pointer none, .int .i64 i] w fun e w' => e = .returned (.int .i64 1) ∧ Below w.heap.size w w' := by
  go_enter Try.func22, Try.ntmps22
  go_wp2
  go_ret
  exact ⟨rfl, Below.refl _ _⟩

theorem votes_eql (bm : Nat) (w : World) : (binOp .eql 54 (.map (some bm)) (.map none)).run Try.prog w = .ok (.bool false) w := by kernel_rfl
theorem known_eql (bm : Nat) (w : World) : (binOp .eql 55 (.map (some bm)) (.map none)).run Try.prog w = .ok (.bool false) w := by kernel_rfl
set_option maxHeartbeats 1000000 in
theorem keep_any (i : Int) (hi : -9223372036854775808 ≤ i ∧ i ≤ 9223372036854775807) (v : Vt) (w : World) (S : Nat → Prop) (g c : Nat) (s : Nd) (h : NdA w S g s c) (hc : c ≤ 1000000) :
    Calls Try.prog 24 #[.pointer (some ⟨g, 0, none⟩), .int .i64 i, .agg #[.int .u64 (v.p : Int), .int .u64 (v.b : Int), .string v.s]] w fun e w' => e = .returned (.tuple #[]) ∧ NdA w' S g { s with votes := updI s.votes i v } (c + 1) ∧ Turn S S w w' := by
  have hlt := h.lt
  obtain ⟨bv, bk, nv, nk, hg, hv, hk, hn1, hn2, hne, hS⟩ := h
  have hg2 := (obj_alloc hg (.cells #[.int .u64 (v.p : Int), .int .u64 (v.b : Int), .string v.s] 27))
  have hc0 := cell_row hg2 0
  simp only [List.getElem?_toArray, List.getElem?_cons_zero] at hc0
  obtain ⟨kl, hkey⟩ := int_key hi
  obtain ⟨w2, hrun, hM, hgr⟩ := (hv.alloc (.cells #[.int .u64 (v.p : Int), .int .u64 (v.b : Int), .string v.s] 27)).drew.store_ (Maps.int_keyed Try.underlying3) ekI_inj Try.underlying54 (by unfold maxLen; omega) hkey (encVt v)
  have hrun2 : (Instr.mapUpdate 54 (.map (some bv)) (.int .i64 i) (.agg #[.int .u64 (v.p : Int), .int .u64 (v.b : Int), .string v.s])).run Try.prog (w.alloc (.cells #[.int .u64 (v.p : Int), .int .u64 (v.b : Int), .string v.s] 27)).drew = .ok () w2 := hrun
  clear hrun
  have HX := Lib.hid (show NdA w2 S g { s with votes := updI s.votes i v } (c + 1) ∧ Turn S S w w2 from by
    have hbv : bv ≠ bk := hne.2.2
    refine ⟨⟨bv, bk, _, nk, ?_, hM.congr (fun x => congrFun (upd_map s.votes encVt i v) x) rfl, ?_, ?_, by omega, hne, hS⟩, ?_⟩
    · exact (hgr.block g (obj_lt hg2) (fun e => hne.1 (by cases e; rfl))).trans hg2
    · exact (hk.alloc _).drew.grown hgr (fun e => by cases e; exact hbv rfl)
    · split <;> omega
    · exact (((Turn.refl hlt).alloc _).drew).grown hgr (fun k e => by cases e; exact .inl ((hS _).2 (.inr (.inl rfl)))))
  clear hM hgr hlt hS hv hk hkey hg hg2
  have hq := votes_eql bv
  go_enter Try.func24, Try.ntmps24
  go_wp2
  go_region_law fail
  all_goals
    go_wp2
    go_end0
    exact ⟨rfl, HX.out⟩

set_option maxHeartbeats 1000000 in
theorem vote_any (i : Int) (hi : -9223372036854775808 ≤ i ∧ i ≤ 9223372036854775807) (w : World) (S : Nat → Prop) (g c : Nat) (s : Nd) (h : NdA w S g s c) :
    Calls Try.prog 13 #[.pointer (some ⟨g, 0, none⟩), .int .i64 i] w fun e w' => e = .returned (encVt (s.vote i)) ∧ Below w.heap.size w w' := by
  obtain ⟨bv, bk, nv, nk, hg, hv, _⟩ := h
  obtain ⟨kl, hkey⟩ := int_key hi
  have hg2 := (obj_alloc hg (.cells #[.int .u64 0, .int .u64 0, .string ⟨#[]⟩] 27))
  have hc0 := cell_row hg2 0
  simp only [List.getElem?_toArray, List.getElem?_cons_zero] at hc0
  have hlk := ((hv.alloc (.cells #[.int .u64 0, .int .u64 0, .string ⟨#[]⟩] 27)).look_ (e := 27) (t := 54) (z := encVt vt0) (Maps.int_keyed Try.underlying3) Try.underlying54 (by rfl) hkey).1
  unfold votesV at hlk
  rw [encVt_or] at hlk
  have HV : (s.votes i).getD vt0 = s.vote i := rfl
  rw [HV] at hlk
  clear HV
  generalize s.vote i = v at *
  unfold encVt ekI at hlk
  unfold encVt
  have hz := obj_lt hg
  clear hv hg hkey hg2
  go_enter Try.func13, Try.ntmps13
  go_wp2
  refine bodyPost_ret (v := .agg #[.int .u64 (v.p : Int), .int .u64 (v.b : Int), .string v.s]) ?_ rfl ⟨rfl, ?_⟩
  · rw [results_cell0 rfl]
    go_simp
  · repeat first | exact Below.refl _ _ | (refine Below.alloc ?_ (by first | omega | (simp; omega)) _) | (refine Below.setCell ?_ (by simp; try omega) _)
theorem vote_nil (i : Int) (w : World) :
    Calls Try.prog 13 #[.pointer none, .int .i64 i] w fun e w' => e = .returned (encVt vt0) ∧ Below w.heap.size w w' := by
  go_enter Try.func13, Try.ntmps13
  go_wp2
  refine bodyPost_ret (v := .agg #[.int .u64 0, .int .u64 0, .string ⟨#[]⟩]) ?_ rfl ⟨rfl, ?_⟩
  · rw [results_cell0 rfl]
    go_simp
  · repeat first | exact Below.refl _ _ | (refine Below.alloc ?_ (by first | omega | (simp; omega)) _) | (refine Below.setCell ?_ (by simp; try omega) _)
end Go.Proofs.Ytlboeaapmfpipaa
