/-
  What the functions of store compute, one by one: Recover; the store as laws use it. Conditions: at most 2^21 bytes lie there.
-/
import Derived.Test.YtcepdmpdabiglaaStoE
namespace Go.Proofs.Ytcepdmpdabiglaa
open Go.RowKit Go.Shelf Ros
attribute [local go_sem] Oper.semAt_some
set_option linter.unusedVariables false

set_option maxRecDepth 100000 in
set_option maxHeartbeats 1000000 in
theorem recover_any (S : Nat → Prop) (g : Nat) (s : St) (w : World) (h : StA w S g s) (hl : s.log.length ≤ 2000000) (hn : s.snap.size ≤ 2000000) :
    Calls Try.prog 12 #[.pointer (some ⟨g, 0, none⟩)] w fun e w' => ∃ A c, e = .returned (.tuple #[.string (snapD s.snap), .slice A (readL s.log).1.length c, .int .i64 0]) ∧
      Row w' 9 1 (.slice A (readL s.log).1.length c) (readL s.log).1.length (cellsS (readL s.log).1) ∧ (∀ k, (Value.slice A (readL s.log).1.length c).ownBlock = some k → w.heap.size ≤ k) ∧ StA w' S g (srec s) ∧ Turn S S w w' := by
  have hlt := h.lt
  obtain ⟨v, hg, hr, hS⟩ := h
  obtain ⟨Al, cl, rfl, hlc, hcm⟩ := hr.form
  obtain ⟨i0, hi0, hz0, hz1, hz2⟩ := info_parts byte_info
  have hne := hr.ne_ hg (by decide)
  have hgood := (readL_le s.log).1
  have hc0 : w.cell? ⟨g, 0, none⟩ = some (.slice Al s.log.length cl) := cell_row hg 0
  have hcv : (convert 44 9 (.slice Al s.log.length cl)).run Try.prog w = .ok (.string (str s.log)) w := by
    rcases hr.2 with ⟨hv, h0⟩ | ⟨gb, cap, cur, hv, hgb, _⟩
    · injection hv with e1 e2 e3
      subst e1
      subst e3
      have hnil : s.log = [] := List.eq_nil_of_length_eq_zero h0
      rw [hnil]
      exact run_convert_bytes_nil w 44 5 Try.underlying44 Try.underlying5 0 0 9 Try.underlying9
    · injection hv with e1 e2 e3
      subst e1
      have hcl := hr.cells ⟨gb, 0, none⟩ ⟨_, rfl⟩
      exact run_convert_bytes_back (P := Try.prog) w 44 9 5 ⟨gb, 0, none⟩ cl s.log Try.underlying44 Try.underlying5 Try.underlying9 (fun j hj => hcl j _ (by simp [cellsB, hj]))
  have HD := Lib.hid (read_own (str s.log) w (by rw [size_str]; omega))
  rw [bl_str] at HD
  have hsl := fun w' : World => slice_hm (P := Try.prog) Try.underlying44 hi0 Al s.log.length cl (readL s.log).2 (by omega) w'
  -- the object behind the stores
  have HG := Lib.hid (fun (w1 : World) (b1 : Below w.heap.size w w1) => (obj_below hg b1 (obj_lt hg)))
  have HQ := Lib.hid (fun (w1 : World) (b1 : Below w.heap.size w w1) => (show (w1.cell? ⟨g, 0, none⟩ = some (.slice Al s.log.length cl) ∧ w1.cell? ⟨g, 3, none⟩ = some (.bool s.cut) ∧ w1.cell? ⟨g, 4, none⟩ = some (.int .i64 (s.keep : Int)) ∧ w1.cell? ⟨g, 5, none⟩ = some (.bool s.down)) ∧ w1.frozen? ⟨g, 0, none⟩ = false ∧ w1.frozen? ⟨g, 3, none⟩ = false ∧ w1.frozen? ⟨g, 4, none⟩ = false ∧ w1.frozen? ⟨g, 5, none⟩ = false from
    ⟨⟨cell_row (HG.out w1 b1) 0, cell_row (HG.out w1 b1) 3, cell_row (HG.out w1 b1) 4, cell_row (HG.out w1 b1) 5⟩, obj_frozen (HG.out w1 b1) 0, obj_frozen (HG.out w1 b1) 3, obj_frozen (HG.out w1 b1) 4, obj_frozen (HG.out w1 b1) 5⟩))
  have HE := Lib.hid (fun (w1 : World) (b1 : Below w.heap.size w w1) => (show StA ((((w1.setCell ⟨g, 0, none⟩ (.slice Al (readL s.log).2 (readL s.log).2)).setCell ⟨g, 3, none⟩ (.bool false)).setCell ⟨g, 4, none⟩ (.int .i64 0)).setCell ⟨g, 5, none⟩ (.bool false)) S g (srec s) ∧
      Turn S S w ((((w1.setCell ⟨g, 0, none⟩ (.slice Al (readL s.log).2 (readL s.log).2)).setCell ⟨g, 3, none⟩ (.bool false)).setCell ⟨g, 4, none⟩ (.int .i64 0)).setCell ⟨g, 5, none⟩ (.bool false)) from by
    have hg1 := HG.out w1 b1
    have hr1 := (hr.below b1 (Nat.le_refl _)).cut3 (k := (readL s.log).2) hgood
    rw [Nat.mul_one, cellsB_take] at hr1
    have hSg : S g := (hS g).2 (.inl rfl)
    refine ⟨⟨.slice Al (readL s.log).2 (readL s.log).2, ?_, ?_, ?_⟩, ((((Turn.of_below b1 hlt).set_ (.inl hSg) _).set_ (.inl hSg) _).set_ (.inl hSg) _).set_ (.inl hSg) _⟩
    · have := obj_set (obj_set (obj_set (obj_set hg1 0 (.slice Al (readL s.log).2 (readL s.log).2)) 3 (.bool false)) 4 (.int .i64 0)) 5 (.bool false)
      simpa [cellsSt, srec] using this
    · have hlen : (srec s).log.length = (readL s.log).2 := by show (s.log.take _).length = _; rw [List.length_take]; omega
      rw [hlen]
      refine hr1.keep fun k hk => ?_
      have hkg : k ≠ g := fun e => hne (by rw [← e]; cases Al with | none => simp [Value.ownBlock] at hk | some a => simpa [Value.ownBlock] using hk)
      rw [Below.heap_setCell _ _ _ _ hkg, Below.heap_setCell _ _ _ _ hkg, Below.heap_setCell _ _ _ _ hkg, Below.heap_setCell _ _ _ _ hkg]
    · intro k
      rw [hS k]
      cases Al <;> simp [Value.ownBlock]))
  have HP := Lib.hid (fun (W : World) (hW : StA W S g (srec s)) => snapshot_any S g (srec s) W hW (by show s.snap.size ≤ _; omega))
  have HSN : Hid ((srec s).snap = s.snap) := Lib.hid rfl
  rw [HSN.out] at HP
  have HLT := Lib.hid (obj_lt hg)
  generalize snapD s.snap = sd at *
  generalize srec s = s2 at *
  generalize hrr : readL s.log = rr at *
  clear hr hne hg
  generalize str s.log = u at *
  go_enter Try.func12, Try.ntmps12
  go_wp2_with (first
    | (go_at_call 20; refine HD.out.mono ?_; rintro e w1 ⟨A, c, rfl, r1, o1, b1⟩; obtain ⟨⟨q0, q3, q4, q5⟩, f0, f3, f4, f5⟩ := HQ.out w1 b1)
    | (go_at_call 21; refine (HP.out _ (HE.out w1 b1).1).mono ?_; rintro e w2 ⟨rfl, b2⟩))
  have hrow := (r1.keep (w' := (((w1.setCell ⟨g, 0, none⟩ (.slice Al rr.2 rr.2)).setCell ⟨g, 3, none⟩ (.bool false)).setCell ⟨g, 4, none⟩ (.int .i64 0)).setCell ⟨g, 5, none⟩ (.bool false)) (fun k hk => by
    have hkg : k ≠ g := by have h1 := o1 k hk; have h2 := HLT.out; omega
    rw [Below.heap_setCell _ _ _ _ hkg, Below.heap_setCell _ _ _ _ hkg, Below.heap_setCell _ _ _ _ hkg, Below.heap_setCell _ _ _ _ hkg])).below b2 (Nat.le_refl _)
  refine bodyPost_ret (results_tmp3 rfl _ _ _) rfl ⟨A, c, rfl, hrow, o1, (HE.out w1 b1).1.below b2, (HE.out w1 b1).2.trans (.of_below b2 (HE.out w1 b1).2.lt)⟩
end Go.Proofs.Ytcepdmpdabiglaa
