/-
  A link sends. Conditions: numbers are as the program's types allow.
-/
import Derived.Test.YtbmlenffcmmkbaaLnkB
import Derived.Test.YtbmlenffcmmkbaaSame
import Derived.Deep.RegionLaw
import Derived.Deep.QuietTactic
import Derived.BigQuiet
namespace Ros
open Go Go.RowKit
def Lk.next (s : Lk) : Nat := s.first + s.outs.length
/-- A link as the contracts keep it. -/
def Lk.ok (s : Lk) : Prop := s.life < 4294967296 ∧ s.next < 4294967296 ∧ s.peerLife < 4294967296 ∧ s.waits < 4294967296
def lsend (s : Lk) (d : ByteArray) : Int × Lk := if d.size ≤ 4096 then (if (s.window ≤ (s.outs.length : Int)) ∨ s.next = 4294967295 then (30, s) else (0, { s with outs := s.outs ++ [d] })) else (2, s)
theorem outsV_snoc (s : Lk) (d : ByteArray) (y : Nat) : (if y = s.next then some (.agg #[.string d]) else outsV s y) = outsV { s with outs := s.outs ++ [d] } y := by
  unfold outsV Lk.next
  dsimp only
  by_cases h : y = s.first + s.outs.length
  · rw [if_pos h, if_pos (by omega), h]
    simp
  · rw [if_neg h]
    by_cases h1 : s.first ≤ y
    · rw [if_pos h1, if_pos h1]
      by_cases h2 : y - s.first < s.outs.length
      · rw [List.getElem?_append_left h2]
      · rw [List.getElem?_eq_none (by omega), List.getElem?_eq_none (by rw [List.length_append, List.length_singleton]; omega)]
    · rw [if_neg h1, if_neg h1]
theorem outsV_next (s : Lk) : outsV s s.next = none := by
  unfold outsV Lk.next
  rw [if_pos (by omega), List.getElem?_eq_none (by omega)]
  rfl
end Ros
namespace Go.Proofs.Ytbmlenffcmmkbaa
open Go.RowKit Go.Shelf Ros Go.Maps
attribute [local go_sem] Oper.semAt_some
theorem outs_eql (bm : Nat) (w : World) : (binOp .eql 53 (.map (some bm)) (.map none)).run Try.prog w = .ok (.bool false) w := by kernel_rfl
theorem LkA.drew {w : World} {S : Nat → Prop} {g : Nat} {s : Lk} (h : LkA w S g s) : LkA w.drew S g s := h
theorem LkA.drewN {w : World} {S : Nat → Prop} {g : Nat} {s : Lk} (h : LkA w S g s) (n : Nat) : LkA (w.drewN n) S g s := h
set_option maxHeartbeats 2000000 in
theorem lay_yes (d : ByteArray) (w : World) (S : Nat → Prop) (g : Nat) (s : Lk) (h : LkA w S g s) (hn : s.next < 4294967295) (hl : s.outs.length ≤ 1000) :
    Calls Try.prog 24 #[.pointer (some ⟨g, 0, none⟩), .string d] w fun e w' => e = .returned (.tuple #[]) ∧ LkA w' S g { s with outs := s.outs ++ [d] } ∧ Turn S S w w' := by
  have hlt := h.lt
  obtain ⟨b, hg, hm, hne, hS⟩ := h
  have q2 : w.cell? ⟨g, 2, none⟩ = some (.int .u32 (s.next : Int)) := cell_row hg 2
  have q3 : w.cell? ⟨g, 3, none⟩ = some (.map (some b)) := cell_row hg 3
  obtain ⟨kl, hkey⟩ := w32_key (n := s.next) (by omega)
  obtain ⟨w2, hrun, hM, hgr⟩ := hm.drew.store_ (Maps.int_keyed Try.underlying35) ekW_inj Try.underlying53 (by unfold maxLen; omega) hkey (.agg #[.string d])
  have hg2 := obj_grown (show w.drew.heap[g]? = _ from hg) hgr (fun e => hne (by injection e with e; exact e.symm))
  have p2 : w2.cell? ⟨g, 2, none⟩ = some (.int .u32 (s.next : Int)) := cell_row hg2 2
  have pf := obj_frozen hg2 2
  have hq := outs_eql b
  have HF := Lib.hid (show LkA (w2.setCell ⟨g, 2, none⟩ (.int .u32 ((s.next : Int) + 1))) S g { s with outs := s.outs ++ [d] } ∧ Turn S S w (w2.setCell ⟨g, 2, none⟩ (.int .u32 ((s.next : Int) + 1))) from by
    refine ⟨⟨b, ?_, (hM.far (p := ⟨g, 2, none⟩) (fun e => hne e.symm) _).congr (fun x => outsV_snoc s d x) ?_, hne, hS⟩, ?_⟩
    · have := obj_set hg2 2 (.int .u32 ((s.next : Int) + 1))
      rw [this]
      have e : s.first + (s.outs ++ [d]).length = s.next + 1 := by unfold Lk.next; rw [List.length_append, List.length_singleton]; omega
      show some (Obj.cells ((cellsLk s b).setIfInBounds 2 _) _ _) = some (Obj.cells (cellsLk { s with outs := s.outs ++ [d] } b) _ _)
      unfold cellsLk
      dsimp only
      rw [e]
      rfl
    · rw [outsV_next, List.length_append, List.length_singleton]; rfl
    · exact ((Turn.refl hlt).drew.grown hgr (fun k e => by injection e with e; exact .inl ((hS k).2 (.inr e.symm)))).set_ (.inl ((hS g).2 (.inl rfl))) _)
  have hwr : IntKind.u32.wrap ((s.next : Int) + 1) = (s.next : Int) + 1 := by simp [IntKind.wrap, IntKind.signed, IntKind.bits]; omega
  unfold ekW at hrun
  clear hM hgr hm hg hg2 hS hlt hkey hne
  generalize s.next = nx at *
  go_enter Try.func24, Try.ntmps24
  go_wp2
  go_region_law fail
  all_goals
    go_wp2
    go_end0
    exact ⟨rfl, HF.out⟩
set_option maxHeartbeats 2000000 in
theorem lsend_any (d : ByteArray) (hd : d.size ≤ 140737488355328) (w : World) (S : Nat → Prop) (g : Nat) (s : Lk) (h : LkA w S g s) (hok : s.next < 4294967296) (hl : s.outs.length ≤ 1000) :
    Calls Try.prog 14 #[.pointer (some ⟨g, 0, none⟩), .string d] w fun e w' => e = .returned (.int .i64 (lsend s d).1) ∧ LkA w' S g (lsend s d).2 ∧ Turn S S w w' := by
  have hlt := h.lt
  have HF := Lib.hid h
  have HY := Lib.hid (fun W (hW : LkA W S g s) (hn : s.next < 4294967295) => lay_yes d W S g s hW hn hl)
  obtain ⟨b, hg, hm, hne, hS⟩ := h
  have q2 : w.cell? ⟨g, 2, none⟩ = some (.int .u32 (s.next : Int)) := cell_row hg 2
  have q3 : w.cell? ⟨g, 3, none⟩ = some (.map (some b)) := cell_row hg 3
  have q9 : w.cell? ⟨g, 9, none⟩ = some (.int .i64 s.window) := cell_row hg 9
  have hln : ∀ n : Nat, (Builtin.len_ #[53] 3 #[.map (some b)]).run Try.prog (w.drewN n) = .ok (.int .i64 (s.outs.length : Int)) (w.drewN n) := fun n => (hm.drewN n).len_ Try.underlying53 _
  have HT := Lib.hid (Turn.refl hlt)
  clear hg hm hS hlt hne
  unfold lsend
  by_cases h1 : d.size ≤ 4096
  · rw [if_pos h1]
    have c1 : decide ((d.size : Int) > 4096) = false := by simp; omega
    by_cases h2 : s.window ≤ (s.outs.length : Int)
    · rw [if_pos (.inl h2)]
      have c2 : decide ((s.outs.length : Int) ≥ s.window) = true := by simp; omega
      clear HY
      generalize s.next = nx at *
      go_enter Try.func14, Try.ntmps14
      go_wp2
      go_quiet (fail)
      go_wp2
      go_ret
      exact ⟨rfl, HF.out.drewN _, HT.out.belowR (below_dN (Below.refl _ _) _)⟩
    · have c2 : decide ((s.outs.length : Int) ≥ s.window) = false := by simp; omega
      by_cases h3 : s.next = 4294967295
      · rw [if_pos (.inr h3)]
        have c3 : ((s.next : Int) == 4294967295) = true := by simp; omega
        clear HY
        generalize s.next = nx at *
        go_enter Try.func14, Try.ntmps14
        go_wp2
        go_quiet (fail)
        go_wp2
        go_ret
        exact ⟨rfl, HF.out.drewN _, HT.out.belowR (below_dN (Below.refl _ _) _)⟩
      · rw [if_neg (by rintro (e | e); exact h2 e; exact h3 e)]
        have c3 : ((s.next : Int) == 4294967295) = false := by simp; omega
        have hn : s.next < 4294967295 := by omega
        have HN := Lib.hid hn
        clear hn h2 h3 hok
        generalize s.next = nx at *
        go_enter Try.func14, Try.ntmps14
        go_wp2
        go_quiet (fail)
        go_wp2_with (go_at_call 24; (with_reducible refine (HY.out _ (HF.out.drewN _) HN.out).mono ?_); rintro e w3 ⟨rfl, h3, t3⟩)
        go_ret
        exact ⟨rfl, h3, (HT.out.belowR (below_dN (Below.refl _ _) _)).trans t3⟩
  · rw [if_neg h1]
    have c1 : decide ((d.size : Int) > 4096) = true := by simp; omega
    clear HY
    go_enter Try.func14, Try.ntmps14
    go_wp2
    go_ret
    exact ⟨rfl, HF.out, HT.out⟩
theorem lsend_nil (d : ByteArray) (w : World) :
    Calls Try.prog 14 #[.pointer none, .string d] w fun e w' => e = .returned (.int .i64 1) ∧ w = w' := by
  go_enter Try.func14, Try.ntmps14
  go_wp2
  go_ret
  exact ⟨rfl, rfl⟩
end Go.Proofs.Ytbmlenffcmmkbaa
