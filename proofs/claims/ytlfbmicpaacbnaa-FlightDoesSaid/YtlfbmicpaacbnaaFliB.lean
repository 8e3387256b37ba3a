/-
  What the functions of flight compute, one by one: sending, taking, copying. Conditions: at most a thousand notes lie there.
-/
import Derived.Test.YtlfbmicpaacbnaaFliA
import Derived.Laws.ResultCell
import Derived.Deep.DrawnRows
import Derived.WalkMore
namespace Ros
open Go Go.RowKit
def isB (l : List Nt) (a : Int) : Bool := decide (0 ≤ a ∧ a < (l.length : Int))
theorem isB_iff {l : List Nt} {a : Int} : isB l a = true ↔ 0 ≤ a ∧ a < (l.length : Int) := by simp [isB]
theorem isB_no {l : List Nt} {a : Int} : isB l a = false ↔ a < 0 ∨ (l.length : Int) ≤ a := by simp [isB]; omega
/-- A flight's number and notes; what an act tells. -/
structure Fs where
  n : Nat
  l : List Nt
def mlaunch (f : Fs) (to : Int) (s : ByteArray) : (Nat × Int) × Fs :=
  if 1000 ≤ f.l.length then ((0, 30), f) else (((f.n + 1) % 4294967296, 0), ⟨(f.n + 1) % 4294967296, f.l ++ [⟨(f.n + 1) % 4294967296, to, s⟩]⟩)
def msend (f : Fs) (to : Int) (s : ByteArray) : (Nat × Int) × Fs := if to < 0 ∨ 16 ≤ to then ((0, 2), f) else mlaunch f to s
def nt0 : Nt := ⟨0, 0, ⟨#[]⟩⟩
def mtake (f : Fs) (a : Int) : (Nt × Int) × Fs := if isB f.l a = true then ((f.l.getD a.toNat nt0, 0), ⟨f.n, f.l.eraseIdx a.toNat⟩) else ((nt0, 2), f)
def mcopy (f : Fs) (a : Int) : (Nat × Int) × Fs := if isB f.l a = true then mlaunch f (f.l.getD a.toNat nt0).to (f.l.getD a.toNat nt0).s else ((0, 2), f)
end Ros
namespace Go.Proofs.Ytlfbmicpaacbnaa
open Go.RowKit Go.Shelf Ros
attribute [local go_sem] Oper.semAt_some
attribute [local go_sem ↓] Go.wp_at_zero Go.wp_at_succ

set_option maxHeartbeats 400000 in
theorem is_any (S : Nat → Prop) (g n : Nat) (l : List Nt) (a : Int) (w : World) (h : FlA w S g n l) :
    Calls Try.prog 25 #[.pointer (some ⟨g, 0, none⟩), .int .i64 a] w fun e w' => e = .returned (.bool (isB l a)) ∧ w = w' := by
  obtain ⟨v, hg, hr, hS⟩ := h
  obtain ⟨A, c, rfl, _, _⟩ := hr.form
  have hc : w.cell? ⟨g, 1, none⟩ = some (.slice A l.length c) := cell_row hg 1
  clear hg hr hS
  unfold isB
  by_cases h1 : 0 ≤ a
  · by_cases h2 : a < (l.length : Int)
    · go_enter Try.func25, Try.ntmps25
      go_wp2
      go_ret
      exact ⟨by simp [h1, h2], rfl⟩
    · go_enter Try.func25, Try.ntmps25
      go_wp2
      go_ret
      exact ⟨by simp [h2], rfl⟩
  · go_enter Try.func25, Try.ntmps25
    go_wp2
    go_ret
    exact ⟨by simp; omega, rfl⟩

theorem FlA.alloc {w : World} {S : Nat → Prop} {g n : Nat} {l : List Nt} (h : FlA w S g n l) (o : Obj) : FlA (w.alloc o) S g n l := h.keep fun k hk => Below.heap_alloc w o k (h.lt k hk)
theorem FlA.drew {w : World} {S : Nat → Prop} {g n : Nat} {l : List Nt} (h : FlA w S g n l) : FlA w.drew S g n l := h
theorem FlA.set0 {w : World} {S : Nat → Prop} {g n : Nat} {l : List Nt} (h : FlA w S g n l) (m : Nat) : FlA (w.setCell ⟨g, 0, none⟩ (.int .u32 (m : Int))) S g m l := by
  obtain ⟨v, hg, hr, hS⟩ := h
  have hne := hr.ne_ hg (by decide)
  exact ⟨v, by simpa using obj_set hg 0 (.int .u32 (m : Int)), hr.keep fun k hk => Below.heap_setCell _ _ _ _ (fun e => hne (by rw [hk, e])), hS⟩

set_option maxRecDepth 100000 in
set_option maxHeartbeats 400000 in
theorem launch_any (S : Nat → Prop) (g n : Nat) (l : List Nt) (to : Int) (s : ByteArray) (w : World) (h : FlA w S g n l) (hl : l.length ≤ 1000) :
    Calls Try.prog 23 #[.pointer (some ⟨g, 0, none⟩), .int .i64 to, .string s] w fun e w' => e = .returned (.tuple #[.int .u32 ((mlaunch ⟨n, l⟩ to s).1.1 : Int), .int .i64 (mlaunch ⟨n, l⟩ to s).1.2]) ∧
      ∃ S', FlA w' S' g (mlaunch ⟨n, l⟩ to s).2.n (mlaunch ⟨n, l⟩ to s).2.l ∧ Turn S S' w w' := by
  have hlt := h.lt
  obtain ⟨v, hg, hr, hS⟩ := id h
  obtain ⟨A, c, rfl, _, _⟩ := hr.form
  have hc : w.cell? ⟨g, 1, none⟩ = some (.slice A l.length c) := cell_row hg 1
  unfold mlaunch
  dsimp only
  by_cases h1 : 1000 ≤ l.length
  · rw [if_pos h1]
    clear hg hr hS
    go_enter Try.func23, Try.ntmps23
    go_wp2
    go_ret2
    exact ⟨rfl, S, h, .refl hlt⟩
  · rw [if_neg h1]
    dsimp only
    have hgS := (hS g).2 (.inl rfl)
    have HG := Lib.hid hg
    clear hg hr hS
    have HN := Lib.hid (next_any g n _ _ w HG.out)
    have HF := Lib.hid (fun m : Nat => h.set0 m)
    have HL := Lib.hid (fun m b x (w2 : World) (hf : FlA w2 S g m l) hb => lay_any S g m b l x w2 hf hb (by omega))
    generalize (n + 1) % 4294967296 = m at *
    have HT := Lib.hid ((Turn.refl hlt).set_ (p := ⟨g, 0, none⟩) (.inl hgS) (.int .u32 (m : Int)))
    have HB := Lib.hid (fun o => new_behind w ⟨g, 0, none⟩ (.int .u32 (m : Int)) o)
    go_enter Try.func23, Try.ntmps23
    go_wp2_with (first
      | (go_at_call 32
         refine HN.out.mono ?_
         rintro e w1 ⟨rfl, hw1⟩)
      | (go_at_call 33
         refine (HL.out m w.heap.size ⟨m, to, s⟩ _ ((HF.out m).alloc _) (HB.out _)).mono ?_
         rintro e w2 ⟨⟨v2, rfl⟩, S2, hf2, ht2⟩))
    go_ret2
    exact ⟨rfl, S2, hf2, (HT.out.alloc _).trans ht2⟩
end Go.Proofs.Ytlfbmicpaacbnaa
