/-
  A link receives data. Conditions: numbers are as the program's types allow.
-/
import Derived.Test.YtbmlenffcmmkbaaLnkF
namespace Ros
open Go Go.RowKit
def lcome (s : Lk) (life seq : Nat) : Bool × Bool × Lk :=
  if life < s.peerLife then (false, false, s) else
    if (if s.peerLife < life then 1 else s.waits) = seq then (true, true, { s with peerLife := life, waits := (seq + 1) % 4294967296 })
    else (true, false, { s with peerLife := life, waits := if s.peerLife < life then 1 else s.waits })
end Ros
namespace Go.Proofs.Ytbmlenffcmmkbaa
open Go.RowKit Go.Shelf Ros Go.Maps
attribute [local go_sem] Oper.semAt_some
theorem LkA.set4 {w : World} {S : Nat → Prop} {g : Nat} {s : Lk} (h : LkA w S g s) (n : Nat) : LkA (w.setCell ⟨g, 4, none⟩ (.int .u32 (n : Int))) S g { s with peerLife := n } := by
  obtain ⟨b, hg, hm, hne, hS⟩ := h
  exact ⟨b, (obj_set hg 4 _).trans rfl, hm.far (fun e => hne e.symm) _, hne, hS⟩
theorem LkA.set5 {w : World} {S : Nat → Prop} {g : Nat} {s : Lk} (h : LkA w S g s) (n : Nat) : LkA (w.setCell ⟨g, 5, none⟩ (.int .u32 (n : Int))) S g { s with waits := n } := by
  obtain ⟨b, hg, hm, hne, hS⟩ := h
  exact ⟨b, (obj_set hg 5 _).trans rfl, hm.far (fun e => hne e.symm) _, hne, hS⟩
theorem LkA.own {w : World} {S : Nat → Prop} {g : Nat} {s : Lk} (h : LkA w S g s) : S g := by
  obtain ⟨b, _, _, _, hS⟩ := h
  exact (hS g).2 (.inl rfl)
theorem wrap_u32 (n : Nat) : IntKind.u32.wrap ((n : Int) + 1) = (((n + 1) % 4294967296 : Nat) : Int) := by simp [IntKind.wrap, IntKind.signed, IntKind.bits]
theorem list_any (v : Value) (w : World) : Calls Try.prog 21 #[v] w fun e w' => e = .returned v ∧ w = w' := by
  go_enter Try.func21, Try.ntmps21
  go_wp2
  go_ret
  exact ⟨rfl, rfl⟩
set_option maxHeartbeats 2000000 in
theorem come_any (life seq : Nat) (w : World) (S : Nat → Prop) (g : Nat) (s : Lk) (h : LkA w S g s) :
    Calls Try.prog 20 #[.pointer (some ⟨g, 4, none⟩), .int .u32 (life : Int), .int .u32 (seq : Int)] w fun e w' => e = .returned (.tuple #[.bool (lcome s life seq).1, .bool (lcome s life seq).2.1]) ∧ LkA w' S g (lcome s life seq).2.2 ∧ Turn S S w w' := by
  obtain ⟨_, _, _, p4, p5, _, _, _, _, pf, _⟩ := lk_cells h
  have f4 := pf 4
  have f5 := pf 5
  have HF := Lib.hid h
  have HT := Lib.hid (Turn.refl h.lt)
  have HS := Lib.hid h.own
  clear pf h
  have hwr := wrap_u32 seq
  unfold lcome
  by_cases h1 : life < s.peerLife
  · rw [if_pos h1]
    go_enter Try.func20, Try.ntmps20
    go_wp2
    go_ret2
    exact ⟨rfl, HF.out, HT.out⟩
  · rw [if_neg h1]
    by_cases h2 : s.peerLife < life
    · rw [if_pos h2]
      by_cases h3 : 1 = seq
      · subst h3
        rw [if_pos rfl]
        go_enter Try.func20, Try.ntmps20
        go_wp2
        go_ret2
        exact ⟨rfl, (((HF.out.set4 life).set5 1).set5 2), ((HT.out.set_ (p := ⟨g, _, none⟩) (.inl HS.out) _).set_ (p := ⟨g, _, none⟩) (.inl HS.out) _).set_ (p := ⟨g, _, none⟩) (.inl HS.out) _⟩
      · rw [if_neg h3]
        have d3 : ¬ seq = 1 := fun e => h3 e.symm
        clear h3
        go_enter Try.func20, Try.ntmps20
        go_wp2
        go_ret2
        exact ⟨rfl, ((HF.out.set4 life).set5 1), (HT.out.set_ (p := ⟨g, _, none⟩) (.inl HS.out) _).set_ (p := ⟨g, _, none⟩) (.inl HS.out) _⟩
    · rw [if_neg h2]
      have he : life = s.peerLife := by omega
      by_cases h3 : s.waits = seq
      · rw [if_pos h3]
        have HE := Lib.hid (show ({ s with peerLife := life, waits := (seq + 1) % 4294967296 } : Lk) = { s with waits := (seq + 1) % 4294967296 } by rw [he])
        rw [h3] at p5
        clear he
        go_enter Try.func20, Try.ntmps20
        go_wp2
        go_ret2
        exact ⟨rfl, by rw [HE.out]; exact HF.out.set5 _, HT.out.set_ (p := ⟨g, _, none⟩) (.inl HS.out) _⟩
      · rw [if_neg h3]
        have HE := Lib.hid (show ({ s with peerLife := life, waits := s.waits } : Lk) = s by rw [he])
        have d3 : ¬ seq = s.waits := fun e => h3 e.symm
        clear he
        go_enter Try.func20, Try.ntmps20
        go_wp2
        go_ret2
        exact ⟨rfl, by rw [HE.out]; exact HF.out, HT.out⟩
end Go.Proofs.Ytbmlenffcmmkbaa
