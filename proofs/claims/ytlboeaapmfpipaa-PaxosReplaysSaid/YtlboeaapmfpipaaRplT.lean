/-
  Two nodes of the law's own; records gone through twice, plain. Conditions: none but the arguments' own.
-/
import Derived.Test.YtlboeaapmfpipaaRplR
namespace Ros
open Go Go.RowKit
theorem chain_err : ∀ (l : List ByteArray) (m : Nd), m.gone = 0 → Chain m l → ∀ j (h : j < l.length), (nreplay (play m (l.take j)) l[j]).1 = 0
  | [], _, _, _, j, h => absurd h (by simp)
  | a :: l, m, hg, hc, 0, h => (fits_step hg hc.1).1
  | a :: l, m, hg, hc, j + 1, h => chain_err l (nreplay m a).2 (fits_step hg hc.1).2.1 hc.2 j (by simpa using h)
theorem again_err : ∀ (l : List ByteArray) (m F T : Nd), m.gone = 0 → m.good → Chain m l → F = play m l → Again m F T → ∀ j (h : j < l.length), (nreplay (play T (l.take j)) l[j]).1 = 0
  | [], _, _, _, _, _, _, _, _, j, h => absurd h (by simp)
  | a :: l, m, F, T, hg, hm, hc, hF, ha, 0, h => (again_step hg hm hc hF ha).1
  | a :: l, m, F, T, hg, hm, hc, hF, ha, j + 1, h => again_err l (nreplay m a).2 F (nreplay T a).2 (fits_step hg hc.1).2.1 (nreplay_step hm a).2 hc.2 hF (again_step hg hm hc hF ha).2 j (by simpa using h)
theorem play_app (m : Nd) (a b : List ByteArray) : play m (a ++ b) = play (play m a) b := by unfold play; rw [List.foldl_append]
/-- A node that has replayed k of the records, gone through twice. -/
def mkN (l : List ByteArray) (k : Nat) : Nd := play nd0 ((l ++ l).take k)
theorem mkN_good (l : List ByteArray) (k : Nat) : (mkN l k).good := (play_good _ _ nd0_good).2
theorem mkN_step {s : Nd} {l : List ByteArray} (h : Hist s l) (k : Nat) (hk : k < 2 * l.length) (hm : k % l.length < l.length) :
    (nreplay (mkN l k) l[k % l.length]).1 = 0 ∧ mkN l (k + 1) = (nreplay (mkN l k) l[k % l.length]).2 := by
  have hlt : k < (l ++ l).length := by rw [List.length_append]; omega
  have e2 : mkN l (k + 1) = (nreplay (mkN l k) (l ++ l)[k]).2 := by
    unfold mkN
    rw [List.take_succ_eq_append_getElem hlt, play_snoc]
  by_cases hl : k < l.length
  · have e : k % l.length = k := Nat.mod_eq_of_lt hl
    have e3 : (l ++ l)[k] = l[k % l.length] := by rw [List.getElem_append_left hl]; simp only [e]
    rw [e3] at e2
    refine ⟨?_, e2⟩
    have h1 := chain_err l nd0 rfl h.chain k hl
    have e4 : mkN l k = play nd0 (l.take k) := by unfold mkN; rw [List.take_append_of_le_length (by omega)]
    simp only [e]
    rw [e4]
    exact h1
  · have e : k % l.length = k - l.length := by rw [Nat.mod_eq_sub_mod (by omega), Nat.mod_eq_of_lt (by omega)]
    have e3 : (l ++ l)[k] = l[k % l.length] := by rw [List.getElem_append_right (by omega)]; simp only [e]
    rw [e3] at e2
    refine ⟨?_, e2⟩
    have h1 := again_err l nd0 (play nd0 l) (play nd0 l) rfl nd0_good h.chain rfl (hist_again h) (k - l.length) (by omega)
    have e4 : mkN l k = play (play nd0 l) (l.take (k - l.length)) := by
      unfold mkN
      rw [List.take_append, List.take_of_length_le (by omega), play_app]
    simp only [e]
    rw [e4]
    exact h1
theorem mkN_end {s : Nd} {l : List ByteArray} (h : Hist s l) : SameN s (mkN l (2 * l.length)) := by
  have h1 := again_all l nd0 (play nd0 l) (play nd0 l) rfl nd0_good h.chain rfl (hist_again h)
  have e : mkN l (2 * l.length) = play (play nd0 l) l := by
    unfold mkN
    rw [List.take_of_length_le (by rw [List.length_append]; omega), play_app]
  rw [e]
  exact ⟨fun i => (h.same.vote i).trans (h1.vote i), fun i => (h.same.known i).trans (h1.known i), h.same.len.trans h1.len⟩
theorem prefT_same {s m : Nd} (h : SameN s m) : prefT s s.len = prefT m m.len := by
  unfold prefT
  rw [h.len, show s.known = m.known from funext h.known]
end Ros
namespace Go.Proofs.Ytlboeaapmfpipaa
open Go.RowKit Go.Shelf Ros
attribute [local go_sem] Oper.semAt_some
def T2 (S : Nat → Prop) (v : Value) : Nat → Prop := fun k => S k ∨ TR v k
def F2 (S : Nat → Prop) (g : Nat) (s : Nd) (v : Value) (l : List ByteArray) : World → Prop := fun W => NdA W S g s 60 ∧ FR v l W
section
variable {w W W2 : World} {S S2 : Nat → Prop} {g g2 c : Nat} {s m : Nd} {v : Value} {l : List ByteArray}
theorem NX.base {w0 : World} {T : Nat → Prop} {F : World → Prop} (h : NX w0 W S g s c T F) (hb : Below w.heap.size w w0) : NX w W S g s c T F :=
  ⟨h.nd, hb.trans (h.below.mono hb.size), fun k hk => Nat.le_trans hb.size (h.own k hk), fun k hk => ⟨(h.apart k hk).1, (h.apart k hk).2.1, Nat.le_trans hb.size (h.apart k hk).2.2⟩, h.frame, h.rest⟩
theorem two_start (h : NX w W S g s 60 (TR v) (FR v l)) (n2 : NdA W2 S2 g2 m c) (hS2 : ∀ k, S2 k → W.heap.size ≤ k) (b : Below W.heap.size W W2) : NX w W2 S2 g2 m c (T2 S v) (F2 S g s v l) := by
  refine ⟨n2, h.below.trans (b.mono h.below.size), fun k hk => Nat.le_trans h.below.size (hS2 k hk), fun k hk => ?_, fun X Y _ hk hf => ⟨hf.1.keep fun k h => hk k (.inl h), frame_FR (fun k h => hk k (.inr h)) hf.2⟩, ⟨(h.on b).nd, (h.on b).rest⟩⟩
  rcases hk with hk | hk
  · have := h.nd.lt k hk
    exact ⟨Nat.lt_of_lt_of_le this b.size, fun e => by have := hS2 k e; omega, h.own k hk⟩
  · obtain ⟨h1, _, h3⟩ := h.apart k hk
    exact ⟨Nat.lt_of_lt_of_le h1 b.size, fun e => by have := hS2 k e; omega, h3⟩
theorem decided_1 (h : NX w W S2 g2 m c (T2 S v) (F2 S g s v l)) (i : Int) (hi : -9223372036854775808 ≤ i ∧ i ≤ 9223372036854775807) :
    Calls Try.prog 20 #[.pointer (some ⟨g, 0, none⟩), .int .i64 i] W fun e W' => e = .returned (.tuple #[.string ((s.known i).getD ⟨#[]⟩), .bool (s.known i).isSome]) ∧ NX w W' S2 g2 m c (T2 S v) (F2 S g s v l) :=
  (decidedN_any i hi W S g 60 s h.rest.1).mono fun _ _ ⟨e, b⟩ => ⟨e, h.on b⟩
theorem pref_1 (h : NX w W S2 g2 m c (T2 S v) (F2 S g s v l)) (hlen : s.len ≤ 10000) :
    Calls Try.prog 16 #[.pointer (some ⟨g, 0, none⟩)] W fun e W' => ∃ A cap, e = .returned (.slice A s.len cap) ∧ ArgAt W' 1 A s.len ((prefT s s.len).map Value.string) ∧ s.len ≤ cap ∧ Below W.heap.size W W' ∧ NX w W' S2 g2 m c (T2 S v) (F2 S g s v l) :=
  (pref_own W S g 60 s h.rest.1 hlen).mono fun _ _ ⟨A, cap, e, ha, hn, b⟩ => ⟨A, cap, e, ha, hn.2, b, h.on b⟩
theorem pref_2 (h : NX w W S2 g2 m c (T2 S v) (F2 S g s v l)) (hlen : m.len ≤ 10000) :
    Calls Try.prog 16 #[.pointer (some ⟨g2, 0, none⟩)] W fun e W' => ∃ A cap, e = .returned (.slice A m.len cap) ∧ ArgAt W' 1 A m.len ((prefT m m.len).map Value.string) ∧ m.len ≤ cap ∧ Below W.heap.size W W' ∧ NX w W' S2 g2 m c (T2 S v) (F2 S g s v l) :=
  (pref_own W S2 g2 c m h.nd hlen).mono fun _ _ ⟨A, cap, e, ha, hn, b⟩ => ⟨A, cap, e, ha, hn.2, b, h.on b⟩
end
end Go.Proofs.Ytlboeaapmfpipaa
