/-
  What a node's records do when they are replayed, once and twice, plain. Conditions: none.
-/
import Derived.Test.YtlboeaapmfpipaaLeA
namespace Ros
open Go Go.RowKit
/-- A record that a node may have told. -/
def Fits (m : Nd) (r : ByteArray) : Prop := ∃ t, nread r = some t ∧
  ((t.kind = 112 ∧ (m.vote t.inst).p ≤ t.number) ∨ (t.kind = 118 ∧ (m.vote t.inst).p ≤ t.number ∧ (m.vote t.inst).b ≤ t.number) ∨ (t.kind = 100 ∧ m.known (t.inst : Int) = none))
def play (m : Nd) (l : List ByteArray) : Nd := l.foldl (fun m r => (nreplay m r).2) m
def Chain : Nd → List ByteArray → Prop
  | _, [] => True
  | m, r :: l => Fits m r ∧ Chain (nreplay m r).2 l
theorem play_cons (m : Nd) (r : ByteArray) (l : List ByteArray) : play m (r :: l) = play (nreplay m r).2 l := rfl
theorem play_snoc (m : Nd) (l : List ByteArray) (r : ByteArray) : play m (l ++ [r]) = (nreplay (play m l) r).2 := by unfold play; rw [List.foldl_append]; rfl
theorem chain_snoc : ∀ (l : List ByteArray) (m : Nd) (r : ByteArray), Chain m l → Fits (play m l) r → Chain m (l ++ [r])
  | [], _, _, _, h => ⟨h, trivial⟩
  | a :: l, m, r, h, k => ⟨h.1, chain_snoc l (nreplay m a).2 r h.2 k⟩
theorem chain_take : ∀ (l : List ByteArray) (m : Nd) (k : Nat), Chain m l → Chain m (l.take k) ∧ Chain (play m (l.take k)) (l.drop k)
  | [], _, _, _ => by simp [Chain]
  | a :: l, m, 0, h => ⟨trivial, h⟩
  | a :: l, m, k + 1, h => ⟨⟨h.1, (chain_take l (nreplay m a).2 k h.2).1⟩, (chain_take l (nreplay m a).2 k h.2).2⟩
theorem play_take (m : Nd) (l : List ByteArray) (k : Nat) : play (play m (l.take k)) (l.drop k) = play m l := by
  unfold play
  rw [← List.foldl_append, List.take_append_drop]
/-- The same, as far as it can be seen. -/
structure SameN (s m : Nd) : Prop where
  vote : ∀ i, s.vote i = m.vote i
  known : ∀ i, s.known i = m.known i
  len : s.len = m.len
/-- What replaying a record does to the votes. -/
theorem vote_upd (s : Nd) (i : Int) (v : Vt) (j : Int) : Nd.vote { s with votes := updI s.votes i v } j = if j = i then v else s.vote j := by
  unfold Nd.vote updI
  show (if j = i then some v else s.votes j).getD vt0 = _
  split <;> rfl
theorem nreplay_votes {s : Nd} (hg : s.gone = 0) {r : ByteArray} {t : Ros.Told} (h : nread r = some t) (hk : ¬ t.kind = 100) :
    (nreplay s r).1 = 0 ∧ (∀ j, (nreplay s r).2.vote j = if j = (t.inst : Int) then raiseV (s.vote t.inst) t else s.vote j) ∧ (nreplay s r).2.known = s.known ∧ (nreplay s r).2.len = s.len ∧ (nreplay s r).2.gone = 0 := by
  have h1 := (nread_ok h).1
  by_cases hs : raiseV (s.vote t.inst) t = s.vote t.inst
  · rw [nreplay_same h hk (by omega) hs]
    refine ⟨rfl, fun j => ?_, rfl, rfl, hg⟩
    split
    · rename_i e; rw [e, hs]
    · rfl
  · rw [nreplay_vote h hk (by omega) hs]
    exact ⟨rfl, fun j => vote_upd s _ _ j, rfl, rfl, hg⟩
theorem nlearn_gone (s : Nd) (i : Int) (v : ByteArray) : (nlearn s i v).2.gone = s.gone ∧ (nlearn s i v).2.votes = s.votes := by
  unfold nlearn
  split
  · cases s.known i <;> exact ⟨rfl, rfl⟩
  · exact ⟨rfl, rfl⟩
theorem nlearn_fresh {s : Nd} {i : Int} {v : ByteArray} (hi : isI i = true ∧ v.size ≤ 4000) (hk : s.known i = none) : nlearn s i v = ((recI 100 i (bl v), 0), { s with known := updI s.known i v, len := growL (updI s.known i v) (10000 - s.len) s.len }) := by
  unfold nlearn; rw [if_pos hi, hk]
theorem nlearn_again {s : Nd} {i : Int} {v : ByteArray} (hi : isI i = true ∧ v.size ≤ 4000) (hk : s.known i = some v) : nlearn s i v = (([], 0), s) := by
  unfold nlearn; rw [if_pos hi, hk]; show ((([] : List UInt8), if v = v then (0 : Int) else 91), s) = _; rw [if_pos rfl]
theorem told_isI {r : ByteArray} {t : Ros.Told} (h : nread r = some t) : isI (t.inst : Int) = true ∧ t.value.size ≤ 4000 := ⟨isI_iff.2 (by have := (nread_ok h).1; omega), (nread_ok h).2.1⟩
theorem raise_p (v : Vt) (t : Ros.Told) : (raiseV v t).p = max v.p t.number := by unfold raiseV; split <;> rfl
/-- Replaying what fits raises. -/
theorem fits_step {m : Nd} (hg : m.gone = 0) {r : ByteArray} (h : Fits m r) :
    (nreplay m r).1 = 0 ∧ (nreplay m r).2.gone = 0 ∧ (∀ i, (m.vote i).p ≤ ((nreplay m r).2.vote i).p ∧ (m.vote i).b ≤ ((nreplay m r).2.vote i).b) := by
  obtain ⟨t, hn, h⟩ := h
  rcases h with ⟨hk, hp⟩ | ⟨hk, hp, hb⟩ | ⟨hk, hkn⟩
  · obtain ⟨e1, e2, _, _, e5⟩ := nreplay_votes hg hn (by rw [hk]; decide)
    refine ⟨e1, e5, fun i => ?_⟩
    rw [e2]
    split
    · rename_i e
      subst e
      have : ¬ (t.kind = 118 ∧ (m.vote t.inst).b ≤ t.number) := fun e => by have := hk.symm.trans e.1; exact absurd this (by decide)
      refine ⟨by rw [raise_p]; omega, ?_⟩
      unfold raiseV
      rw [if_neg this]
      exact Nat.le_refl _
    · exact ⟨Nat.le_refl _, Nat.le_refl _⟩
  · obtain ⟨e1, e2, _, _, e5⟩ := nreplay_votes hg hn (by rw [hk]; decide)
    refine ⟨e1, e5, fun i => ?_⟩
    rw [e2]
    split
    · rename_i e
      subst e
      refine ⟨by rw [raise_p]; omega, ?_⟩
      unfold raiseV
      rw [if_pos ⟨hk, hb⟩]
      exact hb
    · exact ⟨Nat.le_refl _, Nat.le_refl _⟩
  · rw [nreplay_dec hn hk, nlearn_fresh (told_isI hn) hkn]
    exact ⟨rfl, hg, fun i => ⟨Nat.le_refl _, Nat.le_refl _⟩⟩
theorem chain_up : ∀ (l : List ByteArray) (m : Nd), m.gone = 0 → Chain m l → (play m l).gone = 0 ∧ (∀ i, (m.vote i).p ≤ ((play m l).vote i).p ∧ (m.vote i).b ≤ ((play m l).vote i).b)
  | [], m, hg, _ => ⟨hg, fun i => ⟨Nat.le_refl _, Nat.le_refl _⟩⟩
  | r :: l, m, hg, h => by
    obtain ⟨_, h2, h3⟩ := fits_step hg h.1
    obtain ⟨k1, k2⟩ := chain_up l (nreplay m r).2 h2 h.2
    exact ⟨k1, fun i => ⟨Nat.le_trans (h3 i).1 (k2 i).1, Nat.le_trans (h3 i).2 (k2 i).2⟩⟩
theorem play_good : ∀ (l : List ByteArray) (m : Nd), m.good → NdUp m (play m l) ∧ (play m l).good
  | [], m, h => ⟨NdUp.refl m, h⟩
  | r :: l, m, h => by
    obtain ⟨h1, h2⟩ := nreplay_step h r
    obtain ⟨k1, k2⟩ := play_good l (nreplay m r).2 h2
    exact ⟨h1.trans k1, k2⟩
/-- The second time: T has what F has, but for values of votes that are to come again. -/
structure Again (m F T : Nd) : Prop where
  p : ∀ i, (T.vote i).p = (F.vote i).p
  b : ∀ i, (T.vote i).b = (F.vote i).b
  s : ∀ i, (m.vote i).b = (F.vote i).b → (T.vote i).s = (m.vote i).s
  known : ∀ i, T.known i = F.known i
  len : T.len = F.len
  gone : T.gone = 0
theorem again_step {m F T : Nd} {r : ByteArray} {l : List ByteArray} (hg : m.gone = 0) (hm : m.good) (hc : Chain m (r :: l)) (hF : F = play m (r :: l)) (h : Again m F T) :
    (nreplay T r).1 = 0 ∧ Again (nreplay m r).2 F (nreplay T r).2 := by
  have hc1 := hc.1
  obtain ⟨f1, f2, f3⟩ := fits_step hg hc.1
  obtain ⟨_, up⟩ := chain_up l (nreplay m r).2 f2 hc.2
  have hup := (play_good l (nreplay m r).2 (nreplay_step hm r).2).1
  rw [play_cons] at hF
  rw [← hF] at up hup
  obtain ⟨t, hn, hh⟩ := hc1
  rcases hh with ⟨hk, hp⟩ | ⟨hk, hp, hb⟩ | ⟨hk, hkn⟩
  · have hk0 : ¬ t.kind = 100 := by rw [hk]; decide
    obtain ⟨_, m2, _, _, _⟩ := nreplay_votes hg hn hk0
    obtain ⟨t1, t2, t3, t4, t5⟩ := nreplay_votes h.gone hn hk0
    have nk : ∀ v : Vt, raiseV v t = ⟨max v.p t.number, v.b, v.s⟩ := fun v => if_neg fun e => absurd (hk.symm.trans e.1) (by decide)
    have hle := (up (t.inst : Int)).1
    rw [m2, if_pos rfl, raise_p] at hle
    refine ⟨t1, ⟨fun i => ?_, fun i => ?_, fun i => ?_, fun i => by rw [t3]; exact h.known i, by rw [t4]; exact h.len, t5⟩⟩
    · rw [t2]
      split
      · rename_i e; subst e; rw [raise_p, h.p]; omega
      · exact h.p i
    · rw [t2]
      split
      · rename_i e; subst e; rw [nk]; exact h.b _
      · exact h.b i
    · rw [t2, m2]
      split
      · rename_i e; subst e; rw [nk, nk]; exact h.s _
      · exact h.s i
  · have hk0 : ¬ t.kind = 100 := by rw [hk]; decide
    obtain ⟨_, m2, _, _, _⟩ := nreplay_votes hg hn hk0
    obtain ⟨t1, t2, t3, t4, t5⟩ := nreplay_votes h.gone hn hk0
    have mk : raiseV (m.vote t.inst) t = ⟨max (m.vote t.inst).p t.number, t.number, t.value⟩ := if_pos ⟨hk, hb⟩
    have hle := up (t.inst : Int)
    rw [m2, if_pos rfl, mk] at hle
    dsimp only at hle
    refine ⟨t1, ⟨fun i => ?_, fun i => ?_, fun i => ?_, fun i => by rw [t3]; exact h.known i, by rw [t4]; exact h.len, t5⟩⟩
    · rw [t2]
      split
      · rename_i e; subst e; rw [raise_p, h.p]; omega
      · exact h.p i
    · rw [t2]
      split
      · rename_i e
        subst e
        by_cases hx : (T.vote t.inst).b ≤ t.number
        · rw [show raiseV (T.vote t.inst) t = ⟨max (T.vote t.inst).p t.number, t.number, t.value⟩ from if_pos ⟨hk, hx⟩]
          have := h.b (t.inst : Int)
          show t.number = _
          omega
        · rw [show raiseV (T.vote t.inst) t = ⟨max (T.vote t.inst).p t.number, (T.vote t.inst).b, (T.vote t.inst).s⟩ from if_neg fun e => hx e.2]
          exact h.b _
      · exact h.b i
    · rw [t2, m2]
      split
      · rename_i e
        subst e
        rw [mk]
        intro e2
        have e3 : t.number = (F.vote (t.inst : Int)).b := e2
        have hx : (T.vote t.inst).b ≤ t.number := by rw [h.b]; omega
        rw [show raiseV (T.vote t.inst) t = ⟨max (T.vote t.inst).p t.number, t.number, t.value⟩ from if_pos ⟨hk, hx⟩]
      · exact h.s i
  · have hFk : F.known (t.inst : Int) = some t.value := by
      apply hup.1
      rw [nreplay_dec hn hk, nlearn_fresh (told_isI hn) hkn]
      exact updI_same _ _ _
    have e1 : nreplay T r = (0, T) := by
      rw [nreplay_dec hn hk, nlearn_again (told_isI hn) (by rw [h.known, hFk])]
    rw [e1, nreplay_dec hn hk, nlearn_fresh (told_isI hn) hkn]
    exact ⟨rfl, ⟨h.p, h.b, h.s, h.known, h.len, h.gone⟩⟩
theorem again_all : ∀ (l : List ByteArray) (m F T : Nd), m.gone = 0 → m.good → Chain m l → F = play m l → Again m F T → SameN F (play T l)
  | [], m, F, T, _, _, _, hF, h => by
    have hF' : F = m := hF
    subst hF'
    refine ⟨fun i => ?_, fun i => (h.known i).symm, h.len.symm⟩
    have h1 := h.p i
    have h2 := h.b i
    have h3 := h.s i rfl
    show F.vote i = T.vote i
    cases hf : F.vote i; cases ht : T.vote i
    rw [hf, ht] at h1 h2 h3
    dsimp only at h1 h2 h3
    rw [h1, h2, h3]
  | r :: l, m, F, T, hg, hm, hc, hF, h => again_all l (nreplay m r).2 F (nreplay T r).2 (fits_step hg hc.1).2.1 (nreplay_step hm r).2 hc.2 hF (again_step hg hm hc hF h).2
end Ros
