/-
  What is gone, plain: the states that PaxosGone goes through. Conditions: none.
-/
import Derived.Test.YtlboeaapmfpipaaPaxN
namespace Ros
open Go
def pV : ByteArray := ⟨#[118]⟩
def pW : ByteArray := ⟨#[119]⟩
/-- j instances voted for and learned. -/
def stG (j : Nat) : Nd := ⟨fun t => if 1 ≤ t ∧ t ≤ (j : Int) then some ⟨t.toNat, t.toNat, pV⟩ else none, fun t => if 1 ≤ t ∧ t ≤ (j : Int) then some pV else none, j, 0⟩
def stGc (j : Nat) : Nd := { stG j with votes := (stG (j + 1)).votes }
theorem stG_zero : stG 0 = nd0 := by
  unfold stG nd0
  congr 1 <;> (funext t; rw [if_neg (by omega)])
theorem stG_upd {α : Type} (j : Nat) (e : Int → α) : updI (fun t => if 1 ≤ t ∧ t ≤ (j : Int) then some (e t) else none) ((j + 1 : Nat) : Int) (e ((j + 1 : Nat) : Int)) = fun t => if 1 ≤ t ∧ t ≤ ((j + 1 : Nat) : Int) then some (e t) else none := by
  funext t
  by_cases h : t = ((j + 1 : Nat) : Int)
  · subst h; rw [updI_same, if_pos (by omega)]
  · rw [updI_other _ _ h]
    by_cases h2 : 1 ≤ t ∧ t ≤ (j : Int)
    · rw [if_pos h2, if_pos (by omega)]
    · rw [if_neg h2, if_neg (by omega)]
theorem stG_cast {j : Nat} (hj : j < 10000) : ncast (stG j) ((j + 1 : Nat) : Int) (j + 1) pV = ((recI 118 ((j + 1 : Nat) : Int) (halvesL (j + 1) ++ bl pV), 0), stGc j) := by
  have ho : openE (stG j) ((j + 1 : Nat) : Int) = 0 := openE_ok ⟨by omega, by omega⟩ (by show ¬ ((j + 1 : Nat) : Int) ≤ 0; omega)
  have hv : (stG j).vote ((j + 1 : Nat) : Int) = vt0 := by
    show (if 1 ≤ ((j + 1 : Nat) : Int) ∧ ((j + 1 : Nat) : Int) ≤ (j : Int) then some _ else none).getD vt0 = vt0
    rw [if_neg (by omega)]; rfl
  have hm : mcast ((stG j).vote ((j + 1 : Nat) : Int)) (j + 1) pV = (⟨j + 1, j + 1, pV⟩, 0) := by
    rw [hv]; exact mcast_yes ⟨right_vt0, by omega, by decide⟩ (Nat.zero_le _)
  rw [ncast_yes ho (by rw [hm]), hm]
  have e := stG_upd j (fun t => (⟨t.toNat, t.toNat, pV⟩ : Vt))
  rw [show (((j + 1 : Nat) : Int)).toNat = j + 1 from rfl] at e
  show (_, { stG j with votes := updI (stG j).votes ((j + 1 : Nat) : Int) ⟨j + 1, j + 1, pV⟩ }) = (_, stGc j)
  rw [show updI (stG j).votes ((j + 1 : Nat) : Int) ⟨j + 1, j + 1, pV⟩ = (stG (j + 1)).votes from e]
  rfl
theorem stG_learn {j : Nat} (hj : j < 10000) : nlearn (stGc j) ((j + 1 : Nat) : Int) pV = ((recI 100 ((j + 1 : Nat) : Int) (bl pV), 0), stG (j + 1)) := by
  have hk : (stGc j).known ((j + 1 : Nat) : Int) = none := by
    show (if 1 ≤ ((j + 1 : Nat) : Int) ∧ ((j + 1 : Nat) : Int) ≤ (j : Int) then some pV else none) = none
    rw [if_neg (by omega)]
  rw [nlearn_new ⟨isI_iff.2 ⟨by omega, by omega⟩, by decide⟩ hk]
  have e : updI (stGc j).known ((j + 1 : Nat) : Int) pV = (stG (j + 1)).known := stG_upd j (fun _ => pV)
  rw [e]
  have hl : growL (stG (j + 1)).known (10000 - (stGc j).len) (stGc j).len = j + 1 := by
    show growL (stG (j + 1)).known (10000 - j) j = j + 1
    refine growL_at _ 1 (10000 - j) j (by omega) (fun t ht => ?_) ?_
    · obtain rfl : t = 0 := by omega
      show (if 1 ≤ ((j + 1 + 0 : Nat) : Int) ∧ ((j + 1 + 0 : Nat) : Int) ≤ ((j + 1 : Nat) : Int) then some pV else none).isSome = true
      rw [if_pos (by omega)]; rfl
    · refine .inr ?_
      show (if 1 ≤ ((j + 1 + 1 : Nat) : Int) ∧ ((j + 1 + 1 : Nat) : Int) ≤ ((j + 1 : Nat) : Int) then some pV else none) = none
      rw [if_neg (by omega)]
  rw [hl]
  rfl
theorem stG_ok {j : Nat} (hj : j ≤ 10000) : (stG j).ok := by
  refine ⟨fun i v h => ?_, hj, Nat.zero_le _⟩
  have h' : (if 1 ≤ i ∧ i ≤ (j : Int) then some (⟨i.toNat, i.toNat, pV⟩ : Vt) else none) = some v := h
  split at h'
  · cases h'
    exact ⟨by show i.toNat < _; omega, by show i.toNat < _; omega, by show pV.size ≤ _; decide⟩
  · cases h'
/-- What is left behind a loop's first casts. -/
structure GoneI (k gone j : Nat) (s : Nd) : Prop where
  len : s.len = k
  gn : s.gone = gone
  no : ∀ t : Int, t ≤ (gone : Int) → s.votes t = none
  yes : ∀ t : Int, (gone : Int) < t → (j : Int) < t → t ≤ (k : Int) → s.votes t = some ⟨t.toNat, t.toNat, pV⟩
  ok : s.ok
theorem goneI_start {k gone : Nat} (hk : k ≤ 20) (hg : gone ≤ k) : ncompact (stG k) (gone : Int) = (0, { stG k with votes := dropI (stG k).votes 0 gone, gone := gone }) ∧ GoneI k gone 0 { stG k with votes := dropI (stG k).votes 0 gone, gone := gone } := by
  refine ⟨?_, rfl, rfl, fun t ht => ?_, fun t h1 h2 h3 => ?_, fun i v h => ?_, ?_, ?_⟩
  · exact ncompact_yes (s := stG k) ⟨by omega, by show (gone : Int) ≤ (k : Int); omega⟩ (by show ¬ (gone : Int) < 0; omega)
  · show dropI (stG k).votes 0 gone t = none
    unfold dropI
    by_cases e : 0 < t ∧ t ≤ (gone : Int)
    · rw [if_pos e]
    · rw [if_neg e]
      show (if 1 ≤ t ∧ t ≤ (k : Int) then some _ else none) = none
      rw [if_neg (by omega)]
  · show dropI (stG k).votes 0 gone t = _
    unfold dropI
    rw [if_neg (by omega)]
    show (if 1 ≤ t ∧ t ≤ (k : Int) then some _ else none) = _
    rw [if_pos (by omega)]
  · have h' : dropI (stG k).votes 0 gone i = some v := h
    unfold dropI at h'
    split at h'
    · cases h'
    · exact (stG_ok (j := k) (by omega)).1 i v h'
  · show k ≤ 10000; omega
  · show gone ≤ 10000; omega
theorem goneI_step {k gone j : Nat} {s : Nd} (h : GoneI k gone j s) (hk : k ≤ 20) (hj : j < k) :
    GoneI k gone (j + 1) (ncast s ((j + 1 : Nat) : Int) 100 pW).2 ∧ (ncast s ((j + 1 : Nat) : Int) 100 pW).1.2 = if j + 1 ≤ gone then 90 else 0 := by
  by_cases e : j + 1 ≤ gone
  · have ho : openE s ((j + 1 : Nat) : Int) = 90 := openE_gone ⟨by omega, by omega⟩ (by rw [h.gn]; omega)
    rw [ncast_no (by rw [ho]; decide), if_pos e]
    exact ⟨⟨h.len, h.gn, h.no, fun t h1 h2 h3 => h.yes t h1 (by omega) h3, h.ok⟩, ho⟩
  · have ho : openE s ((j + 1 : Nat) : Int) = 0 := openE_ok ⟨by omega, by omega⟩ (by rw [h.gn]; omega)
    have hv : s.vote ((j + 1 : Nat) : Int) = ⟨j + 1, j + 1, pV⟩ := by
      unfold Nd.vote
      rw [h.yes _ (by omega) (by omega) (by omega)]; rfl
    have hm : mcast (s.vote ((j + 1 : Nat) : Int)) 100 pW = (⟨100, 100, pW⟩, 0) := by
      rw [hv]
      exact mcast_yes ⟨(rightB_iff _).2 ⟨Nat.le_refl _, .inl (by show 1 ≤ j + 1; omega), by show pV.size ≤ 4000; decide⟩, by decide, by decide⟩ (by show j + 1 ≤ 100; omega)
    rw [ncast_yes ho (by rw [hm]), hm, if_neg e]
    refine ⟨⟨h.len, h.gn, fun t ht => ?_, fun t h1 h2 h3 => ?_, Nd.ok_upd h.ok ⟨by decide, by decide, by decide⟩⟩, rfl⟩
    · show updI s.votes ((j + 1 : Nat) : Int) _ t = none
      rw [updI_other _ _ (by omega)]; exact h.no t ht
    · show updI s.votes ((j + 1 : Nat) : Int) _ t = _
      rw [updI_other _ _ (by omega)]; exact h.yes t h1 (by omega) h3
end Ros
