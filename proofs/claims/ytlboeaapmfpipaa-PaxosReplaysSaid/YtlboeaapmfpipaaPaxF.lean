/-
  A node's part, plain laws of the statements: what is fresh, what is shown. Conditions: none.
-/
import Derived.Test.YtlboeaapmfpipaaPaxM
namespace Ros
open Go
theorem growL_stop (known : Int → Option ByteArray) (f l : Nat) (h : known ((l + 1 : Nat) : Int) = none) : growL known f l = l := by
  cases f with
  | zero => rfl
  | succ f => unfold growL; rw [h]; rfl
theorem growL_go (known : Int → Option ByteArray) (f l : Nat) (v : ByteArray) (h : known ((l + 1 : Nat) : Int) = some v) : growL known (f + 1) l = growL known f (l + 1) := by
  conv => lhs; unfold growL
  rw [h]; rfl
theorem openF_ok {s : Nd} {i : Int} (h1 : 1 ≤ i) (h2 : i ≤ 10000) (h3 : (s.gone : Int) < i) : openE s i = 0 := by
  unfold openE; rw [if_pos (isI_iff.2 ⟨h1, h2⟩), if_neg (by omega)]
theorem openF_bad {s : Nd} {i : Int} (h : ¬ (1 ≤ i ∧ i ≤ 10000)) : openE s i = 2 := by
  unfold openE; rw [if_neg (fun e => h (isI_iff.1 e))]
def freshS (i : Int) (b : Nat) : Nd := { nd0 with votes := updI nd0.votes i ⟨b, 0, ⟨#[]⟩⟩ }
theorem right_fresh (b : Nat) : rightB ⟨b, 0, ⟨#[]⟩⟩ = true := (rightB_iff _).2 ⟨Nat.zero_le _, .inr rfl, Nat.zero_le _⟩
theorem fresh_vote (i : Int) (b : Nat) : (freshS i b).vote i = ⟨b, 0, ⟨#[]⟩⟩ := by show (updI nd0.votes i ⟨b, 0, ⟨#[]⟩⟩ i).getD vt0 = _; rw [updI_same]; rfl
theorem fresh1 {i : Int} {b : Nat} (h1 : 1 ≤ i) (h2 : i ≤ 10000) (hb : 1 ≤ b) : nprom nd0 i b = (((⟨b, 0, ⟨#[]⟩⟩, recI 112 i (halvesL b)), 0), freshS i b) := by
  have ho : openE nd0 i = 0 := openF_ok h1 h2 (by show (0 : Int) < i; omega)
  have hm : mprom (nd0.vote i) b = (⟨b, 0, ⟨#[]⟩⟩, 0) := mprom_yes (v := vt0) ⟨right_vt0, hb⟩ (by show 0 < b; omega)
  unfold nprom
  rw [if_pos ho, hm, if_pos rfl]
  rfl
theorem fresh_no {i : Int} {b : Nat} (h : ¬ (1 ≤ i ∧ i ≤ 10000 ∧ 1 ≤ b)) : nprom nd0 i b = (((vt0, []), 2), nd0) := by
  unfold nprom
  by_cases hi : 1 ≤ i ∧ i ≤ 10000
  · have hm : mprom (nd0.vote i) b = (vt0, 2) := mprom_bad (v := vt0) (fun e => h ⟨hi.1, hi.2, e.2⟩)
    rw [if_pos (openF_ok hi.1 hi.2 (by show (0 : Int) < i; omega)), hm, if_neg (by decide)]
  · rw [openF_bad hi, if_neg (by decide)]
theorem fresh2 {i : Int} {b : Nat} (h1 : 1 ≤ i) (h2 : i ≤ 10000) (hb : 1 ≤ b) (v : ByteArray) : ∃ e : Int, (e == 0) = false ∧ ncast (freshS i b) i (b - 1) v = (([], e), freshS i b) := by
  have ho : openE (freshS i b) i = 0 := openF_ok h1 h2 (by show (0 : Int) < i; omega)
  have hm : ∃ e : Int, (e == 0) = false ∧ e ≠ 0 ∧ mcast ((freshS i b).vote i) (b - 1) v = (vt0, e) := by
    rw [fresh_vote]
    by_cases hx : rightB ⟨b, 0, ⟨#[]⟩⟩ = true ∧ 1 ≤ b - 1 ∧ v.size ≤ 4000
    · exact ⟨80, rfl, by decide, mcast_low hx (by show b - 1 < b; omega)⟩
    · exact ⟨2, rfl, by decide, mcast_bad hx⟩
  obtain ⟨e, he, hne, hm⟩ := hm
  refine ⟨e, he, ?_⟩
  unfold ncast
  rw [if_pos ho, hm, if_neg hne]
theorem fresh3 {i : Int} {b : Nat} (h1 : 1 ≤ i) (h2 : i ≤ 10000) (hb : 1 ≤ b) (v : ByteArray) (hv : v.size ≤ 4000) : ncast (freshS i b) i b v = ((recI 118 i (halvesL b ++ bl v), 0), { freshS i b with votes := updI (freshS i b).votes i ⟨b, b, v⟩ }) := by
  have ho : openE (freshS i b) i = 0 := openF_ok h1 h2 (by show (0 : Int) < i; omega)
  have hm : mcast ((freshS i b).vote i) b v = (⟨b, b, v⟩, 0) := by
    rw [fresh_vote]
    exact mcast_yes ⟨right_fresh b, hb, hv⟩ (Nat.le_refl _)
  unfold ncast
  rw [if_pos ho, hm, if_pos rfl]
theorem fresh4 (i : Int) (b : Nat) (v : ByteArray) : Nd.vote { freshS i b with votes := updI (freshS i b).votes i ⟨b, b, v⟩ } i = ⟨b, b, v⟩ := by show (updI (freshS i b).votes i ⟨b, b, v⟩ i).getD vt0 = _; rw [updI_same]; rfl
/-- What is shown. -/
def pA : ByteArray := ⟨#[97]⟩
def pB : ByteArray := ⟨#[98]⟩
def pC : ByteArray := ⟨#[99]⟩
def sh1 : Nd := freshS 1 17
def sh2 : Nd := { sh1 with known := updI sh1.known 2 pB }
def sh3 : Nd := { sh2 with known := updI sh2.known 1 pA, len := 2 }
theorem shw2 : nlearn sh1 2 pB = ((recI 100 2 (bl pB), 0), sh2) := by
  have hk : sh1.known 2 = none := rfl
  unfold nlearn
  rw [if_pos ⟨by decide, by decide⟩, hk]
  have hl : growL (updI sh1.known 2 pB) (10000 - sh1.len) sh1.len = 0 := growL_stop _ _ 0 (by rw [updI_other _ _ (by decide)]; rfl)
  dsimp only
  rw [hl]; rfl
theorem shw3 : nlearn sh2 1 pA = ((recI 100 1 (bl pA), 0), sh3) := by
  have hk : sh2.known 1 = none := by show updI sh1.known 2 pB 1 = none; rw [updI_other _ _ (by decide)]; rfl
  unfold nlearn
  rw [if_pos ⟨by decide, by decide⟩, hk]
  have hl : growL (updI sh2.known 1 pA) (10000 - sh2.len) sh2.len = 2 := by
    show growL (updI sh2.known 1 pA) (9999 + 1) 0 = 2
    rw [growL_go _ 9999 0 pA (show updI sh2.known 1 pA ((0+1:Nat):Int) = some pA from updI_same _ _ _)]
    show growL (updI sh2.known 1 pA) (9998 + 1) 1 = 2
    rw [growL_go _ 9998 1 pB (by rw [updI_other _ _ (by decide)]; exact (show updI sh1.known 2 pB 2 = some pB from updI_same _ _ _))]
    exact growL_stop _ _ 2 (by rw [updI_other _ _ (by decide)]; show updI sh1.known 2 pB 3 = none; rw [updI_other _ _ (by decide)]; rfl)
  dsimp only
  rw [hl]; rfl
theorem shw4 : nlearn sh3 1 pC = (([], 91), sh3) := by
  have hk : sh3.known 1 = some pA := show updI sh2.known 1 pA 1 = some pA from updI_same _ _ _
  unfold nlearn
  rw [if_pos ⟨by decide, by decide⟩, hk]
  dsimp only
  rw [if_neg (by decide)]
theorem shw5 : prefL sh2 = [] := rfl
theorem shw6 : prefL sh3 = [bl pA, bl pB] := by
  have h1 : sh3.known 1 = some pA := show updI sh2.known 1 pA 1 = some pA from updI_same _ _ _
  have h2 : sh3.known 2 = some pB := by show updI sh2.known 1 pA 2 = _; rw [updI_other _ _ (by decide)]; exact (show updI sh1.known 2 pB 2 = some pB from updI_same _ _ _)
  show (List.range 2).map _ = _
  simp only [List.range_succ_eq_map, List.range_zero, List.map_cons, List.map_nil]
  show [bl ((sh3.known 1).getD ⟨#[]⟩), bl ((sh3.known 2).getD ⟨#[]⟩)] = _
  rw [h1, h2]; rfl
end Ros
