/-
  A node's own records, read again; its history, plain. Conditions: numbers are as the program's types allow.
-/
import Derived.Test.YtlboeaapmfpipaaRplM
namespace Ros
open Go Go.RowKit
theorem recI_size (k : UInt8) (i : Int) (l : List UInt8) : (str (recI k i l)).size = 5 + l.length := by
  rw [size_str]; unfold recI; simp [toB_length]; omega
theorem recI_inst (k : UInt8) (i : Int) (l : List UInt8) (hi : 1 ≤ i ∧ i ≤ 10000) : instOf (str (recI k i l)) = i.toNat := by
  unfold instOf
  rw [bl_extract, bl_str]
  have : ((recI k i l).take 5).drop 1 = toB 4 i.toNat := by
    unfold recI
    rw [List.take_succ_cons, List.drop_succ_cons, List.drop_zero, List.take_append_of_le_length (by rw [toB_length]; omega)]
    exact List.take_of_length_le (by rw [toB_length]; omega)
  rw [this, le_toB]
  omega
theorem recI_get (k : UInt8) (i : Int) (l : List UInt8) (h : 0 < (str (recI k i l)).size) : (str (recI k i l))[0] = k := by rw [bl_get]; rfl
theorem recI_rest (k : UInt8) (i : Int) (l : List UInt8) (a : Nat) (b : Nat) : bl ((str (recI k i l)).extract (5 + a) (5 + b)) = (l.take b).drop a := by
  rw [bl_extract, bl_str]
  unfold recI
  rw [show 5 + b = (4 + b) + 1 by omega, List.take_succ_cons, show 5 + a = (4 + a) + 1 by omega, List.drop_succ_cons, List.take_append, List.drop_append]
  simp [toB_length]
theorem nread_dec' {i : Int} {v : ByteArray} (hi : 1 ≤ i ∧ i ≤ 10000) (hv : v.size ≤ 4000) : nread (str (recI 100 i (bl v))) = some ⟨100, i.toNat, 0, v⟩ := by
  have hs := recI_size 100 i (bl v)
  rw [← size_bl] at hs
  have hI := recI_inst 100 i (bl v) hi
  have h0 : 0 < (str (recI 100 i (bl v))).size := by omega
  rw [nread_dec (by omega) (by rw [hI]; omega) h0 (recI_get _ _ _ _), if_pos (by omega), hI]
  have : (str (recI 100 i (bl v))).extract 5 (str (recI 100 i (bl v))).size = v := by
    apply bl_inj
    rw [hs]
    have := recI_rest 100 i (bl v) 0 v.size
    rw [Nat.add_zero] at this
    rw [this, List.drop_zero, List.take_of_length_le (by rw [← size_bl]; omega)]
  rw [this]
theorem numB_halves {s : ByteArray} {n : Nat} (hn : n < 18446744073709551616) (h : bl s = halvesL n) : numB s = n := by
  unfold numB
  rw [bl_extract, bl_extract, h]
  unfold halvesL
  have h1 : ((toB 4 (n % 4294967296) ++ toB 4 (n / 4294967296)).take 4).drop 0 = toB 4 (n % 4294967296) := by
    rw [List.drop_zero, List.take_append_of_le_length (by rw [toB_length]; omega)]
    exact List.take_of_length_le (by rw [toB_length]; omega)
  have h2 : ((toB 4 (n % 4294967296) ++ toB 4 (n / 4294967296)).take 8).drop 4 = toB 4 (n / 4294967296) := by
    rw [List.take_of_length_le (by rw [List.length_append, toB_length, toB_length]; omega), List.drop_append, toB_length]
    simp [toB_length]
  rw [h1, h2, le_toB, le_toB]
  omega
theorem nread_num' {k : UInt8} (hk : k = 112 ∨ k = 118) {i : Int} {n : Nat} {v : ByteArray} (hi : 1 ≤ i ∧ i ≤ 10000) (h1 : 1 ≤ n) (hn : n < 18446744073709551616) (hv : v.size ≤ 4000) (hp : k = 112 → v.size = 0) :
    nread (str (recI k i (halvesL n ++ bl v))) = some ⟨k, i.toNat, n, v⟩ := by
  have hs := recI_size k i (halvesL n ++ bl v)
  rw [List.length_append, halvesL_len, ← size_bl] at hs
  have hI := recI_inst k i (halvesL n ++ bl v) hi
  have h0 : 0 < (str (recI k i (halvesL n ++ bl v))).size := by omega
  have hg := recI_get k i (halvesL n ++ bl v) h0
  have hN : numB ((str (recI k i (halvesL n ++ bl v))).extract 5 13) = n := by
    apply numB_halves hn
    have := recI_rest k i (halvesL n ++ bl v) 0 8
    rw [Nat.add_zero] at this
    rw [this, List.drop_zero, List.take_append_of_le_length (by rw [halvesL_len]; omega)]
    exact List.take_of_length_le (by rw [halvesL_len]; omega)
  have hk1 : ¬ (str (recI k i (halvesL n ++ bl v)))[0] = 100 := by
    rw [hg]; rcases hk with rfl | rfl <;> decide
  rw [nread_num (by omega) (by rw [hI]; omega) h0 hk1 (by rw [hg]; exact hk) (by omega), hg, hN, hI]
  rw [if_neg (by rintro (⟨e1, e2⟩ | e); exact e2 (by rw [hs, hp e1]); exact e ⟨h1, by omega⟩)]
  have : (str (recI k i (halvesL n ++ bl v))).extract 13 (str (recI k i (halvesL n ++ bl v))).size = v := by
    apply bl_inj
    rw [hs]
    have := recI_rest k i (halvesL n ++ bl v) 8 (8 + v.size)
    rw [this, List.take_of_length_le (by rw [List.length_append, halvesL_len, ← size_bl]; omega), List.drop_append, halvesL_len]
    simp [halvesL_len]
  rw [this]
/-- What a node that told these records has. -/
structure Hist (s : Nd) (out : List ByteArray) : Prop where
  chain : Chain nd0 out
  same : SameN s (play nd0 out)
  right : ∀ i, rightB (s.vote i) = true
  gone : s.gone = 0
  good : s.good
theorem vt0_right : rightB vt0 = true := by rw [rightB_iff]; exact ⟨Nat.le_refl _, .inr rfl, by show (0 : Nat) ≤ 4000; omega⟩
theorem hist_start : Hist nd0 [] := ⟨trivial, ⟨fun _ => rfl, fun _ => rfl, rfl⟩, fun _ => vt0_right, rfl, nd0_good⟩
/-- A promise's record, told. -/
theorem hist_prom {s : Nd} {out : List ByteArray} (h : Hist s out) (x : Pa) (hx : x.ok) :
    Hist (nprom s x.i x.b).2 (if (nprom s x.i x.b).1.2 = 0 ∧ (nprom s x.i x.b).1.1.2 ≠ [] then out ++ [str (nprom s x.i x.b).1.1.2] else out) := by
  have hgood := (nprom_step h.good x hx).2
  by_cases ho : openE s x.i = 0
  · have hi := openE_zero ho
    by_cases hm : rightB (s.vote x.i) = true ∧ 1 ≤ x.b
    · by_cases hp : x.b ≤ (s.vote x.i).p
      · have hr : (mprom (s.vote x.i) x.b).2 = 80 := by rw [mprom_low hm hp]
        have e : nprom s x.i x.b = (((vt0, []), 80), s) := by unfold nprom; rw [if_pos ho, if_neg (by rw [hr]; decide), hr]
        rw [e, if_neg (fun e => absurd e.1 (show ¬ (80 : Int) = 0 by decide))]
        exact h
      · have hr : mprom (s.vote x.i) x.b = (⟨x.b, (s.vote x.i).b, (s.vote x.i).s⟩, 0) := mprom_yes hm (by omega)
        have e : nprom s x.i x.b = (((⟨x.b, (s.vote x.i).b, (s.vote x.i).s⟩, recI 112 x.i (halvesL x.b)), 0), { s with votes := updI s.votes x.i ⟨x.b, (s.vote x.i).b, (s.vote x.i).s⟩ }) := by
          unfold nprom; rw [if_pos ho, if_pos (by rw [hr]), hr]
        rw [e] at hgood
        rw [e, if_pos ⟨rfl, by unfold recI; simp⟩]
        have hnr := nread_num' (k := 112) (.inl rfl) (i := x.i) (n := x.b) (v := ⟨#[]⟩) hi hm.2 hx.2.2.1 (by show (0 : Nat) ≤ 4000; omega) (fun _ => rfl)
        rw [show halvesL x.b ++ bl ⟨#[]⟩ = halvesL x.b by simp [bl]] at hnr
        have hit : ((x.i.toNat : Nat) : Int) = x.i := by omega
        obtain ⟨t1, t2, t3, t4, t5⟩ := nreplay_votes (chain_up out nd0 rfl h.chain).1 hnr (show ¬ (112 : UInt8) = 100 by decide)
        rw [hit] at t2
        have hv := h.same.vote x.i
        refine ⟨chain_snoc out nd0 _ h.chain ⟨_, hnr, .inl ⟨rfl, ?_⟩⟩, ?_, fun i => ?_, h.gone, hgood⟩
        · rw [hit, ← hv]; show _ ≤ x.b; omega
        · rw [play_snoc]
          refine ⟨fun j => ?_, fun j => by rw [t3]; exact h.same.known j, by rw [t4]; exact h.same.len⟩
          rw [t2, vote_upd]
          split
          · rw [← hv]
            rw [show raiseV (s.vote x.i) ⟨112, x.i.toNat, x.b, ⟨#[]⟩⟩ = ⟨max (s.vote x.i).p x.b, (s.vote x.i).b, (s.vote x.i).s⟩ from if_neg fun e => absurd e.1 (show ¬ (112 : UInt8) = 118 by decide), Nat.max_eq_right (by omega)]
          · exact h.same.vote j
        · rw [vote_upd]
          split
          · exact right_prom hm.1 (by omega)
          · exact h.right i
    · have hr := mprom_bad hm
      have e : nprom s x.i x.b = (((vt0, []), 2), s) := by unfold nprom; rw [if_pos ho, if_neg (by rw [hr]; decide), hr]
      rw [e, if_neg (fun e => absurd e.1 (show ¬ (2 : Int) = 0 by decide))]
      exact h
  · have e : nprom s x.i x.b = (((vt0, []), openE s x.i), s) := by unfold nprom; rw [if_neg ho]
    rw [e, if_neg (by rintro ⟨e, _⟩; exact ho e)]
    exact h
/-- A vote's record, told. -/
theorem hist_cast {s : Nd} {out : List ByteArray} (h : Hist s out) (x : Pa) (hx : x.ok) :
    Hist (ncast s x.i x.b (textP x)).2 (if (ncast s x.i x.b (textP x)).1.2 = 0 ∧ (ncast s x.i x.b (textP x)).1.1 ≠ [] then out ++ [str (ncast s x.i x.b (textP x)).1.1] else out) := by
  have hgood := (ncast_step h.good x hx).2
  generalize textP x = y at *
  by_cases ho : openE s x.i = 0
  · have hi := openE_zero ho
    by_cases hm : rightB (s.vote x.i) = true ∧ 1 ≤ x.b ∧ y.size ≤ 4000
    · by_cases hp : x.b < (s.vote x.i).p
      · have hr : (mcast (s.vote x.i) x.b y).2 = 80 := by rw [mcast_low hm hp]
        have e : ncast s x.i x.b y = (([], 80), s) := by unfold ncast; rw [if_pos ho, if_neg (by rw [hr]; decide), hr]
        rw [e, if_neg (fun e => absurd e.1 (show ¬ (80 : Int) = 0 by decide))]
        exact h
      · have hr : mcast (s.vote x.i) x.b y = (⟨x.b, x.b, y⟩, 0) := mcast_yes hm (by omega)
        have e : ncast s x.i x.b y = ((recI 118 x.i (halvesL x.b ++ bl y), 0), { s with votes := updI s.votes x.i ⟨x.b, x.b, y⟩ }) := by
          unfold ncast; rw [if_pos ho, if_pos (by rw [hr]), hr]
        rw [e] at hgood
        rw [e, if_pos ⟨rfl, by unfold recI; simp⟩]
        have hnr := nread_num' (k := 118) (.inr rfl) (i := x.i) (n := x.b) (v := y) hi hm.2.1 hx.2.2.1 hm.2.2 (fun e => absurd e (by decide))
        have hit : ((x.i.toNat : Nat) : Int) = x.i := by omega
        obtain ⟨t1, t2, t3, t4, t5⟩ := nreplay_votes (chain_up out nd0 rfl h.chain).1 hnr (show ¬ (118 : UInt8) = 100 by decide)
        rw [hit] at t2
        have hv := h.same.vote x.i
        have hbp := ((rightB_iff _).1 hm.1).1
        refine ⟨chain_snoc out nd0 _ h.chain ⟨_, hnr, .inr (.inl ⟨rfl, ?_⟩)⟩, ?_, fun i => ?_, h.gone, hgood⟩
        · rw [hit, ← hv]; show _ ≤ x.b ∧ _ ≤ x.b; omega
        · rw [play_snoc]
          refine ⟨fun j => ?_, fun j => by rw [t3]; exact h.same.known j, by rw [t4]; exact h.same.len⟩
          rw [t2, vote_upd]
          split
          · rw [← hv]
            rw [show raiseV (s.vote x.i) ⟨118, x.i.toNat, x.b, y⟩ = ⟨max (s.vote x.i).p x.b, x.b, y⟩ from if_pos ⟨rfl, by show _ ≤ x.b; omega⟩, Nat.max_eq_right (by omega)]
          · exact h.same.vote j
        · rw [vote_upd]
          split
          · exact right_cast hm.2.1 hm.2.2
          · exact h.right i
    · have hr := mcast_bad hm
      have e : ncast s x.i x.b y = (([], 2), s) := by unfold ncast; rw [if_pos ho, if_neg (by rw [hr]; decide), hr]
      rw [e, if_neg (fun e => absurd e.1 (show ¬ (2 : Int) = 0 by decide))]
      exact h
  · have e : ncast s x.i x.b y = (([], openE s x.i), s) := by unfold ncast; rw [if_neg ho]
    rw [e, if_neg (fun e => ho e.1)]
    exact h
/-- What was learned, told. -/
theorem hist_learn {s : Nd} {out : List ByteArray} (h : Hist s out) (x : Pa) :
    Hist (nlearn s x.i (textP x)).2 (if (nlearn s x.i (textP x)).1.2 = 0 ∧ (nlearn s x.i (textP x)).1.1 ≠ [] then out ++ [str (nlearn s x.i (textP x)).1.1] else out) := by
  have hgood := (nlearn_step h.good x.i (textP x)).2
  generalize textP x = y at *
  by_cases hi : isI x.i = true ∧ y.size ≤ 4000
  · cases hk : s.known x.i with
    | some old =>
      have e : nlearn s x.i y = (([], if old = y then 0 else 91), s) := by unfold nlearn; rw [if_pos hi, hk]
      rw [e]
      dsimp only
      rw [if_neg (show ¬ ((if old = y then (0 : Int) else 91) = 0 ∧ ([] : List UInt8) ≠ []) from fun e => e.2 rfl)]
      exact h
    | none =>
      have e := nlearn_fresh hi hk
      rw [e] at hgood
      rw [e, if_pos ⟨rfl, by unfold recI; simp⟩]
      have hi2 := isI_iff.1 hi.1
      have hnr := nread_dec' (v := y) hi2 hi.2
      have hit : ((x.i.toNat : Nat) : Int) = x.i := by omega
      have hkm : (play nd0 out).known x.i = none := by rw [← h.same.known]; exact hk
      have hrep := nreplay_dec (s := play nd0 out) hnr rfl
      dsimp only at hrep
      rw [hit, nlearn_fresh hi hkm] at hrep
      refine ⟨chain_snoc out nd0 _ h.chain ⟨_, hnr, .inr (.inr ⟨rfl, by rw [hit]; exact hkm⟩)⟩, ?_, h.right, h.gone, hgood⟩
      rw [play_snoc, hrep]
      have hkn : s.known = (play nd0 out).known := funext h.same.known
      refine ⟨h.same.vote, fun j => by rw [hkn], ?_⟩
      show growL _ _ _ = growL _ _ _
      rw [hkn, h.same.len]
  · have e : nlearn s x.i y = (([], 2), s) := by unfold nlearn; rw [if_neg hi]
    rw [e, if_neg (fun e => e.2 rfl)]
    exact h
/-- A node that has replayed all, once. -/
theorem hist_again {s : Nd} {out : List ByteArray} (h : Hist s out) : Again nd0 (play nd0 out) (play nd0 out) := by
  refine ⟨fun _ => rfl, fun _ => rfl, fun i hb => ?_, fun _ => rfl, rfl, (chain_up out nd0 rfl h.chain).1⟩
  have hr := h.right i
  rw [h.same.vote i] at hr
  have h0 : ((play nd0 out).vote i).b = 0 := hb.symm
  have h2 := ((rightB_iff _).1 hr).2.1
  have hz : ((play nd0 out).vote i).s.size = 0 := by omega
  apply bl_inj
  show bl ((play nd0 out).vote i).s = []
  apply List.eq_nil_of_length_eq_zero
  rw [← size_bl, hz]
end Ros
