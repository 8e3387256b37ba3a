/-
  Records as bytes, and what is read of bytes: plain laws. Conditions: none.
-/
import Derived.Test.YtlboeaapmfpipaaCrcP
namespace Ros
/-- A record's bytes. -/
@[irreducible] def recL (d : List UInt8) : List UInt8 := seal4 (52 :: (toB 4 d.length ++ d))
theorem recL_def (d : List UInt8) : recL d = seal4 (52 :: (toB 4 d.length ++ d)) := by unfold recL; rfl
theorem recL_length (d : List UInt8) : (recL d).length = d.length + 9 := by rw [recL_def, seal4_length]; simp [toB_length]; omega
/-- The number that stands behind a record's first byte. -/
def numL (s : List UInt8) : Nat := getN ((s.take 5).drop 1)
/-- Do bytes begin with a record? -/
@[irreducible] def okOne (s : List UInt8) : Bool := decide (9 ≤ s.length) && decide (s.getD 0 0 = 52) && decide (numL s ≤ 4096) && decide (numL s + 9 ≤ s.length) && openB (s.take (numL s + 9))
theorem okOne_iff (s : List UInt8) : okOne s = true ↔ 9 ≤ s.length ∧ s.getD 0 0 = 52 ∧ numL s ≤ 4096 ∧ numL s + 9 ≤ s.length ∧ openB (s.take (numL s + 9)) = true := by
  unfold okOne; simp [and_assoc]
@[irreducible] def oneD (s : List UInt8) : List UInt8 := if okOne s = true then (openL (s.take (numL s + 9))).drop 5 else []
@[irreducible] def oneN (s : List UInt8) : Nat := if okOne s = true then numL s + 9 else 0
theorem one_yes {s : List UInt8} (h : okOne s = true) : oneD s = (openL (s.take (numL s + 9))).drop 5 ∧ oneN s = numL s + 9 := by unfold oneD oneN; simp [h]
theorem one_no {s : List UInt8} (h : okOne s = false) : oneD s = [] ∧ oneN s = 0 := by unfold oneD oneN; simp [h]
theorem oneN_le (s : List UInt8) : oneN s ≤ s.length ∧ (oneN s = 0 ∨ 9 ≤ oneN s) ∧ oneN s ≤ 4105 ∧ (oneD s).length ≤ oneN s := by
  cases h : okOne s with
  | true =>
    obtain ⟨h1, h2, h3, h4, h5⟩ := (okOne_iff s).1 h
    have h6 : openL (s.take (numL s + 9)) = _ := openL_yes h5
    rw [(one_yes h).1, (one_yes h).2, h6]
    refine ⟨h4, .inr (by omega), by omega, ?_⟩
    simp; omega
  | false => rw [(one_no h).1, (one_no h).2]; exact ⟨by omega, .inl rfl, by omega, by simp⟩
theorem num_rec (d t : List UInt8) (hd : d.length ≤ 4096) : numL (recL d ++ t) = d.length ∧ (recL d ++ t).getD 0 0 = 52 := by
  have e : recL d ++ t = 52 :: (toB 4 d.length ++ (d ++ toB 4 (sum (52 :: (toB 4 d.length ++ d))) ++ t)) := by rw [recL_def, seal4]; simp
  have h4 := toB_length 4 d.length
  unfold numL
  rw [e]
  refine ⟨?_, rfl⟩
  rw [List.take_succ_cons, List.drop_succ_cons, List.drop_zero, List.take_left' h4]
  exact (getN_put _ (by omega)).1
theorem one_rec (d t : List UInt8) (hd : d.length ≤ 4096) : oneD (recL d ++ t) = d ∧ oneN (recL d ++ t) = d.length + 9 := by
  have h1 := num_rec d t hd
  have hl := recL_length d
  have ht : (recL d ++ t).take (d.length + 9) = recL d := List.take_left' hl
  have ho := open_seal (52 :: (toB 4 d.length ++ d))
  rw [← recL_def] at ho
  have hk : okOne (recL d ++ t) = true := by
    rw [okOne_iff, h1.1, h1.2, ht, List.length_append, hl]
    exact ⟨by omega, rfl, hd, by omega, ho.1⟩
  rw [(one_yes hk).1, (one_yes hk).2, h1.1, ht, ho.2]
  refine ⟨?_, rfl⟩
  rw [List.drop_succ_cons, List.drop_left' (toB_length 4 _)]
theorem one_cut (d t : List UInt8) (n : Nat) (hd : d.length ≤ 4096) (hn : n < d.length + 9) : oneN ((recL d ++ t).take n) = 0 := by
  have h1 := num_rec d t hd
  have hk : okOne ((recL d ++ t).take n) = false := by
    cases h : okOne ((recL d ++ t).take n) with
    | false => rfl
    | true =>
      exfalso
      obtain ⟨g1, g2, g3, g4, g5⟩ := (okOne_iff _).1 h
      have hl : ((recL d ++ t).take n).length ≤ n := by rw [List.length_take]; omega
      have hnum : numL ((recL d ++ t).take n) = d.length := by
        rw [← h1.1]
        unfold numL
        rw [List.take_take, Nat.min_eq_left (by omega)]
      rw [hnum] at g4
      omega
  exact (one_no hk).2

/-- What is read: the records' data, and how many bytes are good. -/
def readF : Nat → List UInt8 → List (List UInt8) × Nat
  | 0, _ => ([], 0)
  | f + 1, s => if oneN s = 0 then ([], 0) else (oneD s :: (readF f (s.drop (oneN s))).1, oneN s + (readF f (s.drop (oneN s))).2)
theorem readF_more : ∀ (f g : Nat) (s : List UInt8), s.length ≤ f → s.length ≤ g → readF f s = readF g s
  | 0, 0, _, _, _ => rfl
  | 0, g + 1, s, h, _ => by
    have : s = [] := List.eq_nil_of_length_eq_zero (by omega)
    subst this
    have h0 : oneN [] = 0 := by have := (oneN_le []).1; simpa using this
    simp [readF, h0]
  | f + 1, 0, s, _, h => by
    have : s = [] := List.eq_nil_of_length_eq_zero (by omega)
    subst this
    have h0 : oneN [] = 0 := by have := (oneN_le []).1; simpa using this
    simp [readF, h0]
  | f + 1, g + 1, s, hf, hg => by
    unfold readF
    by_cases h0 : oneN s = 0
    · rw [if_pos h0, if_pos h0]
    · rw [if_neg h0, if_neg h0]
      have hle := oneN_le s
      rw [readF_more f g (s.drop (oneN s)) (by rw [List.length_drop]; omega) (by rw [List.length_drop]; omega)]
@[irreducible] def readL (s : List UInt8) : List (List UInt8) × Nat := readF s.length s
theorem readL_zero {s : List UInt8} (h : oneN s = 0) : readL s = ([], 0) := by
  unfold readL
  cases hs : s.length with
  | zero => rfl
  | succ n => unfold readF; rw [if_pos h]
theorem readL_step {s : List UInt8} (h : oneN s ≠ 0) : readL s = (oneD s :: (readL (s.drop (oneN s))).1, oneN s + (readL (s.drop (oneN s))).2) := by
  have hle := oneN_le s
  unfold readL
  cases hs : s.length with
  | zero => omega
  | succ n =>
    conv => lhs; unfold readF
    rw [if_neg h, readF_more n (s.drop (oneN s)).length _ (by rw [List.length_drop]; omega) (Nat.le_refl _)]
theorem readL_nil : readL [] = ([], 0) := readL_zero (by have := (oneN_le []).1; simpa using this)
theorem readL_ind {P : List UInt8 → Prop} (h0 : ∀ s, oneN s = 0 → P s) (h1 : ∀ s, oneN s ≠ 0 → P (s.drop (oneN s)) → P s) (s : List UInt8) : P s := by
  suffices ∀ n (s : List UInt8), s.length ≤ n → P s from this _ s (Nat.le_refl _)
  intro n
  induction n with
  | zero => intro s hs; exact h0 s (by have := (oneN_le s).1; omega)
  | succ n ih =>
    intro s hs
    by_cases h : oneN s = 0
    · exact h0 s h
    · have := oneN_le s
      exact h1 s h (ih _ (by rw [List.length_drop]; omega))
theorem readL_le (s : List UInt8) : (readL s).2 ≤ s.length ∧ 9 * (readL s).1.length ≤ (readL s).2 ∧ (∀ d ∈ (readL s).1, d.length ≤ s.length) := by
  refine readL_ind (P := fun s => (readL s).2 ≤ s.length ∧ 9 * (readL s).1.length ≤ (readL s).2 ∧ (∀ d ∈ (readL s).1, d.length ≤ s.length)) (fun s h => ?_) (fun s h ih => ?_) s
  · rw [readL_zero h]; exact ⟨Nat.zero_le _, Nat.le_refl _, fun d hd => by simp at hd⟩
  · have hle := oneN_le s
    rw [readL_step h]
    rw [List.length_drop] at ih
    refine ⟨by simp only []; omega, by simp only [List.length_cons]; omega, fun d hd => ?_⟩
    rcases List.mem_cons.1 hd with rfl | hd
    · omega
    · have := ih.2.2 d hd; omega
def recs (ds : List (List UInt8)) : List UInt8 := ds.flatMap recL
theorem recs_cons (d : List UInt8) (ds : List (List UInt8)) : recs (d :: ds) = recL d ++ recs ds := rfl
theorem recs_append (a b : List (List UInt8)) : recs (a ++ b) = recs a ++ recs b := by simp [recs]
theorem recs_one (d : List UInt8) : recs [d] = recL d := by simp [recs]
theorem recs_length_le (ds : List (List UInt8)) (c : Nat) (h : ∀ d ∈ ds, d.length ≤ c) : (recs ds).length ≤ ds.length * (c + 9) := by
  induction ds with
  | nil => simp [recs]
  | cons d ds ih =>
    have h1 := ih fun x hx => h x (List.mem_cons_of_mem _ hx)
    have h2 := h d List.mem_cons_self
    rw [recs_cons, List.length_append, recL_length, List.length_cons, Nat.add_mul]
    omega
theorem read_recs (ds : List (List UInt8)) (t : List UInt8) (h : ∀ d ∈ ds, d.length ≤ 4096) : readL (recs ds ++ t) = (ds ++ (readL t).1, (recs ds).length + (readL t).2) := by
  induction ds with
  | nil => simp [recs]
  | cons d ds ih =>
    have h1 := one_rec d (recs ds ++ t) (h d List.mem_cons_self)
    rw [recs_cons, List.append_assoc, readL_step (by rw [h1.2]; omega), h1.1, h1.2, List.drop_left' (recL_length d), ih fun x hx => h x (List.mem_cons_of_mem _ hx)]
    simp [recL_length]; omega
theorem read_recs' (ds : List (List UInt8)) (h : ∀ d ∈ ds, d.length ≤ 4096) : readL (recs ds) = (ds, (recs ds).length) := by
  have := read_recs ds [] h
  rw [List.append_nil, readL_nil] at this
  simpa using this
/-- Of a beginning of records' bytes. -/
theorem read_cut (ds : List (List UInt8)) (h : ∀ d ∈ ds, d.length ≤ 4096) : ∀ n, n ≤ (recs ds).length → ∃ k, k ≤ ds.length ∧ readL ((recs ds).take n) = (ds.take k, (recs (ds.take k)).length) ∧ (recs (ds.take k)).length ≤ n ∧
    (recs ds).take (recs (ds.take k)).length = recs (ds.take k) ∧ (∀ hk : k < ds.length, n < (recs (ds.take k)).length + ds[k].length + 9) := by
  induction ds with
  | nil =>
    intro n hn
    refine ⟨0, by simp, ?_, by simp [recs], by simp [recs], fun hk => by simp at hk⟩
    simp [recs, readL_nil]
  | cons d ds ih =>
    intro n hn
    have hd := h d List.mem_cons_self
    by_cases hlt : n < d.length + 9
    · refine ⟨0, by simp, ?_, by simp [recs], by simp [recs], fun _ => by simp [recs]; omega⟩
      rw [recs_cons, readL_zero (one_cut d (recs ds) n hd hlt)]
      simp [recs]
    · have hl := recL_length d
      have hl2 : (recs (d :: ds)).length = d.length + 9 + (recs ds).length := by rw [recs_cons, List.length_append, hl]
      obtain ⟨k, hk1, hk2, hk3, hk4, hk5⟩ := ih (fun x hx => h x (List.mem_cons_of_mem _ hx)) (n - (d.length + 9)) (by omega)
      refine ⟨k + 1, by simp; omega, ?_, ?_, ?_, ?_⟩
      · rw [recs_cons, List.take_append, hl, List.take_of_length_le (by omega)]
        have h1 := one_rec d ((recs ds).take (n - (d.length + 9))) hd
        rw [readL_step (by rw [h1.2]; omega), h1.1, h1.2, List.drop_left' hl, hk2]
        simp [recs_cons, hl]
      · rw [List.take_succ_cons, recs_cons, List.length_append, hl]; omega
      · rw [List.take_succ_cons, recs_cons, recs_cons, List.take_append, List.length_append, hl, List.take_of_length_le (by omega), Nat.add_sub_cancel_left, hk4]
      · intro hk
        rw [List.take_succ_cons, recs_cons, List.length_append, hl]
        have := hk5 (by simpa using hk)
        simp only [List.getElem_cons_succ]
        omega
end Ros
