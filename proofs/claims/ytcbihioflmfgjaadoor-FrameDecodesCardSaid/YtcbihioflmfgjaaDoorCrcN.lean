/-
  Plain laws on changes of bytes: what the program and what the reference come to is one thing; the laws of the statements. Conditions: none.
-/
import Derived.Test.YtcbihioflmfgjaaDoorCrcM
namespace Ros

theorem xor_div_pow (a b k : Nat) : (a ^^^ b) / 2 ^ k = a / 2 ^ k ^^^ b / 2 ^ k := by
  apply Nat.eq_of_testBit_eq; intro i
  simp [Nat.testBit_xor, Nat.testBit_div_two_pow]
theorem xor_mul_pow (a b k : Nat) : (a ^^^ b) * 2 ^ k = a * 2 ^ k ^^^ b * 2 ^ k := by
  apply Nat.eq_of_testBit_eq; intro i
  simp only [Nat.testBit_xor, Nat.mul_comm _ (2 ^ k), Nat.testBit_two_pow_mul]
  by_cases h : k ≤ i <;> simp [h]
theorem p256 (k : Nat) : (256 : Nat) ^ k = 2 ^ (8 * k) := by rw [Nat.pow_mul]
theorem ofNat_xor8 (a b : Nat) : UInt8.ofNat (a ^^^ b) = UInt8.ofNat a ^^^ UInt8.ofNat b := by
  apply UInt8.toNat_inj.1
  rw [UInt8.toNat_xor, UInt8.toNat_ofNat', UInt8.toNat_ofNat', UInt8.toNat_ofNat', Nat.xor_mod_two_pow]
theorem ofNat_low (a x : Nat) : UInt8.ofNat (a ^^^ 256 * x) = UInt8.ofNat a := by
  rw [ofNat_xor8]
  have : UInt8.ofNat (256 * x) = 0 := by
    apply UInt8.toNat_inj.1
    rw [UInt8.toNat_ofNat']; simp
  rw [this]; simp
theorem div_low (a x : Nat) : (a ^^^ 256 * x) / 256 = a / 256 ^^^ x := by
  have h := xor_div_pow a (256 * x) 8
  simp only [Nat.reducePow] at h
  rw [h]; congr 1; omega
theorem div_byte (a b : Nat) (hb : b < 256) : (a ^^^ b) / 256 = a / 256 := by
  have h := xor_div_pow a b 8
  simp only [Nat.reducePow] at h
  rw [h, show b / 256 = 0 by omega, Nat.xor_zero]
theorem toB_set (b : UInt8) : ∀ (n j N : Nat), j < n → (toB n N).set j ((toB n N).getD j 0 ^^^ b) = toB n (N ^^^ b.toNat * 256 ^ j)
  | 0, _, _, h => by omega
  | n + 1, 0, N, _ => by
    simp only [toB, List.set_cons_zero, List.getD_cons_zero, Nat.pow_zero, Nat.mul_one]
    rw [div_byte _ _ b.toNat_lt, ofNat_xor8, UInt8.ofNat_toNat]
  | n + 1, j + 1, N, h => by
    have ih := toB_set b n j (N / 256) (by omega)
    simp only [toB, List.set_cons_succ, List.getD_cons_succ]
    rw [ih, show b.toNat * 256 ^ (j + 1) = 256 * (b.toNat * 256 ^ j) by rw [Nat.pow_succ]; ac_rfl, ofNat_low, div_low]
theorem toB_far : ∀ (n j N d : Nat), n ≤ j → toB n (N ^^^ d * 256 ^ j) = toB n N
  | 0, _, _, _, _ => rfl
  | n + 1, 0, _, _, h => by omega
  | n + 1, j + 1, N, d, h => by
    simp only [toB]
    rw [show d * 256 ^ (j + 1) = 256 * (d * 256 ^ j) by rw [Nat.pow_succ]; ac_rfl, ofNat_low, div_low, toB_far n j _ _ (by omega)]

theorem toB_get : ∀ (n k N : Nat), k < n → (toB n N).getD k 0 = UInt8.ofNat (N / 256 ^ k)
  | 0, _, _, h => by omega
  | n + 1, 0, N, _ => by simp [toB]
  | n + 1, k + 1, N, h => by
    simp only [toB, List.getD_cons_succ]
    rw [toB_get n k _ (by omega), Nat.div_div_eq_div_mul, Nat.pow_succ, Nat.mul_comm 256]
/-- Bytes, changed, as far as k bytes of the mask, which begin at the byte 'at'. -/
def chgK (l : List UInt8) (at_ m k : Nat) : List UInt8 := toB l.length (le l ^^^ m % 256 ^ k * 256 ^ at_)
theorem chgK_length (l : List UInt8) (at_ m k : Nat) : (chgK l at_ m k).length = l.length := toB_length _ _
theorem chgK_zero (l : List UInt8) (at_ m : Nat) : chgK l at_ m 0 = l := by
  unfold chgK; simp [Nat.mod_one, toB_le]
theorem mod_succ (m k : Nat) : m % 256 ^ (k + 1) = m % 256 ^ k ^^^ m / 256 ^ k % 256 * 256 ^ k := by
  have h := Nat.mod_mul (a := 256 ^ k) (b := 256) (x := m)
  rw [← Nat.pow_succ] at h
  rw [h, p256, add_eq_xor _ _ _ (Nat.mod_lt _ (Nat.two_pow_pos _)), Nat.mul_comm (2 ^ (8 * k))]
theorem chgK_succ (l : List UInt8) (at_ m k : Nat) (h : at_ + k < l.length) :
    (chgK l at_ m k).set (at_ + k) ((chgK l at_ m k).getD (at_ + k) 0 ^^^ UInt8.ofNat (m / 256 ^ k)) = chgK l at_ m (k + 1) := by
  unfold chgK
  rw [toB_set _ _ _ _ h, UInt8.toNat_ofNat', mod_succ, p256 at_, xor_mul_pow, Nat.xor_assoc]
  congr 3
  rw [p256, p256, Nat.mul_assoc, ← Nat.pow_add]
  congr 2
  omega
theorem chgK_more (l : List UInt8) (at_ m k : Nat) (h : l.length ≤ at_ + k) : chgK l at_ m (k + 1) = chgK l at_ m k := by
  unfold chgK
  rw [mod_succ, p256 at_, xor_mul_pow, ← Nat.xor_assoc]
  have e : m / 256 ^ k % 256 * 256 ^ k * 2 ^ (8 * at_) = m / 256 ^ k % 256 * 256 ^ (at_ + k) := by
    rw [p256, p256, Nat.mul_assoc, ← Nat.pow_add]; congr 2; omega
  rw [e, toB_far _ _ _ _ h]
theorem chgK_end (l : List UInt8) (at_ m k : Nat) (h : l.length ≤ at_ + k) : ∀ d, chgK l at_ m (k + d) = chgK l at_ m k
  | 0 => rfl
  | d + 1 => by rw [← Nat.add_assoc, chgK_more _ _ _ _ (by omega), chgK_end l at_ m k h d]

/-- Bytes, changed. -/
def chg (l : List UInt8) (bit mask : Nat) : List UInt8 := toB l.length (le l ^^^ mask * 2 ^ bit)
theorem chg_length (l : List UInt8) (bit mask : Nat) : (chg l bit mask).length = l.length := toB_length _ _
theorem chgK_chg (l : List UInt8) (bit mask : Nat) (hm : mask < 4294967296) : chgK l (bit / 8) (mask * 2 ^ (bit % 8)) 5 = chg l bit mask := by
  unfold chgK chg
  have h8 : 2 ^ (bit % 8) ≤ 2 ^ 7 := Nat.pow_le_pow_right (by omega) (by omega)
  have h1 : mask * 2 ^ (bit % 8) < 256 ^ 5 := by
    have : mask * 2 ^ (bit % 8) ≤ mask * 2 ^ 7 := Nat.mul_le_mul_left _ h8
    omega
  rw [Nat.mod_eq_of_lt h1, Nat.mul_assoc, p256, ← Nat.pow_add]
  congr 4
  omega

/-- The reference's way: bit by bit. -/
def chgR (l : List UInt8) (bit mask i : Nat) : List UInt8 := toB l.length (le l ^^^ mask % 2 ^ i * 2 ^ bit)
theorem chgR_length (l : List UInt8) (bit mask i : Nat) : (chgR l bit mask i).length = l.length := toB_length _ _
theorem chgR_zero (l : List UInt8) (bit mask : Nat) : chgR l bit mask 0 = l := by unfold chgR; simp [Nat.mod_one, toB_le]
theorem chgR_all (l : List UInt8) (bit mask : Nat) (hm : mask < 4294967296) : chgR l bit mask 32 = chg l bit mask := by
  unfold chgR chg; rw [Nat.mod_eq_of_lt (by simpa using hm)]
theorem mod2_succ (m k : Nat) : m % 2 ^ (k + 1) = m % 2 ^ k ^^^ m / 2 ^ k % 2 * 2 ^ k := by
  have h := Nat.mod_mul (a := 2 ^ k) (b := 2) (x := m)
  rw [← Nat.pow_succ] at h
  rw [h, add_eq_xor _ _ _ (Nat.mod_lt _ (Nat.two_pow_pos _)), Nat.mul_comm (2 ^ k)]
theorem chgR_off (l : List UInt8) (bit mask i : Nat) (h : mask / 2 ^ i % 2 = 0) : chgR l bit mask (i + 1) = chgR l bit mask i := by
  unfold chgR; rw [mod2_succ, h]; simp
theorem chgR_on (l : List UInt8) (bit mask i : Nat) (h : mask / 2 ^ i % 2 = 1) (hk : bit + i < 8 * l.length) :
    (chgR l bit mask i).set ((bit + i) / 8) ((chgR l bit mask i).getD ((bit + i) / 8) 0 ^^^ UInt8.ofNat (2 ^ ((bit + i) % 8))) = chgR l bit mask (i + 1) := by
  unfold chgR
  have h8 : 2 ^ ((bit + i) % 8) ≤ 2 ^ 7 := Nat.pow_le_pow_right (by omega) (by omega)
  have hlt : 2 ^ ((bit + i) % 8) < 2 ^ 8 := by omega
  have e : 2 ^ ((bit + i) % 8) % 2 ^ 8 * 256 ^ ((bit + i) / 8) = 2 ^ i * 2 ^ bit := by
    rw [Nat.mod_eq_of_lt hlt, p256, ← Nat.pow_add, ← Nat.pow_add]; congr 1; omega
  rw [toB_set _ _ _ _ (by omega), UInt8.toNat_ofNat', e, mod2_succ, h, xor_mul_pow, Nat.xor_assoc, Nat.one_mul]
theorem chgR_far (l : List UInt8) (bit mask i : Nat) (hk : 8 * l.length ≤ bit + i) : chgR l bit mask (i + 1) = chgR l bit mask i := by
  unfold chgR
  rw [mod2_succ, xor_mul_pow, ← Nat.xor_assoc]
  have e : mask / 2 ^ i % 2 * 2 ^ i * 2 ^ bit = mask / 2 ^ i % 2 * 2 ^ (bit + i - 8 * l.length) * 256 ^ l.length := by
    rw [p256, Nat.mul_assoc, Nat.mul_assoc, ← Nat.pow_add, ← Nat.pow_add]; congr 2; omega
  rw [e, toB_far _ _ _ _ (Nat.le_refl _)]

/-! ### The statements' laws -/
theorem chg_twice (l : List UInt8) (bit mask : Nat) : chg (chg l bit mask) bit mask = l := by
  unfold chg
  rw [toB_length, le_toB]
  have h : toB l.length ((le l ^^^ mask * 2 ^ bit) % 256 ^ l.length ^^^ mask * 2 ^ bit) = toB l.length ((le l ^^^ mask * 2 ^ bit) ^^^ mask * 2 ^ bit) := by
    rw [← toB_mod, ← toB_mod _ ((le l ^^^ mask * 2 ^ bit) ^^^ mask * 2 ^ bit), p256, Nat.xor_mod_two_pow, Nat.mod_mod, ← Nat.xor_mod_two_pow]
  rw [h, Nat.xor_assoc]; simp [toB_le]
theorem le_chg (l : List UInt8) (bit mask : Nat) : le (chg l bit mask) = le l ^^^ mask * 2 ^ bit % 256 ^ l.length := by
  unfold chg
  rw [le_toB, p256, Nat.xor_mod_two_pow, ← p256, Nat.mod_eq_of_lt (le_lt l)]
/-- The part of the mask that is there is less than 2^32, shifted. -/
theorem mask_part (n bit mask : Nat) (hb : bit < 8 * n) : mask * 2 ^ bit % 256 ^ n = mask % 2 ^ (8 * n - bit) * 2 ^ bit := by
  rw [p256, show 8 * n = (8 * n - bit) + bit by omega, Nat.pow_add, Nat.mul_mod_mul_right]
  congr 3; omega
theorem run_chg (s : Nat) (l : List UInt8) (bit mask : Nat) (hm : mask < 4294967296) (hb : bit < 8 * l.length) (hne : chg l bit mask ≠ l) : ∃ d, d ≠ 0 ∧ d < 4294967296 ∧ run s (chg l bit mask) = run s l ^^^ d := by
  have hne' : mask % 2 ^ (8 * l.length - bit) ≠ 0 := by
    intro h0
    apply hne
    apply le_inj _ _ (chg_length _ _ _)
    rw [le_chg, mask_part _ _ _ hb, h0]; simp
  have hlt : mask % 2 ^ (8 * l.length - bit) < 4294967296 := Nat.lt_of_le_of_lt (Nat.mod_le _ _) hm
  refine ⟨Tn (8 * l.length - bit) (mask % 2 ^ (8 * l.length - bit)), Tn_ne _ hlt hne', Tn_lt _ hlt, ?_⟩
  rw [run_eq, run_eq, chg_length, le_chg, ← Nat.xor_assoc, Tn_xor, mask_part _ _ _ hb]
  congr 1
  have e : Tn (bit + (8 * l.length - bit)) (mask % 2 ^ (8 * l.length - bit) * 2 ^ bit) = Tn (8 * l.length - bit) (mask % 2 ^ (8 * l.length - bit)) := by
    rw [Tn_add, Nat.mul_comm _ (2 ^ bit), Tn_pow]
  rwa [show bit + (8 * l.length - bit) = 8 * l.length by omega] at e
theorem xor_ne {a d : Nat} (hd : d ≠ 0) : a ^^^ d ≠ a := by
  intro h
  apply hd
  have := congrArg (a ^^^ ·) h
  simpa [← Nat.xor_assoc] using this
theorem xor_cancel {a b c : Nat} (h : c ^^^ a = c ^^^ b) : a = b := by
  have := congrArg (c ^^^ ·) h
  simpa [← Nat.xor_assoc] using this
theorem chg_one (l : List UInt8) (bit : Nat) (hb : bit < 8 * l.length) : chg l bit 1 ≠ l := by
  intro h
  have h1 := congrArg le h
  rw [le_chg, mask_part _ _ _ hb] at h1
  have h2 : 1 % 2 ^ (8 * l.length - bit) = 1 := Nat.mod_eq_of_lt (Nat.one_lt_two_pow (by omega))
  rw [h2, Nat.one_mul] at h1
  exact xor_ne (Nat.ne_of_gt (Nat.two_pow_pos bit)) h1
/-- Another bit, or burst, makes another sum. -/
theorem sum_chg (l : List UInt8) (bit mask : Nat) (hm : mask < 4294967296) (hb : bit < 8 * l.length) (hne : chg l bit mask ≠ l) : sum (chg l bit mask) ≠ sum l := by
  obtain ⟨d, hd, _, he⟩ := run_chg 4294967295 l bit mask hm hb hne
  intro h
  rw [sum_def, sum_def, more_def, more_def] at h
  have h2 := xor_cancel h
  rw [show 4294967295 ^^^ 0 = 4294967295 by simp, he] at h2
  exact xor_ne hd h2
theorem more_more (n : Nat) (l m : List UInt8) : more (more n l) m = more n (l ++ m) := by
  rw [more_def, more_def, more_def, run_append, ← Nat.xor_assoc]; simp

/-- Is what stands behind the bytes their sum? -/
def sealed (l : List UInt8) : Bool := l.drop (l.length - 4) == toB 4 (sum (l.take (l.length - 4)))
def seal4 (l : List UInt8) : List UInt8 := l ++ toB 4 (sum l)
theorem seal4_length (l : List UInt8) : (seal4 l).length = l.length + 4 := by simp [seal4, toB_length]
/-- What is sealed has a state of its own, and no other bytes have it. -/
theorem sealed_iff (l : List UInt8) (h : 4 ≤ l.length) : sealed l = true ↔ run 4294967295 l = Tn 32 4294967295 := by
  have h4 : (l.drop (l.length - 4)).length = 4 := by simp; omega
  have hs := sum_lt (l.take (l.length - 4))
  unfold sealed
  rw [eq_put _ _ h4 hs]
  have hr : run 4294967295 l = Tn 32 (run 4294967295 (l.take (l.length - 4)) ^^^ le (l.drop (l.length - 4))) := by
    have e := run_append (l.take (l.length - 4)) (l.drop (l.length - 4)) 4294967295
    rw [List.take_append_drop] at e
    rw [e, run_eq (l.drop (l.length - 4)), h4]
  have hl : le (l.drop (l.length - 4)) < 4294967296 := by have := le_lt (l.drop (l.length - 4)); rw [h4] at this; simpa using this
  have hrl := run_lt (l.take (l.length - 4)) (s := 4294967295) (by omega)
  rw [hr]
  simp only [beq_iff_eq, sum_def, more_def]
  rw [show 4294967295 ^^^ 0 = 4294967295 by simp]
  constructor
  · intro e
    rw [e, Nat.xor_comm 4294967295, ← Nat.xor_assoc]; simp
  · intro e
    have e2 := Tn_inj 32 (Nat.xor_lt_two_pow (n := 32) hrl hl) (by omega) e
    generalize run 4294967295 (l.take (l.length - 4)) = p at *
    rw [← e2, Nat.xor_comm p, Nat.xor_assoc, Nat.xor_self, Nat.xor_zero]
theorem seal4_take (l : List UInt8) : (seal4 l).take ((seal4 l).length - 4) = l := by
  rw [seal4_length, Nat.add_sub_cancel, seal4, List.take_left']; rfl
theorem seal4_drop (l : List UInt8) : (seal4 l).drop ((seal4 l).length - 4) = toB 4 (sum l) := by
  rw [seal4_length, Nat.add_sub_cancel, seal4, List.drop_left']; rfl
theorem sealed_seal4 (l : List UInt8) : sealed (seal4 l) = true := by
  unfold sealed; rw [seal4_drop, seal4_take]; simp
/-- A change of what is sealed is found. -/
theorem seal_found (l : List UInt8) (h : sealed l = true) (h4 : 4 ≤ l.length) (bit mask : Nat) (hm : mask < 4294967296) (hb : bit < 8 * l.length) (hne : chg l bit mask ≠ l) : sealed (chg l bit mask) = false := by
  cases hs : sealed (chg l bit mask) with
  | false => rfl
  | true =>
    exfalso
    rw [sealed_iff _ (by rw [chg_length]; exact h4)] at hs
    rw [sealed_iff _ h4] at h
    obtain ⟨d, hd, _, he⟩ := run_chg 4294967295 l bit mask hm hb hne
    rw [he, h] at hs
    exact xor_ne hd hs
end Ros
