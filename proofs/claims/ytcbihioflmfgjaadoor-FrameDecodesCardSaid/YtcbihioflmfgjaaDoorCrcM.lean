namespace Ros

def T (x : Nat) : Nat := if x % 2 = 1 then (x / 2) ^^^ 3988292384 else x / 2
def Tn : Nat → Nat → Nat
  | 0, x => x
  | n + 1, x => Tn n (T x)
@[irreducible] def step (s b : Nat) : Nat := Tn 8 (s ^^^ b)
theorem step_def (s b : Nat) : step s b = Tn 8 (s ^^^ b) := by unfold step; rfl
def run (s : Nat) : List UInt8 → Nat
  | [] => s
  | b :: l => run (step s b.toNat) l
def le : List UInt8 → Nat
  | [] => 0
  | b :: l => b.toNat + 256 * le l
def toB : Nat → Nat → List UInt8
  | 0, _ => []
  | n + 1, x => UInt8.ofNat x :: toB n (x / 256)

theorem xor_div2 (a b : Nat) : (a ^^^ b) / 2 = a / 2 ^^^ b / 2 := by
  apply Nat.eq_of_testBit_eq; intro i
  simp [Nat.testBit_xor, ← Nat.testBit_succ]
theorem mod2_bit (a : Nat) : a % 2 = (a.testBit 0).toNat := by
  rw [Nat.testBit_zero]
  by_cases h : a % 2 = 1
  · simp [h]
  · have : a % 2 = 0 := by omega
    simp [this]
theorem T_xor (a b : Nat) : T (a ^^^ b) = T a ^^^ T b := by
  have h : (a ^^^ b) % 2 = ((a % 2) ^^^ (b % 2)) := by
    have := Nat.xor_mod_two_pow (a := a) (b := b) (n := 1)
    simpa using this
  unfold T
  rw [xor_div2]
  have ha : a % 2 = 0 ∨ a % 2 = 1 := by omega
  have hb : b % 2 = 0 ∨ b % 2 = 1 := by omega
  rcases ha with ha | ha <;> rcases hb with hb | hb <;> simp only [h, ha, hb] <;> simp
  · rw [← Nat.xor_assoc]
  · rw [Nat.xor_assoc, Nat.xor_comm (b/2), ← Nat.xor_assoc]
  · have : a / 2 ^^^ 3988292384 ^^^ (b / 2 ^^^ 3988292384) = a / 2 ^^^ b / 2 ^^^ (3988292384 ^^^ 3988292384) := by
      ac_rfl
    rw [this]; simp
theorem Tn_xor (n : Nat) : ∀ a b : Nat, Tn n (a ^^^ b) = Tn n a ^^^ Tn n b := by
  induction n with
  | zero => intro a b; rfl
  | succ n ih => intro a b; simp only [Tn]; rw [T_xor, ih]
theorem Tn_add (n m : Nat) : ∀ x, Tn (n + m) x = Tn m (Tn n x) := by
  induction n with
  | zero => intro x; simp [Tn]
  | succ n ih => intro x; rw [Nat.add_right_comm]; simp only [Tn]; exact ih _
theorem T_two (x : Nat) : T (2 * x) = x := by
  unfold T; rw [if_neg (by omega)]; omega
theorem Tn_pow (n : Nat) : ∀ x, Tn n (2 ^ n * x) = x := by
  induction n with
  | zero => intro x; simp [Tn]
  | succ n ih =>
    intro x; simp only [Tn]
    rw [show 2 ^ (n + 1) * x = 2 * (2 ^ n * x) by rw [Nat.pow_succ]; ac_rfl, T_two, ih]
theorem T_lt {x : Nat} (h : x < 4294967296) : T x < 4294967296 := by
  unfold T; split
  · exact Nat.xor_lt_two_pow (n := 32) (by omega) (by omega)
  · omega
theorem Tn_lt (n : Nat) : ∀ {x : Nat}, x < 4294967296 → Tn n x < 4294967296 := by
  induction n with
  | zero => intro x h; exact h
  | succ n ih => intro x h; exact ih (T_lt h)
theorem T_ne {x : Nat} (h : x < 4294967296) (h0 : x ≠ 0) : T x ≠ 0 := by
  unfold T; split
  · intro e
    have : x / 2 = 3988292384 := by
      have e2 := congrArg (· ^^^ 3988292384) e
      simp [Nat.xor_assoc] at e2
      exact e2
    omega
  · omega
theorem Tn_ne (n : Nat) : ∀ {x : Nat}, x < 4294967296 → x ≠ 0 → Tn n x ≠ 0 := by
  induction n with
  | zero => intro x _ h; exact h
  | succ n ih => intro x h h0; exact ih (T_lt h) (T_ne h h0)
theorem Tn_zero (n : Nat) : Tn n 0 = 0 := by
  induction n with
  | zero => rfl
  | succ n ih => simpa [Tn, T] using ih
theorem xor_eq_zero {a b : Nat} (h : a ^^^ b = 0) : a = b := by
  have e2 := congrArg (· ^^^ b) h
  simpa [Nat.xor_assoc] using e2
theorem Tn_inj (n : Nat) {a b : Nat} (ha : a < 4294967296) (hb : b < 4294967296) (h : Tn n a = Tn n b) : a = b := by
  by_cases e : a ^^^ b = 0
  · exact xor_eq_zero e
  · exfalso
    have := Tn_ne n (x := a ^^^ b) (Nat.xor_lt_two_pow (n := 32) ha hb) e
    apply this; rw [Tn_xor, h]; simp
theorem add_eq_xor (b x k : Nat) (h : b < 2 ^ k) : b + 2 ^ k * x = b ^^^ 2 ^ k * x := by
  rw [Nat.add_comm, Nat.two_pow_add_eq_or_of_lt h]
  apply Nat.eq_of_testBit_eq; intro i
  simp only [Nat.testBit_or, Nat.testBit_xor, Nat.testBit_two_pow_mul]
  by_cases hi : i < k
  · simp [show ¬ k ≤ i by omega]
  · have : b.testBit i = false := Nat.testBit_lt_two_pow (Nat.lt_of_lt_of_le h (Nat.pow_le_pow_right (by omega) (by omega)))
    simp [this]
theorem byte_xor (b : UInt8) (x : Nat) : b.toNat + 256 * x = b.toNat ^^^ 256 * x := by
  have hb : b.toNat < 2 ^ 8 := b.toNat_lt
  generalize b.toNat = n at hb
  have h := add_eq_xor n x 8 hb
  simp only [Nat.reducePow] at h
  exact h
theorem run_eq (l : List UInt8) : ∀ s, run s l = Tn (8 * l.length) (s ^^^ le l) := by
  induction l with
  | nil => intro s; simp [run, le, Tn]
  | cons b l ih =>
    intro s
    simp only [run, le, List.length_cons, step_def]
    rw [ih, byte_xor, ← Nat.xor_assoc, Nat.mul_add, Nat.add_comm (8 * l.length), Nat.mul_one, Tn_add, Tn_xor 8 (s ^^^ b.toNat)]
    have e : Tn 8 (256 * le l) = le l := by
      have := Tn_pow 8 (le l)
      simp only [Nat.reducePow] at this
      exact this
    rw [e]
theorem run_append (l m : List UInt8) : ∀ s, run s (l ++ m) = run (run s l) m := by
  induction l with
  | nil => intro s; rfl
  | cons b l ih => intro s; simp only [List.cons_append, run]; exact ih _
theorem step_lt {s b : Nat} (hs : s < 4294967296) (hb : b < 256) : step s b < 4294967296 := by
  rw [step_def]; exact Tn_lt 8 (Nat.xor_lt_two_pow (n := 32) hs (by omega))
theorem run_lt (l : List UInt8) : ∀ {s}, s < 4294967296 → run s l < 4294967296 := by
  induction l with
  | nil => intro s h; exact h
  | cons b l ih => intro s h; exact ih (step_lt h b.toNat_lt)
theorem le_lt (l : List UInt8) : le l < 256 ^ l.length := by
  induction l with
  | nil => simp [le]
  | cons b l ih =>
    have := b.toNat_lt
    simp only [le, List.length_cons, Nat.pow_succ]; omega
theorem le_inj : ∀ (l m : List UInt8), l.length = m.length → le l = le m → l = m
  | [], [], _, _ => rfl
  | [], _ :: _, h, _ => by simp at h
  | _ :: _, [], h, _ => by simp at h
  | a :: l, b :: m, h, e => by
    have ha := a.toNat_lt
    have hb := b.toNat_lt
    simp only [le] at e
    have h1 : a.toNat = b.toNat := by omega
    rw [UInt8.toNat_inj.1 h1, le_inj l m (by simpa using h) (by omega)]
theorem toB_length (n : Nat) : ∀ x, (toB n x).length = n := by
  induction n with
  | zero => intro x; rfl
  | succ n ih => intro x; simp [toB, ih]
theorem le_toB (n : Nat) : ∀ x, le (toB n x) = x % 256 ^ n := by
  induction n with
  | zero => intro x; simp [toB, le, Nat.mod_one]
  | succ n ih =>
    intro x
    have e : (UInt8.ofNat x).toNat = x % 256 := by rw [UInt8.toNat_ofNat']
    simp only [toB, le, ih, e]
    rw [Nat.pow_succ, Nat.mul_comm (256 ^ n), Nat.mod_mul]
theorem toB_le (l : List UInt8) : toB l.length (le l) = l :=
  le_inj _ _ (toB_length _ _) (by rw [le_toB, Nat.mod_eq_of_lt (le_lt l)])
theorem toB_mod (n x : Nat) : toB n (x % 256 ^ n) = toB n x :=
  le_inj _ _ (by simp [toB_length]) (by rw [le_toB, le_toB, Nat.mod_mod])

/-- The sum of bytes; of all bytes whose sum is n, and then l. -/
@[irreducible] def more (n : Nat) (l : List UInt8) : Nat := 4294967295 ^^^ run (4294967295 ^^^ n) l
theorem more_def (n : Nat) (l : List UInt8) : more n l = 4294967295 ^^^ run (4294967295 ^^^ n) l := by unfold more; rfl
@[irreducible] def sum (l : List UInt8) : Nat := more 0 l
theorem sum_def (l : List UInt8) : sum l = more 0 l := by unfold sum; rfl
theorem more_lt (n : Nat) (l : List UInt8) (hn : n < 4294967296) : more n l < 4294967296 := by
  rw [more_def]; exact Nat.xor_lt_two_pow (n := 32) (by omega) (run_lt l (Nat.xor_lt_two_pow (n := 32) (by omega) hn))
theorem sum_lt (l : List UInt8) : sum l < 4294967296 := by rw [sum_def]; exact more_lt 0 l (by omega)
theorem eq_put (l : List UInt8) (n : Nat) (hl : l.length = 4) (hn : n < 4294967296) : (l == toB 4 n) = (le l == n) := by
  rw [Bool.eq_iff_iff]
  simp only [beq_iff_eq]
  constructor
  · intro h; rw [h, le_toB]; exact Nat.mod_eq_of_lt (by simpa using hn)
  · intro h; rw [← h]; rw [show 4 = l.length from hl.symm, toB_le]
end Ros
