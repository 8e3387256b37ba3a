/-
  What the functions of crc and of its reference compute: sums, numbers as bytes, bytes sealed and opened. Conditions: strings are at most as long as Go allows.
-/
import Derived.Test.YtbmlenffcmmkbaaCrcA
import Derived.Deep.QuietTactic
import Derived.BigQuiet
import Derived.Deep.RegionHeld3
import Derived.Test.YtbmlenffcmmkbaaRound
namespace Go.Proofs.Ytbmlenffcmmkbaa
open Go.RowKit Go.Shelf Ros
attribute [local go_sem] Oper.semAt_some

theorem put_cells (n : Nat) (hn : n < 4294967296) : #[Value.int .u8 ((n : Int) % 256), .int .u8 ((n : Int) / 256 % 256), .int .u8 ((n : Int) / 65536 % 256), .int .u8 ((n : Int) / 16777216)] = cellsOf (toB 4 n) := by
  simp only [cellsOf, toB, List.map_cons, List.map_nil, UInt8.toNat_ofNat', Nat.reducePow]
  congr 1
  simp
  omega

theorem run_take_succ (s : Nat) (l : List UInt8) (k : Nat) (h : k < l.length) : run s (l.take (k + 1)) = Ros.step (run s (l.take k)) (l.getD k 0).toNat := by
  rw [← List.take_append_getElem h, run_append]
  simp [run, h]

/-- The number of four bytes. -/
theorem refget_bits (a b c d : Nat) (ha : a < 256) (hb : b < 256) (hc : c < 256) (hd : d < 256) :
    bits .or .u32 (bits .or .u32 (bits .or .u32 (a : Int) ((b : Int) * 256)) ((c : Int) * 65536)) ((d : Int) * 16777216) = ((a + 256 * (b + 256 * (c + 256 * d)) : Nat) : Int) := by
  have e1 : a + 2 ^ 8 * b = a ||| 2 ^ 8 * b := by rw [Nat.add_comm, Nat.two_pow_add_eq_or_of_lt (by omega), Nat.or_comm]
  have e2 : (a + 256 * b) + 2 ^ 16 * c = (a + 256 * b) ||| 2 ^ 16 * c := by rw [Nat.add_comm, Nat.two_pow_add_eq_or_of_lt (by omega), Nat.or_comm]
  have e3 : (a + 256 * b + 65536 * c) + 2 ^ 24 * d = (a + 256 * b + 65536 * c) ||| 2 ^ 24 * d := by rw [Nat.add_comm, Nat.two_pow_add_eq_or_of_lt (by omega), Nat.or_comm]
  simp only [Nat.reducePow] at e1 e2 e3
  rw [show (b : Int) * 256 = ((256 * b : Nat) : Int) by omega, u32_or_nat _ _ (by omega) (by omega), ← e1,
    show (c : Int) * 65536 = ((65536 * c : Nat) : Int) by omega, u32_or_nat _ _ (by omega) (by omega), ← e2,
    show (d : Int) * 16777216 = ((16777216 * d : Nat) : Int) by omega, u32_or_nat _ _ (by omega) (by omega), ← e3]
  congr 1; omega

theorem refget_bits' (a b c d : Nat) (ha : a < 256) (hb : b < 256) (hc : c < 256) (hd : d < 256) :
    bits .or .u32 (bits .or .u32 (bits .or .u32 ((a : Int) % 4294967296) ((b : Int) % 4294967296 * 256 % 4294967296)) ((c : Int) % 4294967296 * 65536 % 4294967296)) ((d : Int) % 4294967296 * 16777216 % 4294967296) = ((a + 256 * (b + 256 * (c + 256 * d)) : Nat) : Int) := by
  rw [show (a : Int) % 4294967296 = a by omega, show (b : Int) % 4294967296 * 256 % 4294967296 = (b : Int) * 256 by omega, show (c : Int) % 4294967296 * 65536 % 4294967296 = (c : Int) * 65536 by omega, show (d : Int) % 4294967296 * 16777216 % 4294967296 = (d : Int) * 16777216 by omega]
  exact refget_bits a b c d ha hb hc hd
theorem le_four (s : ByteArray) (hs : s.size = 4) : le (bl s) = (s[0]'(by omega)).toNat + 256 * ((s[1]'(by omega)).toNat + 256 * ((s[2]'(by omega)).toNat + 256 * (s[3]'(by omega)).toNat)) := by
  have hl : (bl s).length = 4 := by rw [← size_bl]; exact hs
  match hb : bl s, hl with
  | [a, b, c, d], _ =>
    have e0 := bl_get s 0 (by omega)
    have e1 := bl_get s 1 (by omega)
    have e2 := bl_get s 2 (by omega)
    have e3 := bl_get s 3 (by omega)
    simp only [hb, List.getElem_cons_zero, List.getElem_cons_succ] at e0 e1 e2 e3
    rw [e0, e1, e2, e3]
    simp [le]

theorem ret_pair {v v' u u' : Value} (h : v = v') (h' : u = u') : Ending.returned (.tuple #[v, u]) = .returned (.tuple #[v', u']) := by rw [h, h']
theorem int_eq {k : IntKind} {a b : Int} (h : a = b) : Value.int k a = .int k b := by rw [h]
theorem below_drewN (w : World) (n B : Nat) : Below B w (w.drewN n) := ⟨rfl, rfl, rfl, Nat.le_refl _, fun _ _ => rfl⟩

theorem le_append (l m : List UInt8) : le (l ++ m) = le l + 256 ^ l.length * le m := by
  induction l with
  | nil => simp [le]
  | cons a l ih =>
    simp only [List.cons_append, le, ih, List.length_cons, Nat.pow_succ, Nat.mul_add]
    rw [← Nat.mul_assoc 256, Nat.mul_comm (256 ^ l.length) 256]; omega
def orP (l : List (Nat × UInt8)) : Nat := le (l.map (·.2))

theorem orP_lt (l : List (Nat × UInt8)) : orP l < 256 ^ l.length := by have := le_lt (l.map (·.2)); simpa [orP] using this
theorem orP_pairs (l : List UInt8) : orP (pairs l) = le l := by
  unfold orP pairs
  congr 1
  apply List.ext_getElem
  · simp
  · intro i h1 h2
    simp [h2]
theorem orP_snoc (l : List (Nat × UInt8)) (x : Nat × UInt8) : orP (l ++ [x]) = orP l + 256 ^ l.length * x.2.toNat := by
  simp [orP, le_append, le]
theorem or_nat {p c k : Nat} (hp : p < 2 ^ k) (hp2 : p < 4294967296) (hc : 2 ^ k * c < 4294967296) : bits .or .u32 (p : Int) ((2 ^ k * c : Nat) : Int) = ((p + 2 ^ k * c : Nat) : Int) := by
  have h1 : p + 2 ^ k * c = p ||| 2 ^ k * c := by rw [Nat.add_comm, Nat.two_pow_add_eq_or_of_lt hp, Nat.or_comm]
  rw [h1, u32_or_nat _ _ hp2 hc]
theorem or_s0 {p c : Nat} (hp : p < 256 ^ 0) (hc : c < 2 ^ 8) : bits .or .u32 (p : Int) (c : Int) = ((p + 256 ^ 0 * c : Nat) : Int) := by
  have h := or_nat (p := p) (c := c) (k := 0) (by simpa using hp) (by omega) (by omega)
  simpa using h
theorem or_s1 {p c : Nat} (hp : p < 256 ^ 1) (hc : c < 2 ^ 8) : bits .or .u32 (p : Int) ((c : Int) * 256) = ((p + 256 ^ 1 * c : Nat) : Int) := by
  have h := or_nat (p := p) (c := c) (k := 8) (by omega) (by omega) (by omega)
  simp only [Nat.reducePow] at h ⊢
  rw [show (c : Int) * 256 = ((256 * c : Nat) : Int) by omega]; exact h
theorem or_s2 {p c : Nat} (hp : p < 256 ^ 2) (hc : c < 2 ^ 8) : bits .or .u32 (p : Int) ((c : Int) * 65536) = ((p + 256 ^ 2 * c : Nat) : Int) := by
  have h := or_nat (p := p) (c := c) (k := 16) (by omega) (by omega) (by omega)
  simp only [Nat.reducePow] at h ⊢
  rw [show (c : Int) * 65536 = ((65536 * c : Nat) : Int) by omega]; exact h
theorem or_s3 {p c : Nat} (hp : p < 256 ^ 3) (hc : c < 2 ^ 8) : bits .or .u32 (p : Int) ((c : Int) * 16777216) = ((p + 256 ^ 3 * c : Nat) : Int) := by
  have h := or_nat (p := p) (c := c) (k := 24) (by omega) (by omega) (by omega)
  simp only [Nat.reducePow] at h ⊢
  rw [show (c : Int) * 16777216 = ((16777216 * c : Nat) : Int) by omega]; exact h

end Go.Proofs.Ytbmlenffcmmkbaa
