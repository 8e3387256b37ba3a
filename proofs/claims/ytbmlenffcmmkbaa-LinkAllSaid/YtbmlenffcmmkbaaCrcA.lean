/-
  What the functions of crc and of its reference compute (steps, sums, numbers as bytes). Conditions: strings are at most as long as Go allows.
-/
import Derived.Test.YtbmlenffcmmkbaaChecked
import Derived.Test.YtbmlenffcmmkbaaCrcM
import Derived.Test.YtbmlenffcmmkbaaStr
import Derived.Test.YtbmlenffcmmkbaaIter
import Derived.Lib.Hide
namespace Go.Proofs.Ytbmlenffcmmkbaa
open Go.RowKit Go.Shelf Ros
attribute [local go_sem] Oper.semAt_some

theorem bit_T (x : Nat) (h : x < 4294967296) : bits .xor .u32 ((x : Int) / 2) (bits .and .u32 3988292384 (-bits .and .u32 (x : Int) 1 % 4294967296)) = ((Ros.T x : Nat) : Int) := by
  have h1 : bits .and .u32 (x : Int) 1 = ((x % 2 : Nat) : Int) := by
    have := u32_and_nat x 1 (by omega) (by omega)
    rw [show ((1 : Nat) : Int) = 1 from rfl] at this
    rw [this, Nat.and_one_is_mod]
  rw [h1, show (x : Int) / 2 = ((x / 2 : Nat) : Int) by omega]
  by_cases hx : x % 2 = 1
  · have h2 : (-((x % 2 : Nat) : Int)) % 4294967296 = ((4294967295 : Nat) : Int) := by omega
    rw [h2]
    have h3 := u32_and_nat 3988292384 4294967295 (by omega) (by omega)
    rw [show ((3988292384 : Nat) : Int) = 3988292384 from rfl] at h3
    rw [h3, show (3988292384 &&& 4294967295 : Nat) = 3988292384 by decide]
    rw [u32_xor_nat _ _ (by omega) (by omega)]
    unfold T; rw [if_pos hx]
  · have h2 : (-((x % 2 : Nat) : Int)) % 4294967296 = ((0 : Nat) : Int) := by omega
    rw [h2]
    have h3 := u32_and_nat 3988292384 0 (by omega) (by omega)
    rw [show ((3988292384 : Nat) : Int) = 3988292384 from rfl] at h3
    rw [h3, Nat.and_zero, u32_xor_nat _ _ (by omega) (by omega), Nat.xor_zero]
    unfold T; rw [if_neg hx]

theorem Tn_succ' (k x : Nat) : Tn (k + 1) x = T (Tn k x) := by rw [Tn_add]; rfl

theorem par_T (x : Nat) (h : x < 4294967296) (h1 : x % 2 = 1) : bits .xor .u32 ((x : Int) / 2) 3988292384 = ((Ros.T x : Nat) : Int) := by
  rw [show (x : Int) / 2 = ((x / 2 : Nat) : Int) by omega, show (3988292384 : Int) = ((3988292384 : Nat) : Int) from rfl, u32_xor_nat _ _ (by omega) (by omega)]
  unfold T; rw [if_pos h1]
theorem par_F (x : Nat) (h1 : ¬ x % 2 = 1) : ((x : Int) / 2) = ((Ros.T x : Nat) : Int) := by
  unfold T; rw [if_neg h1]; omega

/-- A string's bytes with their places. -/
def pairs (l : List UInt8) : List (Nat × UInt8) := (List.range l.length).map fun i => (i, l.getD i 0)
theorem pairs_split (l : List UInt8) (k : Nat) (h : k < l.length) : pairs l = (pairs l).take k ++ (k, l.getD k 0) :: (pairs l).drop (k + 1) ∧ (pairs l).take k ++ [(k, l.getD k 0)] = (pairs l).take (k + 1) := by
  have hl : k < (pairs l).length := by simpa [pairs] using h
  have he : (pairs l)[k] = (k, l.getD k 0) := by simp [pairs]
  refine ⟨?_, ?_⟩
  · rw [← he, List.getElem_cons_drop, List.take_append_drop]
  · rw [← he, List.take_append_getElem]
theorem pairs_mid (l : List UInt8) (pre : List (Nat × UInt8)) (x : Nat × UInt8) (post : List (Nat × UInt8)) (h : pairs l = pre ++ x :: post) :
    pre.length < l.length ∧ x = (pre.length, l.getD pre.length 0) ∧ pre = (pairs l).take pre.length := by
  have hl : (pairs l).length = l.length := by simp [pairs]
  have h1 : pre.length < (pairs l).length := by rw [h]; simp
  refine ⟨by omega, ?_, by rw [h]; simp⟩
  have h2 : (pairs l)[pre.length]'h1 = x := by simp [h]
  rw [← h2]; simp [pairs]
def encP (x : Nat × UInt8) : Array Value := #[.int .i64 (x.1 : Int), .int .u8 (x.2.toNat : Int)]

/-- What is xor'ed with all bits. -/
theorem not_u32 (n : Nat) (h : n < 4294967296) : bits .xor .u32 4294967295 (n : Int) = ((4294967295 ^^^ n : Nat) : Int) := by
  rw [show (4294967295 : Int) = ((4294967295 : Nat) : Int) from rfl, u32_xor_nat _ _ (by omega) h]
theorem xor_lt (a b : Nat) (ha : a < 4294967296) (hb : b < 4294967296) : a ^^^ b < 4294967296 := Nat.xor_lt_two_pow (n := 32) ha hb

def runP (s : Nat) (l : List (Nat × UInt8)) : Nat := run s (l.map (·.2))
theorem runP_snoc (s : Nat) (l : List (Nat × UInt8)) (x : Nat × UInt8) : runP s (l ++ [x]) = Ros.step (runP s l) x.2.toNat := by
  simp [runP, run_append, run]
theorem runP_pairs (s : Nat) (l : List UInt8) : runP s (pairs l) = run s l := by
  unfold runP pairs
  congr 1
  apply List.ext_getElem
  · simp
  · intro i h1 h2
    simp [h2]
theorem runP_lt (s : Nat) (h : s < 4294967296) (l : List (Nat × UInt8)) : runP s l < 4294967296 := run_lt _ h

end Go.Proofs.Ytbmlenffcmmkbaa
