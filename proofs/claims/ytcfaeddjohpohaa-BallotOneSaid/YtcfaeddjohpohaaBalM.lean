/-
  What the functions of ballot and of its reference compute, as plain functions. Conditions: none.
-/
import Derived.Test.YtcfaeddjohpohaaStr
namespace Ros
open Go
/-- An acceptor. -/
structure Vt where
  p : Nat
  b : Nat
  s : ByteArray
  deriving DecidableEq
def vt0 : Vt := ⟨0, 0, ⟨#[]⟩⟩
def cellsV (x : Vt) : List Value := [.int .u64 (x.p : Int), .int .u64 (x.b : Int), .string x.s]
theorem cellsV_length (x : Vt) : (cellsV x).length = 3 := rfl
def Vt.ok (x : Vt) : Prop := x.p < 18446744073709551616 ∧ x.b < 18446744073709551616 ∧ x.s.size ≤ 140737488355328
theorem vt0_ok : vt0.ok := ⟨by show 0 < _; omega, by show 0 < _; omega, by show 0 ≤ _; omega⟩
@[irreducible] def rightB (v : Vt) : Bool := decide (v.b ≤ v.p) && (decide (0 < v.b) || decide (v.s.size = 0)) && decide (v.s.size ≤ 4000)
theorem rightB_iff (v : Vt) : rightB v = true ↔ v.b ≤ v.p ∧ (0 < v.b ∨ v.s.size = 0) ∧ v.s.size ≤ 4000 := by
  unfold rightB; simp [and_assoc]
def mprom (v : Vt) (n : Nat) : Vt × Int := if rightB v = true ∧ 1 ≤ n then (if n ≤ v.p then (vt0, 80) else (⟨n, v.b, v.s⟩, 0)) else (vt0, 2)
def mcast (v : Vt) (n : Nat) (s : ByteArray) : Vt × Int := if rightB v = true ∧ 1 ≤ n ∧ s.size ≤ 4000 then (if n < v.p then (vt0, 80) else (⟨n, n, s⟩, 0)) else (vt0, 2)
theorem mprom_bad {v : Vt} {n : Nat} (h : ¬ (rightB v = true ∧ 1 ≤ n)) : mprom v n = (vt0, 2) := if_neg h
theorem mprom_low {v : Vt} {n : Nat} (h : rightB v = true ∧ 1 ≤ n) (hn : n ≤ v.p) : mprom v n = (vt0, 80) := by unfold mprom; rw [if_pos h, if_pos hn]
theorem mprom_yes {v : Vt} {n : Nat} (h : rightB v = true ∧ 1 ≤ n) (hn : v.p < n) : mprom v n = (⟨n, v.b, v.s⟩, 0) := by unfold mprom; rw [if_pos h, if_neg (by omega)]
theorem mcast_bad {v : Vt} {n : Nat} {s : ByteArray} (h : ¬ (rightB v = true ∧ 1 ≤ n ∧ s.size ≤ 4000)) : mcast v n s = (vt0, 2) := if_neg h
theorem mcast_low {v : Vt} {n : Nat} {s : ByteArray} (h : rightB v = true ∧ 1 ≤ n ∧ s.size ≤ 4000) (hn : n < v.p) : mcast v n s = (vt0, 80) := by unfold mcast; rw [if_pos h, if_pos hn]
theorem mcast_yes {v : Vt} {n : Nat} {s : ByteArray} (h : rightB v = true ∧ 1 ≤ n ∧ s.size ≤ 4000) (hn : v.p ≤ n) : mcast v n s = (⟨n, n, s⟩, 0) := by unfold mcast; rw [if_pos h, if_neg (by omega)]
theorem right_prom {v : Vt} {n : Nat} (h : rightB v = true) (hn : v.p < n) : rightB ⟨n, v.b, v.s⟩ = true := by
  obtain ⟨h1, h2, h3⟩ := (rightB_iff v).1 h
  exact (rightB_iff _).2 ⟨by simp only []; omega, h2, h3⟩
theorem right_cast {n : Nat} {s : ByteArray} (hn : 1 ≤ n) (hs : s.size ≤ 4000) : rightB ⟨n, n, s⟩ = true := (rightB_iff _).2 ⟨Nat.le_refl _, .inl hn, hs⟩
theorem right_vt0 : rightB vt0 = true := (rightB_iff _).2 ⟨Nat.le_refl _, .inr (by simp [vt0, ByteArray.size]), by simp [vt0, ByteArray.size]⟩
/-- What may be proposed. -/
def bestV (a : Vt) (l : List Vt) : Vt := l.foldl (fun a v => if a.b < v.b then v else a) a
theorem bestV_snoc (a : Vt) (l : List Vt) (v : Vt) : bestV a (l ++ [v]) = if (bestV a l).b < v.b then v else bestV a l := by unfold bestV; rw [List.foldl_append]; rfl
def groupB (n : Int) (k : Nat) : Bool := decide (1 ≤ n ∧ n ≤ 16 ∧ (k : Int) ≤ n ∧ n < 2 * (k : Int))
def mprop (n : Int) (l : List Vt) (own : ByteArray) : ByteArray × Int :=
  if groupB n l.length = true then (if (l.all rightB && decide (own.size ≤ 4000)) = true then ((bestV ⟨0, 0, own⟩ l).s, 0) else (⟨#[]⟩, 2)) else (⟨#[]⟩, 81)
/-- How many have voted so. -/
def cntV (b : Nat) (s : ByteArray) (l : List Vt) : Nat := l.countP fun v => decide (v.b = b) && decide (v.s = s)
def majB (l : List Vt) (v : Vt) : Bool := decide (0 < v.b) && decide (l.length < 2 * cntV v.b v.s l)
def mdec (l : List Vt) : (ByteArray × Bool) × Int :=
  if 1 ≤ l.length ∧ l.length ≤ 16 then (if l.all rightB = true then (match l.find? (majB l) with | some v => ((v.s, true), 0) | none => ((⟨#[]⟩, false), 0)) else ((⟨#[]⟩, false), 2)) else ((⟨#[]⟩, false), 81)
def mnext (b : Nat) (node : Int) : Nat × Int := if node < 0 ∨ 16 ≤ node ∨ 1152921504606846976 < b then (0, 2) else ((if b / 16 * 16 + node.toNat ≤ b then b / 16 * 16 + node.toNat + 16 else b / 16 * 16 + node.toNat), 0)
end Ros
