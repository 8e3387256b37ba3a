/-
  A node's part in many decisions, plain: promises, votes, what is learned. Conditions: none.
-/
import Derived.Test.YtlboeaapmfpipaaJouP
import Derived.Test.YtlboeaapmfpipaaBalM
namespace Ros
open Go Go.RowKit
/-- A node: its votes, what it has learned, how long the prefix is, how many instances are gone. -/
structure Nd where
  votes : Int → Option Vt
  known : Int → Option ByteArray
  len : Nat
  gone : Nat
def nd0 : Nd := ⟨fun _ => none, fun _ => none, 0, 0⟩
def Nd.vote (s : Nd) (i : Int) : Vt := (s.votes i).getD vt0
def updI {α : Type} (f : Int → Option α) (i : Int) (v : α) : Int → Option α := fun j => if j = i then some v else f j
theorem updI_same {α : Type} (f : Int → Option α) (i : Int) (v : α) : updI f i v i = some v := if_pos rfl
theorem updI_other {α : Type} (f : Int → Option α) {i j : Int} (v : α) (h : j ≠ i) : updI f i v j = f j := if_neg h
def Nd.ok (s : Nd) : Prop := (∀ i v, s.votes i = some v → v.ok) ∧ s.len ≤ 10000 ∧ s.gone ≤ 10000
theorem Nd.ok_vote {s : Nd} (h : s.ok) (i : Int) : (s.vote i).ok := by
  unfold Nd.vote
  cases hv : s.votes i with
  | none => exact vt0_ok
  | some v => exact h.1 i v hv
def isI (i : Int) : Bool := decide (1 ≤ i ∧ i ≤ 10000)
theorem isI_iff {i : Int} : isI i = true ↔ 1 ≤ i ∧ i ≤ 10000 := by unfold isI; simp
/-- Why an instance's acceptor cannot be asked. -/
def openE (s : Nd) (i : Int) : Int := if isI i = true then (if i ≤ (s.gone : Int) then 90 else 0) else 2
def halvesL (n : Nat) : List UInt8 := toB 4 (n % 4294967296) ++ toB 4 (n / 4294967296)
def recI (kind : UInt8) (i : Int) (rest : List UInt8) : List UInt8 := kind :: (toB 4 i.toNat ++ rest)
def nprom (s : Nd) (i : Int) (n : Nat) : ((Vt × List UInt8) × Int) × Nd :=
  if openE s i = 0 then (if (mprom (s.vote i) n).2 = 0 then ((((mprom (s.vote i) n).1, recI 112 i (halvesL n)), 0), { s with votes := updI s.votes i (mprom (s.vote i) n).1 }) else (((vt0, []), (mprom (s.vote i) n).2), s))
  else (((vt0, []), openE s i), s)
def ncast (s : Nd) (i : Int) (n : Nat) (v : ByteArray) : (List UInt8 × Int) × Nd :=
  if openE s i = 0 then (if (mcast (s.vote i) n v).2 = 0 then ((recI 118 i (halvesL n ++ bl v), 0), { s with votes := updI s.votes i (mcast (s.vote i) n v).1 }) else (([], (mcast (s.vote i) n v).2), s))
  else (([], openE s i), s)
/-- How far there is no gap. -/
def growL (known : Int → Option ByteArray) : Nat → Nat → Nat
  | 0, l => l
  | f + 1, l => if (known ((l + 1 : Nat) : Int)).isSome = true then growL known f (l + 1) else l
theorem growL_le (known : Int → Option ByteArray) : ∀ f l, l ≤ growL known f l ∧ growL known f l ≤ l + f
  | 0, l => ⟨Nat.le_refl _, Nat.le_refl _⟩
  | f + 1, l => by
    unfold growL
    split
    · have := growL_le known f (l + 1); omega
    · omega
def nlearn (s : Nd) (i : Int) (v : ByteArray) : (List UInt8 × Int) × Nd :=
  if isI i = true ∧ v.size ≤ 4000 then
    (match s.known i with
      | some old => (([], if old = v then 0 else 91), s)
      | none => ((recI 100 i (bl v), 0), { s with known := updI s.known i v, len := growL (updI s.known i v) (10000 - s.len) s.len }))
  else (([], 2), s)
/-- The values of the prefix. -/
def prefL (s : Nd) : List (List UInt8) := (List.range s.len).map fun j => bl ((s.known ((j + 1 : Nat) : Int)).getD ⟨#[]⟩)
theorem prefL_len (s : Nd) : (prefL s).length = s.len := by simp [prefL]
end Ros
