/-
  A flight beside a slice of the law's own. Conditions: at most a thousand notes lie there.
-/
import Derived.Test.YtlfbmicpaacbnaaFliP
import Derived.Test.YtlfbmicpaacbnaaArg
namespace Ros
open Go Go.RowKit
theorem below_drewN' {B : Nat} {a w : World} (h : Below B a w) (n : Nat) : Below B a (w.drewN n) := ⟨h.os, h.tape, h.output, h.size, h.block⟩
end Ros
namespace Go.Proofs.Ytlfbmicpaacbnaa
open Go.RowKit Go.Shelf Ros
set_option linter.unusedVariables false

/-- A flight beside a slice of the law's own. -/
def ByRow (w0 W : World) (S : Nat → Prop) (g : Nat) (f : Fs) (e : TypeId) (size : Nat) (v : Value) (n : Nat) (xs : List Value) : Prop := LawAt w0 W S g f ∧ Row W e size v n xs ∧ ∀ k, v.ownBlock = some k → ¬ S k ∧ w0.heap.size ≤ k
section
variable {w0 W W' : World} {S S' : Nat → Prop} {g : Nat} {f f' : Fs} {e : TypeId} {size n n' : Nat} {v v' : Value} {xs xs' : List Value}
theorem ByRow.turn (h : ByRow w0 W S g f e size v n xs) (hf : LawAt w0 W' S' g f') (ht : Turn S S' W W') : ByRow w0 W' S' g f' e size v n xs :=
  ⟨hf, h.2.1.keep fun k hk => ht.block k (h.2.1.lt hk) (h.2.2 k hk).1, fun k hk => ⟨(Turn.not_ ht (h.2.2 k hk).1 (h.2.1.lt hk)).1, (h.2.2 k hk).2⟩⟩
theorem ByRow.below (h : ByRow w0 W S g f e size v n xs) (hb : Below W.heap.size W W') : ByRow w0 W' S g f e size v n xs := ⟨h.1.below hb, h.2.1.below hb (Nat.le_refl _), h.2.2⟩
theorem ByRow.alloc (h : ByRow w0 W S g f e size v n xs) (o : Obj) : ByRow w0 (W.alloc o) S g f e size v n xs := h.below ((Below.refl _ W).alloc (Nat.le_refl _) o)
theorem ByRow.drewN (h : ByRow w0 W S g f e size v n xs) (k : Nat) : ByRow w0 (W.drewN k) S g f e size v n xs := h.below (below_drewN' (Below.refl _ W) k)
theorem ByRow.grown (h : ByRow w0 W S g f e size v n xs) (hr : Row W' e size v' n' xs') (hg : W.grownBy W' v.ownBlock) (ha : v'.ownBlock = v.ownBlock ∨ v'.ownBlock = some W.heap.size) : ByRow w0 W' S g f e size v' n' xs' := by
  have hlt := h.1.1.lt
  refine ⟨⟨h.1.1.keep fun k hk => hg.block k (hlt k hk) fun e => (h.2.2 k e.symm).1 hk, h.1.2.1.grown hg h.1.2.1.size fun k hk => (h.2.2 k hk).2, h.1.2.2⟩, hr, fun k hk => ?_⟩
  rcases ha with e | e
  · exact h.2.2 k (e ▸ hk)
  · rw [e] at hk
    have hk' : W.heap.size = k := by simpa using hk
    subst hk'
    exact ⟨fun hs => by have := hlt _ hs; omega, h.1.2.1.size⟩
theorem send_by (h : ByRow w0 W S g f e size v n xs) (hl : f.l.length ≤ 1000) (to : Int) (s : ByteArray) :
    Calls Try.prog 12 #[.pointer (some ⟨g, 0, none⟩), .int .i64 to, .string s] W fun e' W' => e' = .returned (.tuple #[.int .u32 ((msend f to s).1.1 : Int), .int .i64 (msend f to s).1.2]) ∧ ∃ S', ByRow w0 W' S' g (msend f to s).2 e size v n xs :=
  (send_law h.1 hl to s).mono fun _ _ ⟨he, S', hf, ht⟩ => ⟨he, S', h.turn hf ht⟩
theorem take_by (h : ByRow w0 W S g f e size v n xs) (hl : f.l.length ≤ 1000) (a : Int) :
    Calls Try.prog 17 #[.pointer (some ⟨g, 0, none⟩), .int .i64 a] W fun e' W' => e' = .returned (.tuple #[.agg #[.int .u32 ((mtake f a).1.1.id : Int), .int .i64 (mtake f a).1.1.to, .string (mtake f a).1.1.s], .int .i64 (mtake f a).1.2]) ∧ ∃ S', ByRow w0 W' S' g (mtake f a).2 e size v n xs :=
  (take_law h.1 hl a).mono fun _ _ ⟨he, S', hf, ht⟩ => ⟨he, S', h.turn hf ht⟩
theorem oldest_by (h : ByRow w0 W S g f e size v n xs) (hl : f.l.length ≤ 1000) (to : Int) :
    Calls Try.prog 19 #[.pointer (some ⟨g, 0, none⟩), .int .i64 to] W fun e' W' => e' = .returned (.int .i64 (mold f.l to)) ∧ ByRow w0 W' S g f e size v n xs :=
  (oldest_law h.1 hl to).mono fun _ _ ⟨he, hf, hb⟩ => ⟨he, h.below hb⟩
theorem ByRow.drew (h : ByRow w0 W S g f e size v n xs) : ByRow w0 W.drew S g f e size v n xs := h.below ((Below.refl _ W).drew)
theorem copy_by (h : ByRow w0 W S g f e size v n xs) (hl : f.l.length ≤ 1000) (a : Int) :
    Calls Try.prog 14 #[.pointer (some ⟨g, 0, none⟩), .int .i64 a] W fun e' W' => e' = .returned (.tuple #[.int .u32 ((mcopy f a).1.1 : Int), .int .i64 (mcopy f a).1.2]) ∧ ∃ S', ByRow w0 W' S' g (mcopy f a).2 e size v n xs :=
  (copy_law h.1 hl a).mono fun _ _ ⟨he, S', hf, ht⟩ => ⟨he, S', h.turn hf ht⟩
theorem drop_by (h : ByRow w0 W S g f e size v n xs) (hl : f.l.length ≤ 1000) (a : Int) :
    Calls Try.prog 16 #[.pointer (some ⟨g, 0, none⟩), .int .i64 a] W fun e' W' => e' = .returned (.int .i64 (mtake f a).1.2) ∧ ∃ S', ByRow w0 W' S' g (mtake f a).2 e size v n xs :=
  (drop_law h.1 hl a).mono fun _ _ ⟨he, S', hf, ht⟩ => ⟨he, S', h.turn hf ht⟩
theorem all_new (h : LawAt w0 W S g f) (hl : f.l.length ≤ 1000) :
    Calls Try.prog 13 #[.pointer (some ⟨g, 0, none⟩)] W fun e' W' => ∃ A c, e' = .returned (.slice A f.l.length c) ∧ ByRow w0 W' S g f 35 3 (.slice A f.l.length c) f.l.length (cellsNs f.l) :=
  (all_law h hl).mono fun _ _ ⟨A, c, he, hr, ho, hf, hb⟩ => ⟨A, c, he, hf, hr, fun k hk => ⟨fun hs => by have h1 := ho k hk; have h2 := h.1.lt k hs; omega, Nat.le_trans h.2.1.size (ho k hk)⟩⟩
theorem all_by (h : ByRow w0 W S g f e size v n xs) (hl : f.l.length ≤ 1000) :
    Calls Try.prog 13 #[.pointer (some ⟨g, 0, none⟩)] W fun e' W' => ∃ A c, e' = .returned (.slice A f.l.length c) ∧ Row W' 35 3 (.slice A f.l.length c) f.l.length (cellsNs f.l) ∧ ByRow w0 W' S g f e size v n xs :=
  (all_law h.1 hl).mono fun _ _ ⟨A, c, he, hr, ho, hf, hb⟩ => ⟨A, c, he, hr, h.below hb⟩
end
end Go.Proofs.Ytlfbmicpaacbnaa
