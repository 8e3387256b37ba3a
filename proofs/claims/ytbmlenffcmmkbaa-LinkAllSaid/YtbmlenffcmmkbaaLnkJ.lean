/-
  The laws of link: two links in memory beside slices of the law's own; what stands in all of them. Conditions: numbers are as the program's types allow.
-/
import Derived.Test.YtbmlenffcmmkbaaLnkI
namespace Ros
open Go Go.RowKit
theorem btL {a b c : World} (h : Below a.heap.size a b) (k : Below b.heap.size b c) : Below a.heap.size a c := h.trans (k.mono h.size)
theorem ArgAt.freshL {W : World} {t : TypeId} {fz : Nat × Nat} (vs : List Value) : ArgAt (W.alloc (.cells vs.toArray t fz)) 1 (some ⟨W.heap.size, 0, none⟩) vs.length vs := by
  refine ⟨by simp, fun _ => ⟨_, rfl, by simp, fun j u hu => ?_⟩⟩
  rw [addr_add, Nat.zero_add, cell_row (World.alloc_heap_new W _)]
  simpa using hu
end Ros
namespace Go.Proofs.Ytbmlenffcmmkbaa
open Go.RowKit Go.Shelf Ros Go.Maps
attribute [local go_sem] Oper.semAt_some
/-- A link that the call has made. -/
def LkAt (w0 W : World) (S : Nat → Prop) (g : Nat) (s : Lk) : Prop := LkA W S g s ∧ Below w0.heap.size w0 W ∧ ∀ k, S k → w0.heap.size ≤ k
/-- Two links that the call has made. -/
def Two (w0 W : World) (S : Nat → Prop) (g : Nat) (s : Lk) (T : Nat → Prop) (h : Nat) (t : Lk) : Prop := LkAt w0 W S g s ∧ LkAt w0 W T h t ∧ ∀ k, S k → ¬ T k
/-- A slice of the call's own beside them. -/
def By2 (w0 W : World) (S T : Nat → Prop) (e : TypeId) (size : Nat) (v : Value) (n : Nat) (xs : List Value) : Prop := Row W e size v n xs ∧ ∀ k, v.ownBlock = some k → ¬ S k ∧ ¬ T k ∧ w0.heap.size ≤ k
section
variable {w0 W W' : World} {S T : Nat → Prop} {g h n size : Nat} {s s' t t' : Lk} {e : TypeId} {v : Value} {xs : List Value}
theorem LkAt.turn (H : LkAt w0 W S g s) (hf : LkA W' S g s') (ht : Turn S S W W') : LkAt w0 W' S g s' := by
  obtain ⟨h1, h2⟩ := ht.below H.2.1 H.2.1.size H.2.2
  exact ⟨hf, h1, h2⟩
theorem LkAt.below (H : LkAt w0 W S g s) (hb : Below W.heap.size W W') : LkAt w0 W' S g s := H.turn (H.1.below hb) (.of_below hb H.1.lt)
theorem Two.symm (H : Two w0 W S g s T h t) : Two w0 W T h t S g s := ⟨H.2.1, H.1, fun k hk hs => H.2.2 k hs hk⟩
theorem Two.turn (H : Two w0 W S g s T h t) (hf : LkA W' S g s') (ht : Turn S S W W') : Two w0 W' S g s' T h t := by
  have h1 := H.1.turn hf ht
  exact ⟨h1, ⟨H.2.1.1.keep fun k hk => ht.block k (H.2.1.1.lt k hk) fun hs => H.2.2 k hs hk, h1.2.1, H.2.1.2.2⟩, H.2.2⟩
theorem Two.below (H : Two w0 W S g s T h t) (hb : Below W.heap.size W W') : Two w0 W' S g s T h t := H.turn (H.1.1.below hb) (.of_below hb H.1.1.lt)
theorem Two.from_ (H : Two w0 W S g s T h t) : Below w0.heap.size w0 W := H.1.2.1
theorem By2.symm (H : By2 w0 W S T e size v n xs) : By2 w0 W T S e size v n xs := ⟨H.1, fun k hk => ⟨(H.2 k hk).2.1, (H.2 k hk).1, (H.2 k hk).2.2⟩⟩
theorem By2.turn (H : By2 w0 W S T e size v n xs) (ht : Turn S S W W') : By2 w0 W' S T e size v n xs := ⟨H.1.keep fun k hk => ht.block k (H.1.lt hk) (H.2 k hk).1, H.2⟩
theorem By2.below (H : By2 w0 W S T e size v n xs) (hb : Below W.heap.size W W') : By2 w0 W' S T e size v n xs := ⟨H.1.below hb (Nat.le_refl _), H.2⟩
theorem By2.nil : By2 w0 W S T e size (.slice none 0 0) 0 [] := ⟨Row.nil _ _ _, fun k hk => by cases hk⟩
theorem By2.fresh (H : Two w0 W S g s T h t) (hr : Row W' e size v n xs) (hf : ∀ k, v.ownBlock = some k → W.heap.size ≤ k) : By2 w0 W' S T e size v n xs :=
  ⟨hr, fun k hk => ⟨fun hs => by have := H.1.1.lt k hs; have := hf k hk; omega, fun hs => by have := H.2.1.1.lt k hs; have := hf k hk; omega, Nat.le_trans H.from_.size (hf k hk)⟩⟩
theorem By2.arg {A : Option Addr} {c : Nat} (H : By2 w0 W S T e size (.slice A n c) n xs) : ArgAt W size A n xs := ArgAt.of_row H.1

theorem sd_law (H : Two w0 W S g s T h t) (d : ByteArray) (hd : d.size ≤ 140737488355328) (hok : s.next < 4294967296) (hl : s.outs.length ≤ 1000) :
    Calls Try.prog 14 #[.pointer (some ⟨g, 0, none⟩), .string d] W fun e W' => e = .returned (.int .i64 (lsend s d).1) ∧ Two w0 W' S g (lsend s d).2 T h t ∧ Turn S S W W' :=
  (lsend_any d hd W S g s H.1.1 hok hl).mono fun _ _ ⟨he, hf, ht⟩ => ⟨he, H.turn hf ht, ht⟩
theorem ou_law (H : Two w0 W S g s T h t) (hn : s.next < 4294967296) (hw : s.waits < 4294967296) (hl : s.outs.length ≤ 64) :
    Calls Try.prog 11 #[.pointer (some ⟨g, 0, none⟩)] W fun e W' => ∃ A cap, e = .returned (.slice A s.outs.length cap) ∧ By2 w0 W' S T 37 9 (.slice A s.outs.length cap) s.outs.length ((framesN s s.outs.length).flatMap frL) ∧ Two w0 W' S g s T h t ∧ Below W.heap.size W W' :=
  (out_any W S g s H.1.1 hn hw hl).mono fun _ _ ⟨A, cap, he, hr, hb, hf⟩ => ⟨A, cap, he, .fresh H hr hf, H.below hb, hb⟩
theorem er_law (H : Two w0 W S g s T h t) (f : Fr) (hf : f.src ≠ s.peer) :
    Calls Try.prog 12 #[.pointer (some ⟨g, 0, none⟩), frV f] W fun e W' => e = .returned (.tuple #[.slice none 0 0, .slice none 0 0, .int .i64 60]) ∧ Two w0 W' S g s T h t ∧ Below W.heap.size W W' :=
  (recv_err f W S g s H.1.1 hf).mono fun _ _ ⟨he, hb⟩ => ⟨he, H.below hb, hb⟩
theorem da_law (H : Two w0 W S g s T h t) (f : Fr) (hf1 : f.src = s.peer) (hf2 : f.dst = s.self) (hf3 : f.kind = 1) (hw : s.waits < 4294967296) :
    Calls Try.prog 12 #[.pointer (some ⟨g, 0, none⟩), frV f] W fun e W' => ∃ A c B d, e = .returned (.tuple #[.slice A (lrecv s f.life f.seq f.data).1.length c, .slice B (lrecv s f.life f.seq f.data).2.1.length d, .int .i64 0]) ∧
      By2 w0 W' S T 9 1 (.slice A (lrecv s f.life f.seq f.data).1.length c) (lrecv s f.life f.seq f.data).1.length ((lrecv s f.life f.seq f.data).1.map .string) ∧
      By2 w0 W' S T 37 9 (.slice B (lrecv s f.life f.seq f.data).2.1.length d) (lrecv s f.life f.seq f.data).2.1.length ((lrecv s f.life f.seq f.data).2.1.flatMap frL) ∧
      (∀ k, (Value.slice A (lrecv s f.life f.seq f.data).1.length c).ownBlock = some k → W.heap.size ≤ k) ∧ (∀ k, (Value.slice B (lrecv s f.life f.seq f.data).2.1.length d).ownBlock = some k → W.heap.size ≤ k) ∧
      Two w0 W' S g (lrecv s f.life f.seq f.data).2.2 T h t ∧ Turn S S W W' :=
  (recv_data f W S g s H.1.1 hf1 hf2 hf3 hw).mono fun _ W' ⟨sv, av, he, hL, ht, r1, r2, k1, k2⟩ => by
    obtain ⟨A, c, rfl, _, _⟩ := r1.form
    obtain ⟨B, d, rfl, _, _⟩ := r2.form
    exact ⟨A, c, B, d, he, .fresh H r1 k1, .fresh H r2 k2, k1, k2, H.turn hL ht, ht⟩
theorem ak_law (H : Two w0 W S g s T h t) (f : Fr) (hf1 : f.src = s.peer) (hf2 : f.dst = s.self) (hf3 : f.kind = 2) (hn : s.next < 4294967296) :
    Calls Try.prog 12 #[.pointer (some ⟨g, 0, none⟩), frV f] W fun e W' => e = .returned (.tuple #[.slice none 0 0, .slice none 0 0, .int .i64 0]) ∧ Two w0 W' S g (lack s f.life f.ack) T h t ∧ Turn S S W W' :=
  (recv_ack f W S g s H.1.1 hf1 hf2 hf3 hn).mono fun _ _ ⟨he, hf, ht⟩ => ⟨he, H.turn hf ht, ht⟩
end
def lk0 (self peer wire window : Int) (life : Nat) : Lk := ⟨life, 1, [], 0, 1, self, peer, wire, window⟩
theorem n1_law {w0 W : World} (h0 : Below w0.heap.size w0 W) (self peer wire window : Int) (life : Nat) (h1 : nodeOk self) (h2 : nodeOk peer) (h3 : self ≠ peer) (h4 : isW wire) (h5 : 1 ≤ window ∧ window ≤ 64) (h6 : 1 ≤ life) :
    Calls Try.prog 13 #[.int .i64 self, .int .i64 peer, .int .i64 wire, .int .i64 window, .int .u32 (life : Int)] W fun e W' => ∃ g S, e = .returned (.tuple #[.pointer (some ⟨g, 0, none⟩), .int .i64 0]) ∧ LkAt w0 W' S g (lk0 self peer wire window life) ∧ Below W.heap.size W W' :=
  (lnew_yes self peer wire window life W h1 h2 h3 h4 h5 h6).mono fun _ _ ⟨g, S, he, hS, hL, hb⟩ => ⟨g, S, he, ⟨hL, btL h0 hb, fun k hk => Nat.le_trans h0.size (hS k hk)⟩, hb⟩
theorem n2_law {w0 W : World} {T : Nat → Prop} {h : Nat} {t : Lk} (H : LkAt w0 W T h t) (self peer wire window : Int) (life : Nat) (h1 : nodeOk self) (h2 : nodeOk peer) (h3 : self ≠ peer) (h4 : isW wire) (h5 : 1 ≤ window ∧ window ≤ 64) (h6 : 1 ≤ life) :
    Calls Try.prog 13 #[.int .i64 self, .int .i64 peer, .int .i64 wire, .int .i64 window, .int .u32 (life : Int)] W fun e W' => ∃ g S, e = .returned (.tuple #[.pointer (some ⟨g, 0, none⟩), .int .i64 0]) ∧ Two w0 W' T h t S g (lk0 self peer wire window life) ∧ Below W.heap.size W W' :=
  (lnew_yes self peer wire window life W h1 h2 h3 h4 h5 h6).mono fun _ _ ⟨g, S, he, hS, hL, hb⟩ => ⟨g, S, he, ⟨H.below hb, ⟨hL, btL H.2.1 hb, fun k hk => Nat.le_trans H.2.1.size (hS k hk)⟩, fun k hk hs => by have := H.1.lt k hk; have := hS k hs; omega⟩, hb⟩
end Go.Proofs.Ytbmlenffcmmkbaa
