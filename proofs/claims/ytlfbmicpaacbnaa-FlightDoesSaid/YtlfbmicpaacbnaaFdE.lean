/-
  A flight beside the document's flight; an act on both. Conditions: none but the arguments' own.
-/
import Derived.Test.YtlfbmicpaacbnaaFdC
import Derived.Test.YtlfbmicpaacbnaaFdD
import Derived.Deep.RegionHeld3
namespace Ros
open Go Go.RowKit
/-- A flight behind k acts. -/
structure Gd (f : Fs) (k : Nat) : Prop where
  len : f.l.length ≤ k
  ok : ∀ x ∈ f.l, (0 ≤ x.to ∧ x.to < 16) ∧ x.s.size ≤ 100
theorem Gd.more {f : Fs} {k : Nat} (h : Gd f k) : Gd f (k + 1) := ⟨by have := h.len; omega, h.ok⟩
theorem Gd.launch {f : Fs} {k : Nat} (h : Gd f k) {to : Int} {s : ByteArray} (ht : 0 ≤ to ∧ to < 16) (hs : s.size ≤ 100) : Gd (mlaunch f to s).2 (k + 1) := by
  unfold mlaunch
  split
  · exact h.more
  · refine ⟨by have := h.len; simp; omega, fun x hx => ?_⟩
    rcases List.mem_append.1 hx with hx | hx
    · exact h.ok x hx
    · simp at hx; subst hx; exact ⟨ht, hs⟩
theorem Gd.send {f : Fs} {k : Nat} (h : Gd f k) (to : Int) {s : ByteArray} (hs : s.size ≤ 100) : Gd (msend f to s).2 (k + 1) := by
  unfold msend
  split
  · exact h.more
  · exact h.launch (by omega) hs
theorem Gd.take {f : Fs} {k : Nat} (h : Gd f k) (a : Int) : Gd (mtake f a).2 (k + 1) := by
  unfold mtake
  split
  · exact ⟨Nat.le_trans (List.length_eraseIdx_le _ _) (by have := h.len; omega), fun x hx => h.ok x (List.mem_of_mem_eraseIdx hx)⟩
  · exact h.more
theorem Gd.copy {f : Fs} {k : Nat} (h : Gd f k) (a : Int) : Gd (mcopy f a).2 (k + 1) := by
  unfold mcopy
  split
  · rename_i hb
    obtain ⟨h0, h1⟩ := isB_iff.1 hb
    have hlt : a.toNat < f.l.length := by omega
    have hg : f.l.getD a.toNat nt0 = f.l[a.toNat] := by rw [List.getD_eq_getElem?_getD, List.getElem?_eq_getElem hlt]; rfl
    rw [hg]
    have := h.ok _ (List.getElem_mem hlt)
    exact h.launch this.1 this.2
  · exact h.more
theorem Gd.hurt {f : Fs} {k : Nat} (h : Gd f k) (a b : Int) (m : Nat) : Gd (mhurt f a b m).2 (k + 1) := by
  unfold mhurt
  split
  · rename_i hb
    obtain ⟨h0, h1⟩ := isB_iff.1 hb
    have hlt : a.toNat < f.l.length := by omega
    have hg : f.l.getD a.toNat nt0 = f.l[a.toNat] := by rw [List.getD_eq_getElem?_getD, List.getElem?_eq_getElem hlt]; rfl
    dsimp only
    rw [hg]
    split
    · rename_i he
      refine ⟨by have := h.len; simp; omega, fun x hx => ?_⟩
      have hy := h.ok _ (List.getElem_mem hlt)
      rcases List.mem_or_eq_of_mem_set hx with hx | hx
      · exact h.ok x hx
      · subst hx
        refine ⟨hy.1, ?_⟩
        simp only [size_str]
        have := hy.2
        rw [size_bl] at this
        unfold chgE at he
        unfold chgL
        split at he
        · rename_i ho; rw [if_pos ho, chg_length]; exact this
        · cases he
    · exact h.more
  · exact h.more
end Ros
namespace Go.Proofs.Ytlfbmicpaacbnaa
open Go.RowKit Go.Shelf Ros
attribute [local go_sem] Oper.semAt_some
attribute [local go_sem ↓] Go.wp_at_zero Go.wp_at_succ
/-- A flight of the law's own beside the document's, and what lies in the blocks B. -/
structure Two (w0 W : World) (S T : Nat → Prop) (g r : Nat) (f f2 : Fs) (B : Nat → Prop) (F : World → Prop) : Prop where
  fl : FlA W S g f.n f.l
  rf : RfA W T r f2.n f2.l
  below : Below w0.heap.size w0 W
  ownS : ∀ k, S k → w0.heap.size ≤ k
  ownT : ∀ k, T k → w0.heap.size ≤ k
  disj : ∀ k, S k → ¬ T k
  ap : ∀ k, B k → k < W.heap.size ∧ ¬ S k ∧ ¬ T k
  frame : ∀ X Y : World, (∀ k, B k → Y.heap[k]? = X.heap[k]?) → F X → F Y
  rest : F W
section
variable {w0 W W' : World} {S S' T T' : Nat → Prop} {g r : Nat} {f f' f2 f2' : Fs} {B B' : Nat → Prop} {F F' : World → Prop}
theorem Two.turnF (h : Two w0 W S T g r f f2 B F) (hf : FlA W' S' g f'.n f'.l) (ht : Turn S S' W W') : Two w0 W' S' T g r f' f2 B F := by
  obtain ⟨d1, d2, d3⟩ := ht.apart h.rf.lt h.disj
  obtain ⟨b1, b2⟩ := ht.below h.below h.below.size h.ownS
  refine ⟨hf, h.rf.keep d2, b1, b2, h.ownT, d1, fun k hk => ?_, h.frame, h.frame W W' (fun k hk => ht.block k (h.ap k hk).1 (h.ap k hk).2.1) h.rest⟩
  exact ⟨Nat.lt_of_lt_of_le (h.ap k hk).1 ht.size, fun hs => (ht.foot k hs).elim (h.ap k hk).2.1 (fun e => by have := (h.ap k hk).1; omega), (h.ap k hk).2.2⟩
theorem Two.turnR (h : Two w0 W S T g r f f2 B F) (hf : RfA W' T' r f2'.n f2'.l) (ht : Turn T T' W W') : Two w0 W' S T' g r f f2' B F := by
  obtain ⟨d1, d2, d3⟩ := ht.apart h.fl.lt (fun k hk hs => h.disj k hs hk)
  obtain ⟨b1, b2⟩ := ht.below h.below h.below.size h.ownT
  refine ⟨h.fl.keep d2, hf, b1, h.ownS, b2, fun k hs ht => d1 k ht hs, fun k hk => ?_, h.frame, h.frame W W' (fun k hk => ht.block k (h.ap k hk).1 (h.ap k hk).2.2) h.rest⟩
  exact ⟨Nat.lt_of_lt_of_le (h.ap k hk).1 ht.size, (h.ap k hk).2.1, fun hs => (ht.foot k hs).elim (h.ap k hk).2.2 (fun e => by have := (h.ap k hk).1; omega)⟩
theorem Two.on (h : Two w0 W S T g r f f2 B F) (hb : Below W.heap.size W W') : Two w0 W' S T g r f f2 B F := h.turnF (h.fl.below hb) (.of_below hb h.fl.lt)
theorem Two.alloc (h : Two w0 W S T g r f f2 B F) (o : Obj) : Two w0 (W.alloc o) S T g r f f2 B F := h.on ((Below.refl _ W).alloc (Nat.le_refl _) o)
theorem Two.drew (h : Two w0 W S T g r f f2 B F) : Two w0 W.drew S T g r f f2 B F := h.on (Below.refl _ W).drew
theorem Two.less (h : Two w0 W S T g r f f2 B F) (hB : ∀ k, B' k → B k) (hf : ∀ X Y : World, (∀ k, B' k → Y.heap[k]? = X.heap[k]?) → F' X → F' Y) (hr : F W → F' W) : Two w0 W S T g r f f2 B' F' :=
  ⟨h.fl, h.rf, h.below, h.ownS, h.ownT, h.disj, fun k hk => h.ap k (hB k hk), hf, hr h.rest⟩
theorem Two.boxed (h : Two w0 W S T g r f f2 B F) (o : Obj) : Two w0 (W.alloc o) S T g r f f2 (fun k => B k ∨ k = W.heap.size) (fun X => F X ∧ X.heap[W.heap.size]? = some o) := by
  have h1 := h.alloc o
  refine ⟨h1.fl, h1.rf, h1.below, h1.ownS, h1.ownT, h1.disj, fun k hk => hk.elim (h1.ap k) (fun e => ?_), fun X Y hk hf => ⟨h.frame X Y (fun k hb => hk k (.inl hb)) hf.1, (hk _ (.inr rfl)).trans hf.2⟩, ⟨h1.rest, World.alloc_heap_new W o⟩⟩
  subst e
  exact ⟨by simp, fun e => by have := h.fl.lt _ e; omega, fun e => by have := h.rf.lt _ e; omega⟩
theorem send_t (h : Two w0 W S T g r f f2 B F) (hl : f.l.length ≤ 1000) (to : Int) (s : ByteArray) :
    Calls Try.prog 12 #[.pointer (some ⟨g, 0, none⟩), .int .i64 to, .string s] W fun e W' => e = .returned (.tuple #[.int .u32 ((msend f to s).1.1 : Int), .int .i64 (msend f to s).1.2]) ∧ ∃ S', Two w0 W' S' T g r (msend f to s).2 f2 B F :=
  (send_any S g f.n f.l to s W h.fl hl).mono fun _ _ ⟨he, S', hf, ht⟩ => ⟨he, S', h.turnF hf ht⟩
theorem rsend_t (h : Two w0 W S T g r f f2 B F) (hl : f2.l.length ≤ 1000) (to : Int) (s : ByteArray) :
    Calls Try.prog 28 #[.pointer (some ⟨r, 0, none⟩), .int .i64 to, .string s] W fun e W' => e = .returned (.tuple #[.int .u32 ((msend f2 to s).1.1 : Int), .int .i64 (msend f2 to s).1.2]) ∧ ∃ T', Two w0 W' S T' g r f (msend f2 to s).2 B F :=
  (rsend_any T r f2.n f2.l to s W h.rf hl).mono fun _ _ ⟨he, S', hf, ht⟩ => ⟨he, S', h.turnR hf ht⟩
theorem take_t (h : Two w0 W S T g r f f2 B F) (hl : f.l.length ≤ 1000) (a : Int) :
    Calls Try.prog 17 #[.pointer (some ⟨g, 0, none⟩), .int .i64 a] W fun e W' => e = .returned (.tuple #[.agg #[.int .u32 ((mtake f a).1.1.id : Int), .int .i64 (mtake f a).1.1.to, .string (mtake f a).1.1.s], .int .i64 (mtake f a).1.2]) ∧ ∃ S', Two w0 W' S' T g r (mtake f a).2 f2 B F :=
  (take_any S g f.n f.l a W h.fl hl).mono fun _ _ ⟨he, S', hf, ht⟩ => ⟨he, S', h.turnF hf ht⟩
theorem rtake_t (h : Two w0 W S T g r f f2 B F) (hl : f2.l.length ≤ 1000) (a : Int) :
    Calls Try.prog 29 #[.pointer (some ⟨r, 0, none⟩), .int .i64 a] W fun e W' => e = .returned (.tuple #[.agg #[.int .u32 ((mtake f2 a).1.1.id : Int), .int .i64 (mtake f2 a).1.1.to, .string (mtake f2 a).1.1.s], .int .i64 (mtake f2 a).1.2]) ∧ ∃ T', Two w0 W' S T' g r f (mtake f2 a).2 B F :=
  (rtake_any T r f2.n f2.l a W h.rf hl).mono fun _ _ ⟨he, S', hf, ht⟩ => ⟨he, S', h.turnR hf ht⟩
theorem drop_t (h : Two w0 W S T g r f f2 B F) (hl : f.l.length ≤ 1000) (a : Int) :
    Calls Try.prog 16 #[.pointer (some ⟨g, 0, none⟩), .int .i64 a] W fun e W' => e = .returned (.int .i64 (mtake f a).1.2) ∧ ∃ S', Two w0 W' S' T g r (mtake f a).2 f2 B F :=
  (drop_any S g f.n f.l a W h.fl hl).mono fun _ _ ⟨he, S', hf, ht⟩ => ⟨he, S', h.turnF hf ht⟩
theorem copy_t (h : Two w0 W S T g r f f2 B F) (hl : f.l.length ≤ 1000) (a : Int) :
    Calls Try.prog 14 #[.pointer (some ⟨g, 0, none⟩), .int .i64 a] W fun e W' => e = .returned (.tuple #[.int .u32 ((mcopy f a).1.1 : Int), .int .i64 (mcopy f a).1.2]) ∧ ∃ S', Two w0 W' S' T g r (mcopy f a).2 f2 B F :=
  (copy_any S g f.n f.l a W h.fl hl).mono fun _ _ ⟨he, S', hf, ht⟩ => ⟨he, S', h.turnF hf ht⟩
theorem rcopy_t (h : Two w0 W S T g r f f2 B F) (hl : f2.l.length ≤ 1000) (hto : ∀ x ∈ f2.l, 0 ≤ x.to ∧ x.to < 16) (a : Int) :
    Calls Try.prog 30 #[.pointer (some ⟨r, 0, none⟩), .int .i64 a] W fun e W' => e = .returned (.tuple #[.int .u32 ((mcopy f2 a).1.1 : Int), .int .i64 (mcopy f2 a).1.2]) ∧ ∃ T', Two w0 W' S T' g r f (mcopy f2 a).2 B F :=
  (rcopy_any T r f2.n f2.l a W h.rf hl hto).mono fun _ _ ⟨he, S', hf, ht⟩ => ⟨he, S', h.turnR hf ht⟩
theorem hurt_t (h : Two w0 W S T g r f f2 B F) (hs : ∀ x ∈ f.l, x.s.size ≤ 140737488355328) (a bit : Int) (mask : Nat) (hm : mask < 4294967296) (hb1 : -9223372036854775808 ≤ bit) (hb2 : bit ≤ 9223372036854775807) :
    Calls Try.prog 20 #[.pointer (some ⟨g, 0, none⟩), .int .i64 a, .int .i64 bit, .int .u32 (mask : Int)] W fun e W' => e = .returned (.int .i64 (mhurt f a bit mask).1) ∧ Two w0 W' S T g r (mhurt f a bit mask).2 f2 B F :=
  (hurt_any S g f.n f.l a bit mask W h.fl hs hm hb1 hb2).mono fun _ _ ⟨he, hf, ht⟩ => ⟨he, h.turnF hf ht⟩
theorem rhurt_t (h : Two w0 W S T g r f f2 B F) (hs : ∀ x ∈ f2.l, x.s.size ≤ 140737488355328) (a bit : Int) (mask : Nat) (hm : mask < 4294967296) (hb1 : -9223372036854775808 ≤ bit) (hb2 : bit ≤ 9223372036854775807) :
    Calls Try.prog 31 #[.pointer (some ⟨r, 0, none⟩), .int .i64 a, .int .i64 bit, .int .u32 (mask : Int)] W fun e W' => e = .returned (.int .i64 (mhurt f2 a bit mask).1) ∧ Two w0 W' S T g r f (mhurt f2 a bit mask).2 B F :=
  (rhurt_any T r f2.n f2.l a bit mask W h.rf hs hm hb1 hb2).mono fun _ _ ⟨he, hf, ht⟩ => ⟨he, h.turnR hf ht⟩
end
end Go.Proofs.Ytlfbmicpaacbnaa
