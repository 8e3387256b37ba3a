/-
  A nil flight, and FlightNone walked. Conditions: none but the arguments' own.
-/
import Derived.Test.YtlfbmicpaacbnaaFliL
import Derived.Test.YtlfbmicpaacbnaaOpen
namespace Go.Proofs.Ytlfbmicpaacbnaa
open Go.RowKit Go.Shelf Ros
attribute [local go_sem] Oper.semAt_some
attribute [local go_sem ↓] Go.wp_at_zero Go.wp_at_succ

theorem send_nil (a : Int) (s : ByteArray) (w : World) : Calls Try.prog 12 #[.pointer none, .int .i64 a, .string s] w fun e w' => e = .returned (.tuple #[.int .u32 0, .int .i64 1]) ∧ w = w' := by
  go_enter Try.func12, Try.ntmps12
  go_wp2
  go_ret2
  exact ⟨rfl, rfl⟩
theorem copy_nil (a : Int) (w : World) : Calls Try.prog 14 #[.pointer none, .int .i64 a] w fun e w' => e = .returned (.tuple #[.int .u32 0, .int .i64 1]) ∧ w = w' := by
  go_enter Try.func14, Try.ntmps14
  go_wp2
  go_ret2
  exact ⟨rfl, rfl⟩
theorem hurt_nil (a b : Int) (m : Int) (w : World) : Calls Try.prog 20 #[.pointer none, .int .i64 a, .int .i64 b, .int .u32 m] w fun e w' => e = .returned (.int .i64 1) ∧ w = w' := by
  go_enter Try.func20, Try.ntmps20
  go_wp2
  go_ret
  exact ⟨rfl, rfl⟩
theorem all_nil (w : World) : Calls Try.prog 13 #[.pointer none] w fun e w' => e = .returned (.slice none 0 0) ∧ w = w' := by
  go_enter Try.func13, Try.ntmps13
  go_wp2
  go_ret
  exact ⟨rfl, rfl⟩
theorem take_nil (a : Int) (w : World) : Calls Try.prog 17 #[.pointer none, .int .i64 a] w fun e w' => e = .returned (.tuple #[.agg #[.int .u32 0, .int .i64 0, .string ⟨#[]⟩], .int .i64 1]) ∧ w' = w.alloc (.cells #[.int .u32 (0 : Int), .int .i64 0, .string ⟨#[]⟩] 35) := by
  go_enter Try.func17, Try.ntmps17
  go_wp2
  refine bodyPost_ret (v := .tuple #[noteV nt0, .int .i64 1]) ?_ rfl ⟨rfl, rfl⟩
  rw [results_cell_tmp rfl]
  have hld := load_note _ w.heap.size nt0 (World.alloc_heap_new w (.cells #[.int .u32 (0 : Int), .int .i64 0, .string ⟨#[]⟩] 35))
  simp [asAddr, Result.andThen, hld]
theorem drop_nil (a : Int) (w : World) : Calls Try.prog 16 #[.pointer none, .int .i64 a] w fun e w' => e = .returned (.int .i64 1) ∧ Below w.heap.size w w' := by
  go_enter Try.func16, Try.ntmps16
  go_wp2_with (go_at_call 17; refine (take_nil _ _).mono ?_; rintro e w1 ⟨rfl, rfl⟩)
  go_ret
  exact ⟨rfl, ((Below.refl _ w).alloc (Nat.le_refl _) _).alloc (by simp) _⟩
theorem oldest_nil (a : Int) (w : World) : Calls Try.prog 19 #[.pointer none, .int .i64 a] w fun e w' => e = .returned (.int .i64 (-1)) ∧ Below w.heap.size w w' := by
  refine calls_marksP Try.func19 rfl ?_
  simp only [Try.ntmps19, List.size_toArray, List.length_cons, List.length_nil, Nat.reduceAdd, Nat.reduceSub, Array.replicate_succ, Array.replicate_zero, List.push_toArray, List.append_toArray, List.nil_append, List.cons_append]
  go_wp2
  go_step3
  go_wp2
  rw [Exit.noGoto_ret]
  refine leaves_plain1 rfl ?_
  exact ⟨rfl, (Below.refl _ w).alloc (Nat.le_refl _) _⟩

/-- An act, as an argument. -/
structure Ac where
  d : Int
  a : Int
  b : Int
  m : Nat
  s : ByteArray
def Ac.ok (x : Ac) : Prop := (-9223372036854775808 ≤ x.d ∧ x.d ≤ 9223372036854775807) ∧ (-9223372036854775808 ≤ x.a ∧ x.a ≤ 9223372036854775807) ∧ (-9223372036854775808 ≤ x.b ∧ x.b ≤ 9223372036854775807) ∧ x.m < 4294967296 ∧ x.s.size ≤ maxLen
def cellsA (x : Ac) : List Value := [.int .i64 x.d, .int .i64 x.a, .int .i64 x.b, .int .u32 (x.m : Int), .string x.s]

/-- A slice of acts, as an argument. -/
def ActsAt (w : World) (A : Option Addr) (n : Nat) (xs : List Ac) : Prop :=
  xs.length = n ∧ (∀ x ∈ xs, x.ok) ∧ (0 < n → ∃ a, A = some a ∧ a.block < w.heap.size ∧ ∀ i (hi : i < xs.length), ∀ j u, (cellsA xs[i])[j]? = some u → w.cell? ((a.add (i * 5)).add j) = some u)
theorem ActsAt.below {w w' : World} {A : Option Addr} {n : Nat} {xs : List Ac} (h : ActsAt w A n xs) (hb : Below w.heap.size w w') : ActsAt w' A n xs := by
  refine ⟨h.1, h.2.1, fun hn => ?_⟩
  obtain ⟨a, e, hl, hc⟩ := h.2.2 hn
  refine ⟨a, e, Nat.lt_of_lt_of_le hl hb.size, fun i hi j u hu => (hb.cell ?_).trans (hc i hi j u hu)⟩
  have hadd : ∀ (p : Addr) (k : Nat), (p.add k).block = p.block := fun p k => by unfold Addr.add; split <;> rfl
  rw [hadd, hadd]; exact hl

section
open Go.ChangeShapes Go.WideShapes Go.Deep
theorem rng64 {n : Int} (h : (Lit.int .i64 n).wf = true) : -9223372036854775808 ≤ n ∧ n ≤ 9223372036854775807 := by
  simp [Lit.wf, IntKind.min, IntKind.max, IntKind.signed, IntKind.bits] at h; omega
theorem rng32 {n : Int} (h : (Lit.int .u32 n).wf = true) : ∃ m : Nat, n = (m : Int) ∧ m < 4294967296 := by
  simp [Lit.wf, IntKind.min, IntKind.max, IntKind.signed, IntKind.bits] at h; exact ⟨n.toNat, by omega, by omega⟩
theorem act_one : oneCellFields Try.prog (Try.prog.fieldsOf 38) = true := by kernel_rfl
variable {H : Type} {enc : TypeId × Value → H} {w : World} {base : Nat} {spare : Nat → Bool} {held : Bool}
theorem open_act {r : Reach} {b0 : Nat} {v : Value} {d : DataW H} {p : List MemPlace} (hv : Value.okWide Try.prog w r b0 38 v) (h : DataW.Trod enc Try.prog w base spare held 38 v d p) :
    ∃ x : Ac, v = .agg #[.int .i64 x.d, .int .i64 x.a, .int .i64 x.b, .int .u32 (x.m : Int), .string x.s] ∧ x.ok := by
  obtain ⟨v0, v1, v2, v3, v4, y0, y1, y2, y3, y4, n, rfl, _, _, h0, h1, h2, h3, h4⟩ := open_agg5 Try.underlying38 (by kernel_rfl) (by kernel_rfl) hv h
  obtain ⟨n0, e0, _, w0⟩ := DataW.trod_int Try.underlying3 h0
  obtain ⟨n1, e1, _, w1⟩ := DataW.trod_int Try.underlying3 h1
  obtain ⟨n2, e2, _, w2⟩ := DataW.trod_int Try.underlying3 h2
  obtain ⟨n3, e3, _, w3⟩ := DataW.trod_int Try.underlying26 h3
  obtain ⟨s4, e4, _, w4⟩ := DataW.trod_string Try.underlying9 h4
  obtain ⟨m3, rfl, b3⟩ := rng32 w3
  cases e0; cases e1; cases e2; cases e3; cases e4
  exact ⟨⟨n0, n1, n2, m3, s4⟩, rfl, rng64 w0, rng64 w1, rng64 w2, b3, w4⟩
theorem open_acts {A : Option Addr} {l c : Nat} {d : DataW H} {p : List MemPlace} (h : DataW.Trod enc Try.prog w base (fun _ => true) held 33 (.slice A l c) d p) : ∃ xs, ActsAt w A l xs := by
  obtain ⟨fuel, hf⟩ := h
  rcases open_slice_fields Try.underlying33 Try.underlying38 (by kernel_rfl) (by kernel_rfl) hf with ⟨h0, _⟩ | ⟨a, len, cap, m, D, Pl, hcs, hb, hl, hm, hmm, hx, hi⟩
  · cases h0
    exact ⟨[], rfl, fun x hx => by simp at hx, fun h => absurd h (by omega)⟩
  · cases hcs
    have hP : ∀ i, i < l → ∃ x : Ac, x.ok ∧ a.block < w.heap.size ∧ ∀ j u, (cellsA x)[j]? = some u → w.cell? ((a.add (i * 5)).add j) = some u := by
      intro i hil
      obtain ⟨ys, n, _, _, _, hf⟩ := hi i (by rw [hmm]; simp; omega)
      obtain ⟨v0, y0, c0, _, t0⟩ := hf 0 _ rfl
      obtain ⟨v1, y1, c1, _, t1⟩ := hf 1 _ rfl
      obtain ⟨v2, y2, c2, _, t2⟩ := hf 2 _ rfl
      obtain ⟨v3, y3, c3, _, t3⟩ := hf 3 _ rfl
      obtain ⟨v4, y4, c4, _, t4⟩ := hf 4 _ rfl
      obtain ⟨n0, e0, _, w0⟩ := DataW.trod_int Try.underlying3 t0
      obtain ⟨n1, e1, _, w1⟩ := DataW.trod_int Try.underlying3 t1
      obtain ⟨n2, e2, _, w2⟩ := DataW.trod_int Try.underlying3 t2
      obtain ⟨n3, e3, _, w3⟩ := DataW.trod_int Try.underlying26 t3
      obtain ⟨s4, e4, _, w4⟩ := DataW.trod_string Try.underlying9 t4
      obtain ⟨m3, rfl, b3⟩ := rng32 w3
      cases e0; cases e1; cases e2; cases e3; cases e4
      refine ⟨⟨n0, n1, n2, m3, s4⟩, ⟨rng64 w0, rng64 w1, rng64 w2, b3, w4⟩, ?_, ?_⟩
      · have hadd : ∀ (p : Addr) (k : Nat), (p.add k).block = p.block := fun p k => by unfold Addr.add; split <;> rfl
        have := World.block_lt_of_cell? w _ c0
        rwa [hadd] at this
      · intro j u hu
        match j, hu with
        | 0, hu => cases hu; exact (by rw [add_add]; exact c0)
        | 1, hu => cases hu; exact (by rw [add_add]; exact c1)
        | 2, hu => cases hu; exact (by rw [add_add]; exact c2)
        | 3, hu => cases hu; exact (by rw [add_add]; exact c3)
        | 4, hu => cases hu; exact (by rw [add_add]; exact c4)
    obtain ⟨xs, hlen, hall⟩ := list_of l hP
    refine ⟨xs, hlen, fun x hx => ?_, fun hn => ⟨a, rfl, (hall 0 (by omega)).2.1, fun i hi => (hall i hi).2.2⟩⟩
    obtain ⟨i, hi, rfl⟩ := List.mem_iff_getElem.1 hx
    exact (hall i hi).1
end

set_option maxRecDepth 100000 in
set_option maxHeartbeats 2000000 in
theorem flightNone_walk (x : Ac) (w : World) :
    Calls Try.prog 9 #[.agg #[.int .i64 x.d, .int .i64 x.a, .int .i64 x.b, .int .u32 (x.m : Int), .string x.s]] w fun e w' => e = .returned (.bool true) ∧ Below w.heap.size w w' := by
  go_enter Try.func9, Try.ntmps9
  go_wp2_with fail
  refine (shown_any _).mono ?_
  rintro e W1 ⟨rfl, h1⟩
  have hb := obj_below (World.alloc_heap_new w (.cells #[.int .i64 x.d, .int .i64 x.a, .int .i64 x.b, .int .u32 (x.m : Int), .string x.s] 38)) h1 (by simp)
  have k1 : W1.cell? ⟨w.heap.size, 1, none⟩ = some (.int .i64 x.a) := cell_row hb 1
  have k2 : W1.cell? ⟨w.heap.size, 2, none⟩ = some (.int .i64 x.b) := cell_row hb 2
  have k3 : W1.cell? ⟨w.heap.size, 3, none⟩ = some (.int .u32 (x.m : Int)) := cell_row hb 3
  have k4 : W1.cell? ⟨w.heap.size, 4, none⟩ = some (.string x.s) := cell_row hb 4
  have hlt := obj_lt hb
  have HB := Lib.hid (((Below.refl _ w).alloc (Nat.le_refl _) _).trans (h1.mono (by simp)))
  clear hb h1
  go_wp2_with (first
    | (go_at_call 12; refine (send_nil _ _ _).mono ?_; rintro e w2 ⟨rfl, rfl⟩)
    | (go_at_call 17; refine (take_nil _ _).mono ?_; rintro e w2 ⟨rfl, rfl⟩)
    | (go_at_call 14; refine (copy_nil _ _).mono ?_; rintro e w2 ⟨rfl, rfl⟩))
  refine (drop_nil _ _).mono ?_
  rintro e W2 ⟨rfl, h2⟩
  have j1 : W2.cell? ⟨w.heap.size, 1, none⟩ = some (.int .i64 x.a) := by rw [(bcell h2).1 _ _ (by simp; omega)]; rw [World.cell?_alloc_lt _ _ _ (by simp; omega), World.cell?_alloc_lt _ _ _ hlt]; exact k1
  have j2 : W2.cell? ⟨w.heap.size, 2, none⟩ = some (.int .i64 x.b) := by rw [(bcell h2).1 _ _ (by simp; omega)]; rw [World.cell?_alloc_lt _ _ _ (by simp; omega), World.cell?_alloc_lt _ _ _ hlt]; exact k2
  have j3 : W2.cell? ⟨w.heap.size, 3, none⟩ = some (.int .u32 (x.m : Int)) := by rw [(bcell h2).1 _ _ (by simp; omega)]; rw [World.cell?_alloc_lt _ _ _ (by simp; omega), World.cell?_alloc_lt _ _ _ hlt]; exact k3
  have HB2 := Lib.hid (((HB.out.alloc (by omega) (.cells #[.int .u32 (0 : Int), .int .i64 0, .string ⟨#[]⟩] 35)).alloc (by simp; omega) (.cells #[.int .u32 (0 : Int), .int .i64 0, .string ⟨#[]⟩] 35)).trans (h2.mono (by simp; omega)))
  clear k1 k2 k3 k4 h2
  go_wp2_with (first
    | (go_at_call 20; refine (hurt_nil _ _ _ _).mono ?_; rintro e w2 ⟨rfl, rfl⟩)
    | (go_at_call 19; refine (oldest_nil _ _).mono ?_; rintro e W3 ⟨rfl, h3⟩)
    | (go_at_call 13; refine (all_nil _).mono ?_; rintro e w4 ⟨rfl, rfl⟩))
  go_ret
  exact ⟨rfl, HB2.out.trans (h3.mono HB2.out.size)⟩
end Go.Proofs.Ytlfbmicpaacbnaa
