/-
  Slices as arguments: a slice that reads as a list of cells ('ArgAt'), opened at elements of one cell and at structs of one-cell fields. Conditions: none.
-/
import Derived.Test.YtcfaeddjohpohaaOpen
import Derived.Test.YtcfaeddjohpohaaObj
namespace Ros
open Go Go.Joins Go.ChangeShapes Go.WideShapes Go.RowKit Go.Deep

section
variable {α : Type} {f : α → List Value} {k : Nat}
theorem flat_length (h : ∀ x, (f x).length = k) (l : List α) : (l.flatMap f).length = l.length * k := by
  induction l with
  | nil => simp
  | cons a t ih => simp only [List.flatMap_cons, List.length_append, ih, h, List.length_cons, Nat.add_mul]; omega
theorem flat_at (h : ∀ x, (f x).length = k) (l : List α) (i j : Nat) (hi : i < l.length) (hj : j < k) : (l.flatMap f)[i * k + j]? = (f l[i])[j]? := by
  induction l generalizing i with
  | nil => simp at hi
  | cons a t ih =>
    cases i with
    | zero => rw [List.flatMap_cons, Nat.zero_mul, Nat.zero_add, List.getElem?_append_left (by rw [h]; exact hj)]; rfl
    | succ i =>
      have := ih i (by simpa using hi)
      rw [List.flatMap_cons, List.getElem?_append_right (by rw [h, Nat.add_mul]; omega), h, show (i + 1) * k + j - k = i * k + j by rw [Nat.add_mul]; omega, this]
      rfl
theorem flat_take (h : ∀ x, (f x).length = k) (l : List α) (n : Nat) : (l.flatMap f).take (n * k) = (l.take n).flatMap f := by
  induction l generalizing n with
  | nil => simp
  | cons a t ih =>
    cases n with
    | zero => simp
    | succ n => rw [List.flatMap_cons, List.take_append, h, List.take_of_length_le (by rw [h, Nat.add_mul]; omega), show (n + 1) * k - k = n * k by rw [Nat.add_mul]; omega, ih, List.take_succ_cons, List.flatMap_cons]
theorem flat_drop (h : ∀ x, (f x).length = k) (l : List α) (n : Nat) : (l.flatMap f).drop (n * k) = (l.drop n).flatMap f := by
  induction l generalizing n with
  | nil => simp
  | cons a t ih =>
    cases n with
    | zero => simp
    | succ n => rw [List.flatMap_cons, List.drop_append, h, List.drop_of_length_le (by rw [h, Nat.add_mul]; omega), show (n + 1) * k - k = n * k by rw [Nat.add_mul]; omega, ih, List.drop_succ_cons, List.nil_append]
/-- The cells of a place, out of those of each element. -/
theorem flat_split (h : ∀ x, (f x).length = k) (l : List α) (p : Nat) (u : Value) (hu : (l.flatMap f)[p]? = some u) : ∃ i j, ∃ hi : i < l.length, p = i * k + j ∧ j < k ∧ (f l[i])[j]? = some u := by
  have hp : p < l.length * k := by rw [← flat_length h l]; exact (List.getElem?_eq_some_iff.1 hu).1
  have hk : 0 < k := by rcases Nat.eq_zero_or_pos k with e | e; · subst e; simp at hp
                        · exact e
  have h1 : p / k < l.length := by rw [Nat.div_lt_iff_lt_mul hk]; exact hp
  have h2 := Nat.mod_lt p hk
  have h3 : p = p / k * k + p % k := by have := Nat.div_add_mod p k; rw [Nat.mul_comm] at this; exact this.symm
  refine ⟨p / k, p % k, h1, h3, h2, ?_⟩
  rw [← flat_at h l _ _ h1 h2, ← h3, hu]
end

theorem add_block (p : Addr) (k : Nat) : (p.add k).block = p.block := by unfold Addr.add; split <;> rfl
theorem add_pos' (p : Addr) (j : Nat) (h : 0 < j) : p.add j = ⟨p.block, p.off + j, none⟩ := by unfold Addr.add; rw [if_neg (by omega)]

/-- A slice as an argument: n elements of 'size' cells each. -/
def ArgAt (w : World) (size : Nat) (A : Option Addr) (n : Nat) (xs : List Value) : Prop :=
  xs.length = n * size ∧ (0 < n → ∃ a, A = some a ∧ a.block < w.heap.size ∧ ∀ j u, xs[j]? = some u → w.cell? (a.add j) = some u)
section
variable {w w' : World} {size n : Nat} {A : Option Addr} {xs : List Value}
theorem ArgAt.below (h : ArgAt w size A n xs) (hb : Below w.heap.size w w') : ArgAt w' size A n xs := by
  refine ⟨h.1, fun hn => ?_⟩
  obtain ⟨a, e, hl, hc⟩ := h.2 hn
  exact ⟨a, e, Nat.lt_of_lt_of_le hl hb.size, fun j u hu => (hb.cell (by rw [add_block]; exact hl)).trans (hc j u hu)⟩
theorem ArgAt.alloc (h : ArgAt w size A n xs) (o : Obj) : ArgAt (w.alloc o) size A n xs := h.below ((Below.refl _ w).alloc (Nat.le_refl _) o)
theorem ArgAt.drew (h : ArgAt w size A n xs) : ArgAt w.drew size A n xs := h
theorem ArgAt.src {P : Program} {t e : TypeId} {c : Nat} (ht : P.underlying t = some (.slice e)) (h : ArgAt w size A n xs) (hn : 0 < n) (h1 : ∀ u ∈ xs, u.oneCell' = true) : Src P size t (.slice A n c) n xs w := by
  obtain ⟨a, rfl, _, hc⟩ := h.2 hn
  exact Src.ofSlice w ht _ n c _ h.1 hc h1
theorem ArgAt.of_row {e : TypeId} {c : Nat} (h : Row w e size (.slice A n c) n xs) : ArgAt w size A n xs := by
  refine ⟨h.1, fun hn => ?_⟩
  obtain ⟨g, cap, hv, _, _, hg, hc, _⟩ := h.some_ hn
  cases hv
  exact ⟨_, rfl, hg, fun j u hu => by rw [addr_add, Nat.zero_add]; exact hc j u hu⟩
theorem ArgAt.nil : ArgAt w size A 0 [] := ⟨by simp, fun h => absurd h (by omega)⟩
theorem ArgAt.take_ (h : ArgAt w size A n xs) {k : Nat} (hk : k ≤ n) : ArgAt w size A k (xs.take (k * size)) := by
  refine ⟨by rw [List.length_take, h.1]; exact Nat.min_eq_left (Nat.mul_le_mul_right _ hk), fun hn => ?_⟩
  obtain ⟨a, e, hb, hc⟩ := h.2 (by omega)
  refine ⟨a, e, hb, fun j u hu => hc j u ?_⟩
  rw [List.getElem?_take] at hu
  split at hu
  · exact hu
  · cases hu
theorem ArgAt.drop_ (h : ArgAt w size A n xs) {k c : Nat} (hk : k ≤ n) (hc : n ≤ c) : ArgAt w size (if c = k then A else A.map (·.add (k * size))) (n - k) (xs.drop (k * size)) := by
  refine ⟨by rw [List.length_drop, h.1, Nat.sub_mul], fun hn => ?_⟩
  obtain ⟨a, rfl, hb, hcell⟩ := h.2 (by omega)
  rw [if_neg (by omega)]
  refine ⟨a.add (k * size), rfl, by rw [add_block]; exact hb, fun j u hu => ?_⟩
  rw [add_add]
  exact hcell _ u (by rw [← hu, List.getElem?_drop])
theorem ArgAt.keep (h : ArgAt w size A n xs) (hs : w.heap.size ≤ w'.heap.size) (hk : ∀ a, A = some a → 0 < n → w'.heap[a.block]? = w.heap[a.block]?) : ArgAt w' size A n xs := by
  refine ⟨h.1, fun hn => ?_⟩
  obtain ⟨a, e, hb, hc⟩ := h.2 hn
  exact ⟨a, e, Nat.lt_of_lt_of_le hb hs, fun j u hu => (World.cell?_of_block (a := a.add j) (by rw [add_block]; exact hk a e hn)).trans (hc j u hu)⟩
/-- An element of one cell. -/
theorem ArgAt.one {α : Type} {f : α → Value} {l : List α} (h : ArgAt w 1 A n (l.map f)) (k : Nat) (hk : k < n) : ∃ (a : Addr) (hl : k < l.length), A = some a ∧ a.block < w.heap.size ∧ w.cell? (a.add k) = some (f l[k]) := by
  obtain ⟨a, e, hb, hc⟩ := h.2 (by omega)
  have hl : k < l.length := by have := h.1; simp at this; omega
  exact ⟨a, hl, e, hb, hc k _ (by simp [hl])⟩
/-- The cells of an element of more. -/
theorem ArgAt.at_ {α : Type} {f : α → List Value} {l : List α} (h : ArgAt w size A n (l.flatMap f)) (hf : ∀ x, (f x).length = size) (h0 : 0 < size) (k : Nat) (hk : k < n) :
    ∃ (a : Addr) (hl : k < l.length), A = some a ∧ a.block < w.heap.size ∧ ∀ j u, j < size → (f l[k])[j]? = some u → w.cell? ((a.add (k * size)).add j) = some u := by
  obtain ⟨a, e, hb, hc⟩ := h.2 (by omega)
  have hl : k < l.length := by
    have := h.1
    rw [flat_length hf] at this
    rw [Nat.eq_of_mul_eq_mul_right h0 this]; exact hk
  refine ⟨a, hl, e, hb, fun j u hj hu => ?_⟩
  rw [add_add]
  exact hc _ u (by rw [flat_at hf l k j hl hj]; exact hu)
end

section
variable {H : Type} {enc : TypeId × Value → H} {P : Program} {w : World} {base : Nat} {spare : Nat → Bool} {held : Bool}
theorem open_arg1 {α : Type} (f : α → Value) (ok : α → Prop) {t e : TypeId} {A : Option Addr} {l c : Nat} {d : DataW H} {p : List MemPlace} (ht : P.underlying t = some (.slice e)) (hc : P.cellsOf e = 1)
    (hel : ∀ (n : Nat) (v : Value) (y : DataW H × List MemPlace), DataW.trod enc P w base (fun _ => true) held n e [v] = some y → ∃ x, v = f x ∧ ok x)
    (h : DataW.Trod enc P w base (fun _ => true) held t (.slice A l c) d p) : ∃ xs : List α, xs.length = l ∧ ArgAt w 1 A l (xs.map f) ∧ (∀ x ∈ xs, ok x) ∧ l ≤ c ∧ c ≤ maxLen := by
  obtain ⟨fuel, hf⟩ := h
  rcases open_slice ht hf with ⟨h0, _⟩ | ⟨a, len, cap, m, n, D, Pl, hcs, hb, hl, hm, hmm, hx, hi⟩
  · cases h0
    exact ⟨[], rfl, ⟨rfl, fun h => absurd h (by omega)⟩, fun x hx => by simp at hx, Nat.le_refl _, by simp [maxLen]⟩
  · cases hcs
    have hP : ∀ i, i < l → ∃ x : α, ok x ∧ a.block < w.heap.size ∧ w.cell? (a.add i) = some (f x) := by
      intro i hil
      obtain ⟨cs', hcc, htr⟩ := hi i (by rw [hmm]; simp; omega)
      rw [hc] at hcc
      obtain ⟨_, hcl, hat⟩ := World.cells?_some hcc
      match cs', hcl with
      | [v], _ =>
        obtain ⟨x, rfl, hok⟩ := hel n v _ htr
        have hcell := hat (i := 0) (by omega)
        rw [Nat.mul_one] at hcell
        have hcell' : w.cell? (a.add i) = some (f x) := by rw [add_add] at hcell; simpa using hcell
        have := World.block_lt_of_cell? w _ hcell'
        rw [add_block] at this
        exact ⟨x, hok, this, hcell'⟩
    obtain ⟨xs, hlen, hall⟩ := list_of l hP
    refine ⟨xs, hlen, ⟨by simp [hlen], fun hn => ⟨a, rfl, (hall 0 (by omega)).2.1, fun j u hu => ?_⟩⟩, fun x hx => ?_, hl, hm⟩
    · rw [List.getElem?_map] at hu
      obtain ⟨x, hx, rfl⟩ := Option.map_eq_some_iff.1 hu
      obtain ⟨hj, rfl⟩ := List.getElem?_eq_some_iff.1 hx
      exact (hall j hj).2.2
    · obtain ⟨i, hi, rfl⟩ := List.mem_iff_getElem.1 hx
      exact (hall i hi).1
theorem open_argN {α : Type} (f : α → List Value) (ok : α → Prop) {t e : TypeId} {fs : Array Field} {A : Option Addr} {l c : Nat} {d : DataW H} {p : List MemPlace} (ht : P.underlying t = some (.slice e)) (he : P.underlying e = some (.struct fs))
    (hone : oneCellFields P fs = true) (hC : P.cellsOf e = fs.size) (hlenf : ∀ x, (f x).length = fs.size)
    (hel : ∀ vs : List Value, vs.length = fs.size → (∀ (j : Nat) (g : Field) (v : Value), fs[j]? = some g → vs[j]? = some v → ∃ (n : Nat) (y : DataW H × List MemPlace), DataW.trod enc P w base (fun _ => true) held n g.type [v] = some y) → ∃ x, f x = vs ∧ ok x)
    (h0 : 0 < fs.size) (h : DataW.Trod enc P w base (fun _ => true) held t (.slice A l c) d p) : ∃ xs : List α, xs.length = l ∧ ArgAt w fs.size A l (xs.flatMap f) ∧ (∀ x ∈ xs, ok x) ∧ l ≤ c ∧ c ≤ maxLen := by
  obtain ⟨fuel, hf⟩ := h
  rcases open_slice_fields ht he hone hC hf with ⟨h0, _⟩ | ⟨a, len, cap, m, D, Pl, hcs, hb, hl, hm, hmm, hx, hi⟩
  · cases h0
    exact ⟨[], rfl, ⟨by simp, fun h => absurd h (by omega)⟩, fun x hx => by simp at hx, Nat.le_refl _, by simp [maxLen]⟩
  · cases hcs
    have hP : ∀ i, i < l → ∃ x : α, ok x ∧ a.block < w.heap.size ∧ ∀ j u, (f x)[j]? = some u → w.cell? ((a.add (i * fs.size)).add j) = some u := by
      intro i hil
      obtain ⟨ys, n, _, _, hyl, hff⟩ := hi i (by rw [hmm]; simp; omega)
      have hV : ∀ j, j < fs.size → ∃ v : Value, w.cell? (a.add (i * fs.size + j)) = some v ∧ ∀ g, fs[j]? = some g → ∃ (n : Nat) (y : DataW H × List MemPlace), DataW.trod enc P w base (fun _ => true) held n g.type [v] = some y := by
        intro j hj
        have hg : fs[j]? = some fs[j] := by simp [hj]
        obtain ⟨v, y, c0, _, t0⟩ := hff j _ hg
        exact ⟨v, c0, fun g hg' => ⟨n, y, by rw [hg] at hg'; cases hg'; exact t0⟩⟩
      obtain ⟨vs, hvl, hva⟩ := list_of fs.size hV
      obtain ⟨x, hx, hok⟩ := hel vs hvl fun j g v hg hv => by
        obtain ⟨hj, rfl⟩ := List.getElem?_eq_some_iff.1 hv
        exact (hva j hj).2 g hg
      refine ⟨x, hok, ?_, fun j u hu => ?_⟩
      · have := World.block_lt_of_cell? w _ (hva 0 (by omega)).1
        rwa [add_block] at this
      · rw [hx] at hu
        obtain ⟨hj, rfl⟩ := List.getElem?_eq_some_iff.1 hu
        rw [add_add]
        exact (hva j hj).1
    obtain ⟨xs, hlen, hall⟩ := list_of l hP
    refine ⟨xs, hlen, ⟨by rw [flat_length hlenf, hlen], fun hn => ⟨a, rfl, (hall 0 (by omega)).2.1, fun p u hu => ?_⟩⟩, fun x hx => ?_, hl, hm⟩
    · obtain ⟨i, j, hi', rfl, hj, hu'⟩ := flat_split hlenf xs p u hu
      rw [← add_add]
      exact (hall i hi').2.2 j u hu'
    · obtain ⟨i, hi, rfl⟩ := List.mem_iff_getElem.1 hx
      exact (hall i hi).1
theorem rng64' {n : Int} (h : (Lit.int .i64 n).wf = true) : -9223372036854775808 ≤ n ∧ n ≤ 9223372036854775807 := by
  simp [Lit.wf, IntKind.min, IntKind.max, IntKind.signed, IntKind.bits] at h; omega
theorem rngu32 {n : Int} (h : (Lit.int .u32 n).wf = true) : ∃ m : Nat, n = (m : Int) ∧ m < 4294967296 := by
  simp [Lit.wf, IntKind.min, IntKind.max, IntKind.signed, IntKind.bits] at h; exact ⟨n.toNat, by omega, by omega⟩
theorem rngu64 {n : Int} (h : (Lit.int .u64 n).wf = true) : ∃ m : Nat, n = (m : Int) ∧ m < 18446744073709551616 := by
  simp [Lit.wf, IntKind.min, IntKind.max, IntKind.signed, IntKind.bits] at h; exact ⟨n.toNat, by omega, by omega⟩
/-- Slices of ints, of numbers of 64 bits, of bools, of strings. -/
theorem open_argI {t e : TypeId} {A : Option Addr} {l c : Nat} {d : DataW H} {p : List MemPlace} (ht : P.underlying t = some (.slice e)) (he : P.underlying e = some (.int .i64)) (hc : P.cellsOf e = 1)
    (h : DataW.Trod enc P w base (fun _ => true) held t (.slice A l c) d p) : ∃ xs : List Int, xs.length = l ∧ ArgAt w 1 A l (xs.map (Value.int .i64)) ∧ (∀ x ∈ xs, -9223372036854775808 ≤ x ∧ x ≤ 9223372036854775807) ∧ l ≤ c ∧ c ≤ maxLen :=
  open_arg1 _ _ ht hc (fun n v y hv => by obtain ⟨x, e0, _, w0⟩ := DataW.trod_int he hv; cases e0; exact ⟨x, rfl, rng64' w0⟩) h
theorem open_argU {t e : TypeId} {A : Option Addr} {l c : Nat} {d : DataW H} {p : List MemPlace} (ht : P.underlying t = some (.slice e)) (he : P.underlying e = some (.int .u64)) (hc : P.cellsOf e = 1)
    (h : DataW.Trod enc P w base (fun _ => true) held t (.slice A l c) d p) : ∃ xs : List Nat, xs.length = l ∧ ArgAt w 1 A l (xs.map (fun x : Nat => Value.int .u64 (x : Int))) ∧ (∀ x ∈ xs, x < 18446744073709551616) ∧ l ≤ c ∧ c ≤ maxLen :=
  open_arg1 _ _ ht hc (fun n v y hv => by obtain ⟨x, e0, _, w0⟩ := DataW.trod_int he hv; obtain ⟨m, rfl, hm⟩ := rngu64 w0; cases e0; exact ⟨m, rfl, hm⟩) h
theorem open_argB {t e : TypeId} {A : Option Addr} {l c : Nat} {d : DataW H} {p : List MemPlace} (ht : P.underlying t = some (.slice e)) (he : P.underlying e = some .bool) (hc : P.cellsOf e = 1)
    (h : DataW.Trod enc P w base (fun _ => true) held t (.slice A l c) d p) : ∃ xs : List Bool, xs.length = l ∧ ArgAt w 1 A l (xs.map Value.bool) ∧ (∀ x ∈ xs, True) ∧ l ≤ c ∧ c ≤ maxLen :=
  open_arg1 _ _ ht hc (fun n v y hv => by obtain ⟨x, e0, _⟩ := DataW.trod_bool he hv; cases e0; exact ⟨x, rfl, trivial⟩) h
theorem open_argS {t e : TypeId} {A : Option Addr} {l c : Nat} {d : DataW H} {p : List MemPlace} (ht : P.underlying t = some (.slice e)) (he : P.underlying e = some .string) (hc : P.cellsOf e = 1)
    (h : DataW.Trod enc P w base (fun _ => true) held t (.slice A l c) d p) : ∃ xs : List ByteArray, xs.length = l ∧ ArgAt w 1 A l (xs.map Value.string) ∧ (∀ x ∈ xs, x.size ≤ maxLen) ∧ l ≤ c ∧ c ≤ maxLen :=
  open_arg1 _ _ ht hc (fun n v y hv => by obtain ⟨x, e0, _, w0⟩ := DataW.trod_string he hv; cases e0; exact ⟨x, rfl, w0⟩) h
end
end Ros
