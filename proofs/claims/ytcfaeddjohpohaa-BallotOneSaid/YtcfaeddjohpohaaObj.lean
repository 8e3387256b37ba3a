/-
  Objects in memory: a slice that is known whole ('Row'), append onto it, and steps that turn an object's own blocks alone ('Turn'). Conditions: none.
-/
import Derived.WalkKit
import Derived.OwnWalk
import Derived.RegionTactic
import Derived.Maps.AppendAt
import Derived.Deep.AppendSrc
import Derived.Deep.AppendLies
import Derived.Laws.Cover3
import Derived.Test.YtcfaeddjohpohaaStr
namespace Ros
open Go Go.RowKit

/-- The slice v has n elements, its cells are xs; its block is its own from the first cell on. -/
def Row (w : World) (e : TypeId) (size : Nat) (v : Value) (n : Nat) (xs : List Value) : Prop :=
  xs.length = n * size ∧ ((v = .slice none 0 0 ∧ n = 0) ∨
    ∃ g cap cur, v = .slice (some ⟨g, 0, none⟩) n cap ∧ w.heap[g]? = some (.cells cur e (0, 0)) ∧ n ≤ cap ∧ cap ≤ maxLen ∧ cap * size ≤ cur.size ∧ cur.toList.take (n * size) = xs)

section
variable {w w' : World} {e : TypeId} {size n : Nat} {v : Value} {xs : List Value}

theorem Row.nil (w : World) (e : TypeId) (size : Nat) : Row w e size (.slice none 0 0) 0 [] := ⟨by simp, .inl ⟨rfl, rfl⟩⟩
theorem Row.of_own {base : Nat} (h : w.ownsRow base e size v n xs) : Row w e size v n xs := by
  refine ⟨h.1, ?_⟩
  rcases h.2 with h0 | ⟨g, cap, cur, hv, _, hg, h1, h2, h3, h4⟩
  · exact .inl h0
  · exact .inr ⟨g, cap, cur, hv, hg, h1, h2, by omega, h4⟩
theorem Row.lt (h : Row w e size v n xs) {k : Nat} (hk : v.ownBlock = some k) : k < w.heap.size := by
  rcases h.2 with ⟨rfl, _⟩ | ⟨g, cap, cur, rfl, hg, _⟩
  · simp [Value.ownBlock] at hk
  · simp [Value.ownBlock] at hk
    subst hk
    exact (Array.getElem?_eq_some_iff.1 hg).1
theorem Row.keep (h : Row w e size v n xs) (hk : ∀ k, v.ownBlock = some k → w'.heap[k]? = w.heap[k]?) : Row w' e size v n xs := by
  refine ⟨h.1, ?_⟩
  rcases h.2 with h0 | ⟨g, cap, cur, rfl, hg, r⟩
  · exact .inl h0
  · exact .inr ⟨g, cap, cur, rfl, (hk g rfl).trans hg, r⟩
theorem Row.drew (h : Row w e size v n xs) : Row w.drew e size v n xs := h
theorem Row.alloc (h : Row w e size v n xs) (o : Obj) : Row (w.alloc o) e size v n xs := h.keep fun k hk => Below.heap_alloc w o k (h.lt hk)
theorem Row.below {B : Nat} (h : Row w e size v n xs) (hb : Below B w w') (hB : w.heap.size ≤ B) : Row w' e size v n xs := h.keep fun k hk => hb.block k (by have := h.lt hk; omega)
theorem Row.form (h : Row w e size v n xs) : ∃ A cap, v = .slice A n cap ∧ n ≤ cap ∧ cap ≤ maxLen := by
  rcases h.2 with ⟨rfl, rfl⟩ | ⟨g, cap, cur, rfl, hg, h1, h2, _⟩
  · exact ⟨none, 0, rfl, by omega, by simp [maxLen]⟩
  · exact ⟨_, cap, rfl, h1, h2⟩
theorem Row.some_ (h : Row w e size v n xs) (hn : 0 < n) : ∃ g cap, v = .slice (some ⟨g, 0, none⟩) n cap ∧ n ≤ cap ∧ cap ≤ maxLen ∧ g < w.heap.size ∧ (∀ j u, xs[j]? = some u → w.cell? ⟨g, j, none⟩ = some u) ∧ ∀ j, w.frozen? ⟨g, j, none⟩ = false := by
  rcases h.2 with ⟨_, h0⟩ | ⟨g, cap, cur, rfl, hg, h1, h2, h3, h4⟩
  · omega
  · refine ⟨g, cap, rfl, h1, h2, (Array.getElem?_eq_some_iff.1 hg).1, fun j u hu => ?_, fun j => by simp [World.frozen?, hg]⟩
    rw [cell_row hg]
    rw [← h4, List.getElem?_take] at hu
    split at hu
    · simpa using hu
    · cases hu
/-- A part of it as the source of an append. -/
theorem Row.cells (h : Row w e size v n xs) : ∀ a, (∃ c, v = .slice (some a) n c) → ∀ j u, xs[j]? = some u → w.cell? (a.add j) = some u := by
  rintro a ⟨c, hv⟩ j u hu
  rcases h.2 with ⟨rfl, _⟩ | ⟨g, cap, cur, rfl, hg, h1, h2, h3, h4⟩
  · cases hv
  · injection hv with hv
    injection hv with hv
    subst hv
    rw [addr_add, Nat.zero_add, cell_row hg]
    rw [← h4, List.getElem?_take] at hu
    split at hu
    · simpa using hu
    · cases hu
/-- A beginning of it, cut to its own capacity. -/
theorem Row.cut3 {A : Option Addr} {c k : Nat} (h : Row w e size (.slice A n c) n xs) (hk : k ≤ n) : Row w e size (.slice A k k) k (xs.take (k * size)) := by
  refine ⟨by rw [List.length_take, h.1]; exact Nat.min_eq_left (Nat.mul_le_mul_right _ hk), ?_⟩
  rcases h.2 with ⟨hv, rfl⟩ | ⟨g, cap, cur, hv, hg, h1, h2, h3, h4⟩
  · cases hv; exact .inl ⟨by have : k = 0 := by omega
                             rw [this], by omega⟩
  · injection hv with hA hl hc
    subst hA
    refine .inr ⟨g, k, cur, rfl, hg, Nat.le_refl _, by omega, Nat.le_trans (Nat.mul_le_mul_right _ (by omega)) h3, ?_⟩
    rw [← h4, List.take_take, Nat.min_eq_left (Nat.mul_le_mul_right _ hk)]
/-- A store into one of its cells. -/
theorem Row.set_ {g c j : Nat} (h : Row w e size (.slice (some ⟨g, 0, none⟩) n c) n xs) (hj : j < n * size) (u : Value) : Row (w.setCell ⟨g, j, none⟩ u) e size (.slice (some ⟨g, 0, none⟩) n c) n (xs.set j u) := by
  refine ⟨by rw [List.length_set]; exact h.1, ?_⟩
  rcases h.2 with ⟨hv, rfl⟩ | ⟨g', cap, cur, hv, hg, h1, h2, h3, h4⟩
  · cases hv
  · injection hv with hA hl hc
    injection hA with hA
    injection hA with hA
    subst hA
    subst hc
    refine .inr ⟨g, c, cur.setIfInBounds j u, rfl, ?_, h1, h2, by simpa using h3, ?_⟩
    · simp [World.setCell, Array.getElem?_modify, hg]
    · rw [Array.toList_setIfInBounds, ← h4, List.take_set]
end

section
variable {P : Program} (w : World)

theorem run_append_row (t tx ty e : TypeId) (i : TypeInfo) (z : Value) (size bytes : Nat) (ht : P.underlying t = some (.slice e)) (hi : P.info? e = some i) (hz : i.zero = some z)
    (hsize : i.size = size) (hby : i.bytes = bytes) (hzs : z.cells.size = size)
    (v : Value) (n : Nat) (xs : List Value) (hown : Row w e size v n xs)
    (x : Value) (m : Nat) (news : List Value) (hs : Src P size tx x m news w) (h63 : n + m ≤ maxLen) (hbytes : (n + m) * bytes ≤ 140737488355328) :
    ∃ v' w', (Builtin.append_ #[t, tx] ty #[v, x]).run P w = .ok v' w' ∧ Row w' e size v' (n + m) (xs ++ news) ∧ w.grownBy w' v.ownBlock ∧ (v'.ownBlock = v.ownBlock ∨ v'.ownBlock = some w.heap.size) := by
  subst hsize
  subst hby
  have hsmall : n + m ≤ 9223372036854775807 := by simp only [maxLen] at h63; omega
  have hlen : (xs ++ news).length = (n + m) * i.size := by rw [List.length_append, hown.1, hs.newsLen, Nat.add_mul]
  have grown : ∀ (A : Option Addr) (old : Nat), (Builtin.firstCells i.size n (.slice A n old)).run P w.drew = .ok xs.toArray w.drew → old < n + m → ∀ row : Option Nat,
      ∃ v' w', (Builtin.append_ #[t, tx] ty #[.slice A n old, x]).run P w = .ok v' w' ∧ Row w' e i.size v' (n + m) (xs ++ news) ∧ w.grownBy w' row ∧ v'.ownBlock = some w.heap.size := by
    intro A old hfc hg row
    have hge := grownCap_ge w (n + m) old e
    have hcm : grownCap w (n + m) old e ≤ maxLen := grownCap_le_maxLen w (n + m) old e h63
    have hr := run_append_grow_src (P := P) w t tx ty e i z ht hi hz A n old xs hfc x m news hs hg (by omega) (growslice_fits hg hbytes)
    refine ⟨_, _, hr, ⟨hlen, .inr ⟨w.heap.size, _, _, rfl, heap_alloc_new w.drew _, hge, hcm, ?_, ?_⟩⟩, ⟨rfl, rfl, rfl, by simp, fun k hk _ => Below.heap_alloc w.drew _ k hk⟩, rfl⟩
    · simp only [Array.size_append, List.size_toArray, size_zeroCells, hzs, hlen]
      rw [← Nat.add_mul]
      exact Nat.mul_le_mul_right _ (by omega)
    · simp only [Array.toList_append]
      rw [← hlen]
      exact List.take_left
  rcases hown.2 with ⟨rfl, rfl⟩ | ⟨g, cap, cur, rfl, hg, hnc, hcm, hcur, htake⟩
  · obtain rfl : xs = [] := List.eq_nil_of_length_eq_zero (by simpa using hown.1)
    rcases Nat.eq_zero_or_pos m with rfl | hm
    · obtain rfl : news = [] := List.eq_nil_of_length_eq_zero (by simpa using hs.newsLen)
      refine ⟨.slice none 0 0, w, ?_, Row.nil w e i.size, World.grownBy.refl w _, .inl rfl⟩
      have hcl := hs.cells
      rcases hs.kind with ⟨e', hk⟩ | hk <;> simp [Builtin.append_, run_underlying ht, run_underlying hk, Go.sizeOf, typeInfo, hi, hs.len, hcl]
    · obtain ⟨v', w', h1, h2, h3, h4⟩ := grown none 0 (run_firstCells_none w.drew i.size 0 0 0) (by omega) none
      exact ⟨v', w', h1, h2, h3, .inr h4⟩
  · by_cases hroom : n + m ≤ cap
    · have hle : (n + m) * i.size ≤ cur.size := Nat.le_trans (Nat.mul_le_mul_right _ hroom) hcur
      have hle' : n * i.size + news.length ≤ cur.size := by rw [hs.newsLen, ← Nat.add_mul]; exact hle
      have hst := run_storeCells_at P g (n * i.size) e news 0 cur w hg (by simpa using hle') hs.one
      simp only [Nat.add_zero] at hst
      refine ⟨.slice (some ⟨g, 0, none⟩) (n + m) cap, w.setRow g (cur.toList.take (n * i.size) ++ news ++ cur.toList.drop (n * i.size + news.length)).toArray, ?_, ⟨hlen, .inr ⟨g, cap, _, rfl, setRow_heap w g cur _ e _ hg, hroom, hcm, ?_, ?_⟩⟩, ⟨rfl, rfl, rfl, by simp [World.setRow], fun k _ hk => setRow_other w g k _ (fun e => hk (by simp [Value.ownBlock, e]))⟩, .inl rfl⟩
      · rcases hs.kind with ⟨e', hk⟩ | hk <;> simp [Builtin.append_, run_underlying ht, run_underlying hk, Go.sizeOf, typeInfo, hi, hs.len, hroom, hs.cells, Addr.add_lit, hst]
      · simp only [List.size_toArray, List.length_append, List.length_take, List.length_drop, Array.length_toList]
        omega
      · rw [List.toList_toArray, htake, ← hlen, List.take_left]
    · obtain ⟨v', w', h1, h2, h3, h4⟩ := grown (some ⟨g, 0, none⟩) cap (run_firstCells_some w.drew i.size n _ n cap xs hown.1 (by
        intro j u hu
        have := hown.cells ⟨g, 0, none⟩ ⟨cap, rfl⟩ j u hu
        simpa using this)) (by omega) (some g)
      exact ⟨v', w', h1, h2, h3, .inr h4⟩

theorem wp_append_row {o : Oper} {a : Act} {K : Act → World → Prop} {Q : Exit → Act → World → Prop} (s x : Operand) (t tx : TypeId)
    (ho : o.op = .call { callee := .builtin .append, args := #[s, x], argTypes := #[t, tx] })
    (e : TypeId) (i : TypeInfo) (z : Value) (size bytes : Nat) (ht : P.underlying t = some (.slice e)) (hi : P.info? e = some i) (hz : i.zero = some z)
    (hsize : i.size = size) (hby : i.bytes = bytes) (hzs : z.cells.size = size)
    (v : Value) (n : Nat) (xs : List Value) (hs : a.eval s = v) (hown : Row w e size v n xs)
    (y : Value) (m : Nat) (news : List Value) (hx : a.eval x = y) (hsrc : Src P size tx y m news w) (h63 : n + m ≤ maxLen) (hbytes : (n + m) * bytes ≤ 140737488355328)
    (h : ∀ A1 c1 w', Row w' e size (.slice A1 (n + m) c1) (n + m) (xs ++ news) → w.grownBy w' v.ownBlock → ((Value.slice A1 (n + m) c1).ownBlock = v.ownBlock ∨ (Value.slice A1 (n + m) c1).ownBlock = some w.heap.size) → K (a.put o.dst (.slice A1 (n + m) c1)) w') : o.wp P a w K Q := by
  obtain ⟨v', w', hrun, h2, h3, h4⟩ := run_append_row (P := P) w t tx o.type e i z size bytes ht hi hz hsize hby hzs v n xs hown y m news hsrc h63 hbytes
  unfold Oper.wp execOp
  simp only [ho, resolve, invoke, builtin, Sem.run_bind, Sem.run_pure, Result.andThen_ok, List.map_toArray, List.map_cons, List.map_nil, hs, hx, hrun]
  obtain ⟨A1, c1, rfl, _, _⟩ := h2.form
  exact h A1 c1 w' h2 h3 h4

theorem wpList_append_row {ops : Array Oper} {rest : List Oper} {o : Oper} {a : Act} {Q : Exit → Act → World → Prop} (hgd : o.guard = none) (s x : Operand) (t tx : TypeId)
    (ho : o.op = .call { callee := .builtin .append, args := #[s, x], argTypes := #[t, tx] })
    (e : TypeId) (i : TypeInfo) (z : Value) (size bytes : Nat) (ht : P.underlying t = some (.slice e)) (hi : P.info? e = some i) (hz : i.zero = some z)
    (hsize : i.size = size) (hby : i.bytes = bytes) (hzs : z.cells.size = size)
    (v : Value) (n : Nat) (xs : List Value) (hs : a.eval s = v) (hown : Row w e size v n xs)
    (y : Value) (m : Nat) (news : List Value) (hx : a.eval x = y) (hsrc : Src P size tx y m news w) (h63 : n + m ≤ maxLen) (hbytes : (n + m) * bytes ≤ 140737488355328)
    (h : ∀ A1 c1 w', Row w' e size (.slice A1 (n + m) c1) (n + m) (xs ++ news) → w.grownBy w' v.ownBlock → ((Value.slice A1 (n + m) c1).ownBlock = v.ownBlock ∨ (Value.slice A1 (n + m) c1).ownBlock = some w.heap.size) → wpList P ops Q rest (a.put o.dst (.slice A1 (n + m) c1)) w') : wpList P ops Q (o :: rest) a w :=
  wpList_plain hgd fun _ hK => wp_append_row w s x t tx ho e i z size bytes ht hi hz hsize hby hzs v n xs hs hown y m news hx hsrc h63 hbytes fun A1 c1 w' h2 h3 h4 => hK _ _ (h A1 c1 w' h2 h3 h4)

theorem step_append_row {ops : Array Oper} {o : Oper} {a : Act} {K : Act → World → Prop} {Q : Exit → Act → World → Prop} {E : Prop} (hgd : o.guard = none) (s x : Operand) (t tx : TypeId)
    (ho : o.op = .call { callee := .builtin .append, args := #[s, x], argTypes := #[t, tx] })
    (e : TypeId) (i : TypeInfo) (z : Value) (size bytes : Nat) (ht : P.underlying t = some (.slice e)) (hi : P.info? e = some i) (hz : i.zero = some z)
    (hsize : i.size = size) (hby : i.bytes = bytes) (hzs : z.cells.size = size)
    (v : Value) (n : Nat) (xs : List Value) (hs : a.eval s = v) (hown : Row w e size v n xs)
    (y : Value) (m : Nat) (news : List Value) (hx : a.eval x = y) (hsrc : Src P size tx y m news w) (h63 : n + m ≤ maxLen) (hbytes : (n + m) * bytes ≤ 140737488355328)
    (h : ∀ A1 c1 w', Row w' e size (.slice A1 (n + m) c1) (n + m) (xs ++ news) → w.grownBy w' v.ownBlock → ((Value.slice A1 (n + m) c1).ownBlock = v.ownBlock ∨ (Value.slice A1 (n + m) c1).ownBlock = some w.heap.size) → K (a.put o.dst (.slice A1 (n + m) c1)) w') :
    if Region.wanted o (yielded ops a.tmps) = true then Oper.wp P o a w K Q else E := by
  have hw : Region.wanted o (yielded ops a.tmps) = true := by simp [Region.wanted, hgd]
  rw [if_pos hw]
  exact wp_append_row w s x t tx ho e i z size bytes ht hi hz hsize hby hzs v n xs hs hown y m news hx hsrc h63 hbytes h
end

theorem Row.ne_ {w : World} {e : TypeId} {size n : Nat} {v : Value} {xs : List Value} (h : Row w e size v n xs) {g : Nat} {cs : Array Value} {t : TypeId} {fz : Nat × Nat} (hg : w.heap[g]? = some (.cells cs t fz)) (hne : e ≠ t) : v.ownBlock ≠ some g := by
  rcases h.2 with ⟨rfl, _⟩ | ⟨g', cap, cur, rfl, hh, _⟩
  · simp [Value.ownBlock]
  · intro he
    have : g' = g := by simpa [Value.ownBlock] using he
    subst this
    rw [hh] at hg
    injection hg with hg
    injection hg with _ ht
    exact hne ht
theorem obj_frozen {w : World} {g : Nat} {cs : Array Value} {t : TypeId} (h : w.heap[g]? = some (.cells cs t (0, 0))) (j : Nat) : w.frozen? ⟨g, j, none⟩ = false := by simp [World.frozen?, h]
theorem obj_set {w : World} {g : Nat} {cs : Array Value} {t : TypeId} {fz : Nat × Nat} (h : w.heap[g]? = some (.cells cs t fz)) (j : Nat) (u : Value) : (w.setCell ⟨g, j, none⟩ u).heap[g]? = some (.cells (cs.setIfInBounds j u) t fz) := by
  simp [World.setCell, Array.getElem?_modify, h]
theorem obj_lt {w : World} {g : Nat} {o : Obj} (h : w.heap[g]? = some o) : g < w.heap.size := (Array.getElem?_eq_some_iff.1 h).1
theorem obj_far {w : World} {g : Nat} {o : Obj} (h : w.heap[g]? = some o) {p : Addr} (hp : g ≠ p.block) (u : Value) : (w.setCell p u).heap[g]? = some o := (Below.heap_setCell w p u g hp).trans h
theorem obj_alloc {w : World} {g : Nat} {o : Obj} (h : w.heap[g]? = some o) (o' : Obj) : (w.alloc o').heap[g]? = some o := (Below.heap_alloc w o' g (obj_lt h)).trans h
theorem obj_below {w w' : World} {B g : Nat} {o : Obj} (h : w.heap[g]? = some o) (hb : Below B w w') (hg : g < B) : w'.heap[g]? = some o := (hb.block g hg).trans h
theorem obj_grown {w w' : World} {g : Nat} {o : Obj} {row : Option Nat} (h : w.heap[g]? = some o) (hb : w.grownBy w' row) (hg : row ≠ some g) : w'.heap[g]? = some o := (hb.block g (obj_lt h) (Ne.symm hg)).trans h

/-- Cuts of a slice, as equations of their own. -/
theorem slice_hm {P : Program} {t e : TypeId} (ht : P.underlying t = some (.slice e)) {i : TypeInfo} (hi : P.info? e = some i) (A : Option Addr) (n c k : Nat) (hk : k ≤ c) (w : World) :
    (Instr.slice t (.slice A n c) none (some (.int .i64 (k : Int))) (some (.int .i64 (k : Int)))).run P w = .ok (.slice A k k) w := by
  simp [Instr.slice, run_underlying ht, Instr.sliceBounds, Instr.sliceBound, asIntOf, hk, Go.sizeOf, typeInfo, hi, Addr.add]
theorem slice_l {P : Program} {t e : TypeId} (ht : P.underlying t = some (.slice e)) {i : TypeInfo} (hi : P.info? e = some i) (A : Option Addr) (n c k : Nat) (hk : k ≤ n) (x : Int) (hx : x = (k : Int)) (w : World) :
    (Instr.slice t (.slice A n c) (some (.int .i64 x)) none none).run P w = .ok (.slice (if c = k then A else A.map (·.add (k * i.size))) (n - k) (c - k)) w := by
  subst hx
  simp [Instr.slice, run_underlying ht, Instr.sliceBounds, Instr.sliceBound, asIntOf, hk, Go.sizeOf, typeInfo, hi]
theorem slice_h {P : Program} {t e : TypeId} (ht : P.underlying t = some (.slice e)) {i : TypeInfo} (hi : P.info? e = some i) (A : Option Addr) (n c k : Nat) (hk : k ≤ c) (w : World) :
    (Instr.slice t (.slice A n c) none (some (.int .i64 (k : Int))) none).run P w = .ok (.slice A k c) w := by
  simp [Instr.slice, run_underlying ht, Instr.sliceBounds, Instr.sliceBound, asIntOf, hk, Go.sizeOf, typeInfo, hi, Addr.add]
/-- A row's end as the source of an append. -/
theorem Row.src_from {P : Program} {w : World} {e : TypeId} {size n c k : Nat} {A : Option Addr} {xs : List Value} {tx e' : TypeId} (hk : P.underlying tx = some (.slice e')) (h : Row w e size (.slice A n c) n xs) (hkn : k ≤ n)
    (h1 : ∀ u ∈ xs, u.oneCell' = true) : Src P size tx (.slice (if c = k then A else A.map (·.add (k * size))) (n - k) (c - k)) (n - k) (xs.drop (k * size)) w := by
  have h1' : ∀ u ∈ xs.drop (k * size), u.oneCell' = true := fun u hu => h1 u (List.mem_of_mem_drop hu)
  have hl : (xs.drop (k * size)).length = (n - k) * size := by rw [List.length_drop, h.1, Nat.sub_mul]
  have hc := h.cells
  rcases h.2 with ⟨hv, rfl⟩ | ⟨g, cap, cur, hv, hg, hh1, hh2, hh3, hh4⟩
  · cases hv
    obtain rfl : k = 0 := by omega
    obtain rfl : xs = [] := List.eq_nil_of_length_eq_zero (by simpa using h.1)
    simpa using Src.ofNil w hk 0
  · cases hv
    by_cases he : c = k
    · have hn : n - k = 0 := by omega
      rw [if_pos he, hn]
      refine Src.ofSlice w hk _ 0 _ _ (by rw [hl, hn]) ?_ h1'
      intro j u hu
      have := (List.getElem?_eq_some_iff.1 hu).1
      rw [hl, hn] at this
      omega
    · rw [if_neg he]
      refine Src.ofSlice w hk _ _ _ _ hl ?_ h1'
      intro j u hu
      rw [List.getElem?_drop] at hu
      have := hc _ ⟨c, rfl⟩ _ _ hu
      rw [addr_add] at this
      show w.cell? (((⟨g, 0, none⟩ : Addr).add (k * size)).add j) = some u
      rw [addr_add, addr_add, Nat.add_assoc]
      exact this
theorem run_eql_slice_nil {P : Program} {w : World} (t e : TypeId) (a : Option Addr) (l c : Nat) (h : P.underlying t = some (.slice e)) : (binOp .eql t (.slice a l c) (.slice none 0 0)).run P w = .ok (.bool a.isNone) w := by
  simp only [binOp]
  simp [run_equal_slice_nil w t e a l c h]
theorem new2 (w : World) (o o' : Obj) : ((w.alloc o).alloc o').heap[w.heap.size + 1]? = some o' := by
  have h := World.alloc_heap_new (w.alloc o) o'
  rwa [World.size_alloc] at h
theorem new_behind (w : World) (p : Addr) (u : Value) (o : Obj) : ((w.setCell p u).alloc o).heap[w.heap.size]? = some o := by
  have h := World.alloc_heap_new (w.setCell p u) o
  have hs : (w.setCell p u).heap.size = w.heap.size := by simp [World.setCell]
  rwa [hs] at h

/-- A step turns the blocks S alone; S' are the object's blocks behind it. -/
structure Turn (S S' : Nat → Prop) (w w' : World) : Prop where
  os : w'.os = w.os
  tape : w'.tape = w.tape
  output : w'.output = w.output
  size : w.heap.size ≤ w'.heap.size
  block : ∀ k, k < w.heap.size → ¬ S k → w'.heap[k]? = w.heap[k]?
  foot : ∀ k, S' k → S k ∨ w.heap.size ≤ k
  lt : ∀ k, S' k → k < w'.heap.size

section
variable {S S' S'' : Nat → Prop} {w w' w'' : World} {B : Nat}
theorem Turn.refl (h : ∀ k, S k → k < w.heap.size) : Turn S S w w := ⟨rfl, rfl, rfl, Nat.le_refl _, fun _ _ _ => rfl, fun _ h => .inl h, h⟩
theorem Turn.trans (h : Turn S S' w w') (k : Turn S' S'' w' w'') : Turn S S'' w w'' := by
  refine ⟨k.os.trans h.os, k.tape.trans h.tape, k.output.trans h.output, Nat.le_trans h.size k.size, fun i hi hn => ?_, fun i hi => ?_, k.lt⟩
  · refine (k.block i (Nat.lt_of_lt_of_le hi h.size) fun h' => ?_).trans (h.block i hi hn)
    rcases h.foot i h' with h1 | h1
    · exact hn h1
    · omega
  · rcases k.foot i hi with h1 | h1
    · exact h.foot i h1
    · exact .inr (Nat.le_trans h.size h1)
theorem Turn.of_below (hb : Below w.heap.size w w') (h : ∀ k, S k → k < w.heap.size) : Turn S S w w' :=
  ⟨hb.os, hb.tape, hb.output, hb.size, fun k hk _ => hb.block k hk, fun _ h => .inl h, fun k hk => Nat.lt_of_lt_of_le (h k hk) hb.size⟩
/-- What no step of the object turns. -/
theorem Turn.below {W : World} (hb : Below B W w) (hB : B ≤ w.heap.size) (hS : ∀ k, S k → B ≤ k) (h : Turn S S' w w') : Below B W w' ∧ ∀ k, S' k → B ≤ k := by
  refine ⟨hb.trans ⟨h.os, h.tape, h.output, h.size, fun k hk => h.block k (by omega) fun hs => ?_⟩, fun k hk => ?_⟩
  · have := hS k hs; omega
  · rcases h.foot k hk with h1 | h1
    · exact hS k h1
    · omega
theorem Turn.alloc (h : Turn S S' w w') (o : Obj) : Turn S S' w (w'.alloc o) :=
  h.trans ⟨rfl, rfl, rfl, by simp, fun k hk _ => Below.heap_alloc _ _ _ hk, fun _ h => .inl h, fun k hk => by have := h.lt k hk; simp; omega⟩
theorem Turn.drew (h : Turn S S' w w') : Turn S S' w w'.drew := ⟨h.os, h.tape, h.output, h.size, h.block, h.foot, h.lt⟩
theorem Turn.set_ (h : Turn S S' w w') {p : Addr} (hp : S p.block ∨ w.heap.size ≤ p.block) (u : Value) : Turn S S' w (w'.setCell p u) :=
  ⟨h.os, h.tape, h.output, by simpa [World.setCell] using h.size, fun k hk hn => (Below.heap_setCell w' p u k (fun e => by
    subst e
    rcases hp with hp | hp
    · exact hn hp
    · omega)).trans (h.block k hk hn), h.foot, fun k hk => by simpa [World.setCell] using h.lt k hk⟩
theorem Turn.grown (h : Turn S S' w w') {row : Option Nat} (hg : w'.grownBy w'' row) (hr : ∀ k, row = some k → S k ∨ w.heap.size ≤ k) : Turn S S' w w'' :=
  ⟨hg.os.trans h.os, hg.tape.trans h.tape, hg.output.trans h.output, Nat.le_trans h.size hg.size, fun k hk hn => (hg.block k (Nat.lt_of_lt_of_le hk h.size) (fun e => by
    rcases hr k e.symm with hp | hp
    · exact hn hp
    · omega)).trans (h.block k hk hn), h.foot, fun k hk => Nat.lt_of_lt_of_le (h.lt k hk) hg.size⟩
theorem Turn.re (h : Turn S S' w w') (hf : ∀ k, S'' k → S k ∨ w.heap.size ≤ k) (hl : ∀ k, S'' k → k < w'.heap.size) : Turn S S'' w w' := ⟨h.os, h.tape, h.output, h.size, h.block, hf, hl⟩
theorem Turn.belowR (h : Turn S S' w w') (hb : Below w'.heap.size w' w'') : Turn S S' w w'' := h.trans (.of_below hb h.lt)
/-- Another object's blocks stay apart. -/
theorem Turn.apart {T : Nat → Prop} (h : Turn S S' w w') (hT : ∀ k, T k → k < w.heap.size) (hd : ∀ k, S k → ¬ T k) : (∀ k, S' k → ¬ T k) ∧ (∀ k, T k → w'.heap[k]? = w.heap[k]?) ∧ (∀ k, T k → k < w'.heap.size) := by
  refine ⟨fun k hk ht => ?_, fun k hk => h.block k (hT k hk) fun hs => hd k hs hk, fun k hk => Nat.lt_of_lt_of_le (hT k hk) h.size⟩
  rcases h.foot k hk with h1 | h1
  · exact hd k h1 ht
  · have := hT k ht; omega
end
end Ros
