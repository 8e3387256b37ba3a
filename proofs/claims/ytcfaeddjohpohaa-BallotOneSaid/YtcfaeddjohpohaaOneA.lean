/-
  The races of ballots in memory: an array of 41 structs of 19 cells each, one of them in a box of its own. Conditions: none.
-/
import Derived.Test.YtcfaeddjohpohaaOneM
import Derived.Test.YtcfaeddjohpohaaBalT
import Derived.Deep.MidRow
namespace Ros
open Go Go.RowKit
/-- The cells of a race; v: the slice that holds what it was promised. -/
def cellsRace (v : Value) (r : Race) : List Value := v :: (r.has.map Value.bool ++ [.string r.val, .bool r.fixed])
theorem cellsRace_length {v : Value} {r : Race} (h : r.has.length = 16) : (cellsRace v r).length = 19 := by simp [cellsRace, h]
theorem cellsRace_by (v : Value) (r : Race) : (cellsRace v r)[0]? = some v := rfl
theorem cellsRace_has {v : Value} {r : Race} {a : Nat} {x : Bool} (h : r.has[a]? = some x) : (cellsRace v r)[1 + a]? = some (.bool x) := by
  have hl := (List.getElem?_eq_some_iff.1 h).1
  rw [Nat.add_comm, cellsRace, List.getElem?_cons_succ, List.getElem?_append_left (by simpa using hl), List.getElem?_map, h]
  rfl
theorem cellsRace_val {v : Value} {r : Race} (h : r.has.length = 16) : (cellsRace v r)[17]? = some (.string r.val) := by
  rw [cellsRace, List.getElem?_cons_succ, List.getElem?_append_right (by simp [h]), List.length_map, h]
  rfl
theorem cellsRace_fixed {v : Value} {r : Race} (h : r.has.length = 16) : (cellsRace v r)[18]? = some (.bool r.fixed) := by
  rw [cellsRace, List.getElem?_cons_succ, List.getElem?_append_right (by simp [h]), List.length_map, h]
  rfl
theorem set_by (v u : Value) (r : Race) : (cellsRace v r).set 0 u = cellsRace u r := rfl
theorem set_has {v : Value} {r : Race} {a : Nat} (x : Bool) (h : r.has.length = 16) (ha : a < 16) : (cellsRace v r).set (1 + a) (.bool x) = cellsRace v { r with has := r.has.set a x } := by
  rw [Nat.add_comm, cellsRace, List.set_cons_succ, List.set_append_left _ _ (by simp [h, ha]), ← List.map_set]
  rfl
theorem set_val {v : Value} {r : Race} (s : ByteArray) (h : r.has.length = 16) : (cellsRace v r).set 17 (.string s) = cellsRace v { r with val := s } := by
  rw [cellsRace, List.set_cons_succ, List.set_append_right _ _ (by simp [h]), List.length_map, h]
  rfl
theorem set_fixed {v : Value} {r : Race} (x : Bool) (h : r.has.length = 16) : (cellsRace v r).set 18 (.bool x) = cellsRace v { r with fixed := x } := by
  rw [cellsRace, List.set_cons_succ, List.set_append_right _ _ (by simp [h]), List.length_map, h]
  rfl
theorem cellsRace_one {v : Value} (hv : v.oneCell' = true) (r : Race) : ∀ u ∈ cellsRace v r, u.oneCell' = true := by
  intro u hu
  unfold cellsRace at hu
  simp only [List.mem_cons, List.mem_append, List.mem_map, List.not_mem_nil, or_false] at hu
  rcases hu with rfl | ⟨b, _, rfl⟩ | rfl | rfl
  · exact hv
  · rfl
  · rfl
  · rfl
/-- The slice of what a race was promised. -/
def ByAt (W : World) (e : TypeId) (lo hi : Nat) (v : Value) (l : List Vt) : Prop :=
  Row W e 3 v l.length (cellsVs l) ∧ ∀ k, v.ownBlock = some k → lo < k ∧ k < hi
theorem ByAt.form {W : World} {e : TypeId} {lo hi : Nat} {v : Value} {l : List Vt} (h : ByAt W e lo hi v l) : ∃ A c, v = .slice A l.length c := by
  obtain ⟨A, c, h1, _⟩ := h.1.form
  exact ⟨A, c, h1⟩
theorem ByAt.keep {W W' : World} {e : TypeId} {lo hi : Nat} {v : Value} {l : List Vt} (h : ByAt W e lo hi v l) (hk : ∀ k, lo < k → k < hi → W'.heap[k]? = W.heap[k]?) : ByAt W' e lo hi v l :=
  ⟨h.1.keep fun k e => hk k (h.2 k e).1 (h.2 k e).2, h.2⟩
theorem ByAt.up {W : World} {e : TypeId} {lo hi hi' : Nat} {v : Value} {l : List Vt} (h : ByAt W e lo hi v l) (hh : hi ≤ hi') : ByAt W e lo hi' v l := ⟨h.1, fun k e => ⟨(h.2 k e).1, Nat.lt_of_lt_of_le (h.2 k e).2 hh⟩⟩
/-- The races: their array in block g. -/
structure RcAt (W : World) (e t : TypeId) (g hi : Nat) (R : Nat → Race) (sv : Nat → Value) : Prop where
  arr : ∃ C, W.heap[g]? = some (.cells C t (0, 0))
  rng : ∀ b, b < 41 → W.rangeAt g (b * 19) (cellsRace (sv b) (R b))
  has : ∀ b, b < 41 → (R b).has.length = 16
  by_ : ∀ b, b < 41 → ByAt W e g hi (sv b) (R b).by_
theorem RcAt.keep {W W' : World} {e t : TypeId} {g hi : Nat} {R : Nat → Race} {sv : Nat → Value} (h : RcAt W e t g hi R sv) (hk : ∀ k, g ≤ k → k < hi → W'.heap[k]? = W.heap[k]?) (hg : g < hi) : RcAt W' e t g hi R sv := by
  obtain ⟨C, hC⟩ := h.arr
  have hgg := hk g (Nat.le_refl _) hg
  refine ⟨⟨C, hgg.trans hC⟩, fun b hb j v hv => ?_, h.has, fun b hb => (h.by_ b hb).keep fun k h1 h2 => hk k (Nat.le_of_lt h1) h2⟩
  have := h.rng b hb j v hv
  rw [cell_row hC] at this
  rw [cell_row (hgg.trans hC)]
  exact this
theorem RcAt.there {W : World} {e t : TypeId} {g hi : Nat} {R : Nat → Race} {sv : Nat → Value} (h : RcAt W e t g hi R sv) {b : Nat} (hb : b < 41) : W.there g (b * 19) 19 := by
  intro j hj
  obtain ⟨C, hC⟩ := h.arr
  have hl := cellsRace_length (v := sv b) (h.has b hb)
  refine ⟨?_, obj_frozen hC _⟩
  rw [h.rng b hb j _ (List.getElem?_eq_getElem (by rw [hl]; exact hj))]
  rfl
theorem setCells_far (b : Nat) : ∀ (vs : List Value) (o : Nat) (W : World) (k : Nat), k ≠ b → (W.setCells b o vs).heap[k]? = W.heap[k]?
  | [], _, _, _, _ => rfl
  | v :: r, o, W, k, hk => by
    rw [World.setCells, setCells_far b r (o + 1) _ k hk]
    exact row_other hk o v
theorem setCells_arr (b : Nat) : ∀ (vs : List Value) (o : Nat) (W : World) (C : Array Value) (t : TypeId) (fz : Nat × Nat), W.heap[b]? = some (.cells C t fz) → ∃ C', (W.setCells b o vs).heap[b]? = some (.cells C' t fz)
  | [], _, _, C, _, _, h => ⟨C, h⟩
  | v :: r, o, W, C, t, fz, h => by
    rw [World.setCells]
    exact setCells_arr b r (o + 1) _ _ t fz (obj_set h o v)
theorem setCells_below (b : Nat) : ∀ (vs : List Value) (o : Nat) (W w : World) (B : Nat), Below B w W → B ≤ b → Below B w (W.setCells b o vs)
  | [], _, _, _, _, h, _ => h
  | v :: r, o, W, w, B, h, hb => by
    rw [World.setCells]
    exact setCells_below b r (o + 1) _ w B (show Below B w (W.setCell ⟨b, o, none⟩ v) from Below.setCell h hb v) hb
theorem setCells_size (b : Nat) : ∀ (vs : List Value) (o : Nat) (W : World), (W.setCells b o vs).heap.size = W.heap.size
  | [], _, _ => rfl
  | v :: r, o, W => by
    rw [World.setCells, setCells_size b r (o + 1) _, World.size_setCell]
theorem updR_self (R : Nat → Race) (b : Nat) : updR R b (R b) = R := by
  funext c
  by_cases e : c = b
  · subst e; exact updR_at _ _ _
  · exact updR_ne _ _ e
def updV (sv : Nat → Value) (b : Nat) (v : Value) : Nat → Value := fun c => if c = b then v else sv c
theorem updV_at (sv : Nat → Value) (b : Nat) (v : Value) : updV sv b v b = v := if_pos rfl
theorem updV_ne (sv : Nat → Value) {b c : Nat} (v : Value) (h : c ≠ b) : updV sv b v c = sv c := if_neg h
/-- A race is stored back. -/
theorem RcAt.store {W : World} {e t : TypeId} {g hi hi' : Nat} {R : Nat → Race} {sv : Nat → Value} (h : RcAt W e t g hi R sv) {b : Nat} (hb : b < 41) {v : Value} {r : Race} (hr : r.has.length = 16) (hv : ByAt W e g hi' v r.by_) (hh : hi ≤ hi') :
    RcAt (W.setCells g (b * 19) (cellsRace v r)) e t g hi' (updR R b r) (updV sv b v) := by
  obtain ⟨C, hC⟩ := h.arr
  have hth := h.there hb
  refine ⟨setCells_arr g _ _ W C t (0, 0) hC, fun c hc => ?_, fun c hc => ?_, fun c hc => ?_⟩
  · by_cases e' : c = b
    · subst e'
      rw [updR_at, updV_at]
      exact World.rangeAt_setCells_same W g (c * 19) _ (by rw [cellsRace_length hr]; exact hth)
    · rw [updR_ne _ _ e', updV_ne _ _ e']
      refine World.rangeAt_setCells_apart (h.rng c hc) g (b * 19) _ (.inr ?_)
      rw [cellsRace_length hr, cellsRace_length (h.has c hc)]
      omega
  · by_cases e' : c = b
    · subst e'; rw [updR_at]; exact hr
    · rw [updR_ne _ _ e']; exact h.has c hc
  · have hk : ∀ k, g < k → (W.setCells g (b * 19) (cellsRace v r)).heap[k]? = W.heap[k]? := fun k hk => setCells_far g _ _ W k (by omega)
    by_cases e' : c = b
    · subst e'; rw [updR_at, updV_at]; exact hv.keep fun k h1 _ => hk k h1
    · rw [updR_ne _ _ e', updV_ne _ _ e']; exact ((h.by_ c hc).up hh).keep fun k h1 _ => hk k h1
theorem setCells_row (b : Nat) : ∀ (vs old pre : List Value) (W : World) (t : TypeId) (fz : Nat × Nat), vs.length = old.length → W.heap[b]? = some (.cells (pre ++ old).toArray t fz) → (W.setCells b pre.length vs).heap[b]? = some (.cells (pre ++ vs).toArray t fz)
  | [], [], pre, W, t, fz, _, h => h
  | [], x :: old, _, _, _, _, hl, _ => by simp at hl
  | v :: r, [], _, _, _, _, hl, _ => by simp at hl
  | v :: r, x :: old, pre, W, t, fz, hl, h => by
    rw [World.setCells]
    have h1 : (W.setCell ⟨b, pre.length, none⟩ v).heap[b]? = some (.cells ((pre ++ [v]) ++ old).toArray t fz) := by
      rw [obj_set h]
      simp
    have h2 := setCells_row b r old (pre ++ [v]) _ t fz (by simpa using hl) h1
    rw [List.length_append, List.length_singleton] at h2
    simpa using h2
theorem box_row {W : World} {b : Nat} {vs old : List Value} {t : TypeId} {fz : Nat × Nat} (h : W.heap[b]? = some (.cells old.toArray t fz)) (hl : vs.length = old.length) : (W.setCells b 0 vs).heap[b]? = some (.cells vs.toArray t fz) :=
  setCells_row b vs old [] W t fz hl h
theorem box_there {W : World} {b : Nat} {C : Array Value} {t : TypeId} {n : Nat} (h : W.heap[b]? = some (.cells C t (0, 0))) (hn : n ≤ C.size) : W.there b 0 n := by
  intro j hj
  refine ⟨?_, obj_frozen h _⟩
  rw [cell_row h, Nat.zero_add, Array.getElem?_eq_getElem (by omega)]
  rfl
theorem w64 {n : Int} (h0 : 0 ≤ n) (h1 : n < 9223372036854775808) : wrap64 n = n := by unfold wrap64; omega
/-- An act. -/
structure Ac8 where
  d : Int
  b : Int
  a : Int
def cellsA (x : Ac8) : List Value := [.int .i64 x.d, .int .i64 x.b, .int .i64 x.a]
theorem cellsA_length (x : Ac8) : (cellsA x).length = 3 := rfl
def Ac8.ok (x : Ac8) : Prop := (-9223372036854775808 ≤ x.d ∧ x.d ≤ 9223372036854775807) ∧ (-9223372036854775808 ≤ x.b ∧ x.b ≤ 9223372036854775807) ∧ (-9223372036854775808 ≤ x.a ∧ x.a ≤ 9223372036854775807)
end Ros
namespace Go.Proofs.Ytcfaeddjohpohaa
open Go.RowKit Go.Shelf Ros
attribute [local go_sem] Oper.semAt_some
set_option linter.unusedVariables false
theorem zero_race : ∀ w : World, (zeroValue 50).run Try.prog w = .ok (.agg (cellsRace (.slice none 0 0) race0).toArray) w := by
  intro w
  kernel_rfl
theorem zero_races : ∃ Z : Array Value, (∀ w : World, (zeroValue 51).run Try.prog w = .ok (.agg Z) w) ∧ Z = (List.replicate 41 (cellsRace (.slice none 0 0) race0)).flatten.toArray := by
  have h : (Try.prog.info? 51).map (fun i => i.zero) = some (some (.agg (List.replicate 41 (cellsRace (.slice none 0 0) race0)).flatten.toArray)) := by kernel_rfl
  refine ⟨_, fun w => ?_, rfl⟩
  cases hi : Try.prog.info? 51 with
  | none => rw [hi] at h; cases h
  | some i =>
    rw [hi] at h
    have hz : i.zero = some (.agg (List.replicate 41 (cellsRace (.slice none 0 0) race0)).flatten.toArray) := by simpa using h
    generalize (List.replicate 41 (cellsRace (.slice none 0 0) race0)).flatten.toArray = Z at *
    simp [zeroValue, typeInfo, hi, hz]
theorem flat_rep {xs : List Value} : ∀ (n b j : Nat) (v : Value), b < n → xs[j]? = some v → ((List.replicate n xs).flatten)[b * xs.length + j]? = some v
  | 0, b, j, v, hb, _ => by omega
  | n + 1, 0, j, v, _, hv => by
    rw [List.replicate_succ, List.flatten_cons, Nat.zero_mul, Nat.zero_add, List.getElem?_append_left (List.getElem?_eq_some_iff.1 hv).1]
    exact hv
  | n + 1, b + 1, j, v, hb, hv => by
    rw [List.replicate_succ, List.flatten_cons, List.getElem?_append_right (by rw [Nat.add_mul]; omega), show (b + 1) * xs.length + j - xs.length = b * xs.length + j by rw [Nat.add_mul]; omega]
    exact flat_rep n b j v (by omega) hv
/-- The races at the start. -/
theorem RcAt.start {W : World} {e : TypeId} {Z : Array Value} (hZ : Z = (List.replicate 41 (cellsRace (.slice none 0 0) race0)).flatten.toArray) {t : TypeId} {g : Nat} (h : W.heap[g]? = some (.cells Z t (0, 0))) : RcAt W e t g (g + 1) (fun _ => race0) (fun _ => .slice none 0 0) := by
  refine ⟨⟨Z, h⟩, fun b hb j v hv => ?_, fun _ _ => by simp [race0], fun b hb => ⟨Row.nil W e 3, fun k hk => by simp [Value.ownBlock] at hk⟩⟩
  rw [cell_row h, hZ, List.getElem?_toArray]
  exact flat_rep 41 b j v hb hv
theorem made_acc (n : Nat) (h1 : 1 ≤ n) (h16 : n ≤ 16) (W : World) :
    (Instr.makeSlice 36 (.int .i64 (n : Int)) (.int .i64 (n : Int))).run Try.prog W = .ok (.slice (some ⟨W.heap.size, 0, none⟩) n n) (W.alloc (.cells (cellsVs (List.replicate n vt0)).toArray 24)) := by
  obtain ⟨i0, hi0, hz0, hz1, hz2⟩ := info_parts vote_info
  have h := run_makeSlice (P := Try.prog) W 36 24 i0 _ Try.underlying36 hi0 hz0 .i64 .i64 (n : Int) (n : Int) (by omega) (by omega) (by rw [hz1]; omega) (by rw [hz2]; omega) (by omega)
  rw [hz1, Int.toNat_natCast] at h
  have : n = 1 ∨ n = 2 ∨ n = 3 ∨ n = 4 ∨ n = 5 ∨ n = 6 ∨ n = 7 ∨ n = 8 ∨ n = 9 ∨ n = 10 ∨ n = 11 ∨ n = 12 ∨ n = 13 ∨ n = 14 ∨ n = 15 ∨ n = 16 := by omega
  rcases this with rfl | rfl | rfl | rfl | rfl | rfl | rfl | rfl | rfl | rfl | rfl | rfl | rfl | rfl | rfl | rfl <;> exact h.trans (congrArg (fun c => Result.ok (Value.slice (some ⟨W.heap.size, 0, none⟩) _ _) (W.alloc (.cells c 24))) (by kernel_rfl))
end Go.Proofs.Ytcfaeddjohpohaa
