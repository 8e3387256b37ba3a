/-
  BallotOne: what a round of the acts abides, in memory. Conditions: none.
-/
import Derived.Test.YtcfaeddjohpohaaOneA
import Derived.Test.YtcfaeddjohpohaaBalL
import Derived.Deep.CutBlock
import Derived.Deep.DeepCutAuto
namespace Go.Proofs.Ytcfaeddjohpohaa
open Go.RowKit Go.Shelf Ros
attribute [local go_sem] Oper.semAt_some
set_option linter.unusedVariables false
theorem btO {a b c : World} (h : Below a.heap.size a b) (k : Below b.heap.size b c) : Below a.heap.size a c := h.trans (k.mono h.size)
/-- What a round of the acts abides; all blocks of the races' own lie below hi. -/
structure OneS (w W : World) (gA gR hi n : Nat) (acc : List Vt) (R : Nat → Ros.Race) (sv : Nat → Value) : Prop where
  acc_ : Row W 24 3 (.slice (some ⟨gA, 0, none⟩) n n) n (cellsVs acc)
  rc : RcAt W 24 51 gR hi R sv
  below : Below w.heap.size w W
  lt1 : gA < gR
  lt2 : gR < hi
  lt3 : hi ≤ W.heap.size
theorem OneS.keep {w W W' : World} {gA gR hi n : Nat} {acc : List Vt} {R : Nat → Ros.Race} {sv : Nat → Value} (h : OneS w W gA gR hi n acc R sv) (hk : ∀ k, k < hi → W'.heap[k]? = W.heap[k]?) (hb : Below w.heap.size w W') (hs : hi ≤ W'.heap.size) : OneS w W' gA gR hi n acc R sv :=
  ⟨h.acc_.keep fun k e => hk k (by simp [Value.ownBlock] at e; have := h.lt1; have := h.lt2; omega), h.rc.keep (fun k _ h2 => hk k h2) h.lt2, hb, h.lt1, h.lt2, hs⟩
theorem OneS.on {w W W' : World} {gA gR hi n : Nat} {acc : List Vt} {R : Nat → Ros.Race} {sv : Nat → Value} (h : OneS w W gA gR hi n acc R sv) (hb : Below W.heap.size W W') : OneS w W' gA gR hi n acc R sv :=
  h.keep (fun k hk => hb.block k (Nat.lt_of_lt_of_le hk h.lt3)) (btO h.below hb) (Nat.le_trans h.lt3 hb.size)
/-- Within a round: the race in its box, gB. -/
structure MidS (w W : World) (gA gR gB n : Nat) (acc : List Vt) (R : Nat → Ros.Race) (sv : Nat → Value) (v : Value) (r : Ros.Race) : Prop where
  s : OneS w W gA gR gB n acc R sv
  box : W.heap[gB]? = some (.cells (cellsRace v r).toArray 50 (0, 0))
  has : r.has.length = 16
  by_ : ByAt W 24 gR W.heap.size v r.by_
theorem MidS.on {w W W' : World} {gA gR gB n : Nat} {acc : List Vt} {R : Nat → Ros.Race} {sv : Nat → Value} {v : Value} {r : Ros.Race} (h : MidS w W gA gR gB n acc R sv v r) (hb : Below W.heap.size W W') : MidS w W' gA gR gB n acc R sv v r :=
  ⟨h.s.on hb, obj_below h.box hb (obj_lt h.box), h.has, (h.by_.keep fun k _ h2 => hb.block k h2).up hb.size⟩
theorem MidS.start {w W : World} {gA gR n : Nat} {acc : List Vt} {R : Nat → Ros.Race} {sv : Nat → Value} {b : Nat} {C0 : List Value} (h : OneS w W gA gR W.heap.size n acc R sv) (hb : b < 41) (hC : C0.length = 19) :
    MidS w ((W.alloc (.cells C0.toArray 50)).setCells W.heap.size 0 (cellsRace (sv b) (R b))) gA gR W.heap.size n acc R sv (sv b) (R b) := by
  have hk : ∀ k, k < W.heap.size → ((W.alloc (.cells C0.toArray 50)).setCells W.heap.size 0 (cellsRace (sv b) (R b))).heap[k]? = W.heap[k]? := fun k hk =>
    (setCells_far _ _ _ _ k (by omega)).trans (Below.heap_alloc W _ k hk)
  have hsz : ((W.alloc (.cells C0.toArray 50)).setCells W.heap.size 0 (cellsRace (sv b) (R b))).heap.size = W.heap.size + 1 := by rw [setCells_size, World.size_alloc]
  refine ⟨h.keep hk (setCells_below _ _ _ _ w _ (h.below.alloc h.below.size _) h.below.size) (by omega), box_row (World.alloc_heap_new W _) (by rw [cellsRace_length (h.rc.has b hb), hC]), h.rc.has b hb, ?_⟩
  exact ((h.rc.by_ b hb).keep fun k _ h2 => hk k h2).up (by omega)
theorem OneS.up {w W : World} {gA gR hi hi' n : Nat} {acc : List Vt} {R : Nat → Ros.Race} {sv : Nat → Value} (h : OneS w W gA gR hi n acc R sv) (h1 : hi ≤ hi') (h2 : hi' ≤ W.heap.size) : OneS w W gA gR hi' n acc R sv :=
  ⟨h.acc_, ⟨h.rc.arr, h.rc.rng, h.rc.has, fun b hb => (h.rc.by_ b hb).up h1⟩, h.below, h.lt1, Nat.lt_of_lt_of_le h.lt2 h1, h2⟩
theorem MidS.store {w W : World} {gA gR gB n : Nat} {acc : List Vt} {R : Nat → Ros.Race} {sv : Nat → Value} {v : Value} {r : Ros.Race} (h : MidS w W gA gR gB n acc R sv v r) {b : Nat} (hb : b < 41) (hw : w.heap.size ≤ gR) :
    OneS w (W.setCells gR (b * 19) (cellsRace v r)) gA gR W.heap.size n acc (updR R b r) (updV sv b v) := by
  have hsz := setCells_size gR (cellsRace v r) (b * 19) W
  have h12 := h.s.lt1
  refine ⟨h.s.acc_.keep fun k e => setCells_far _ _ _ _ k (by simp [Value.ownBlock] at e; omega), h.s.rc.store hb h.has h.by_ h.s.lt3, setCells_below _ _ _ _ w _ h.s.below hw, h12, Nat.lt_of_lt_of_le h.s.lt2 h.s.lt3, by rw [hsz]; exact Nat.le_refl _⟩
theorem box_range {W : World} {b : Nat} {cs : List Value} {t : TypeId} {fz : Nat × Nat} (h : W.heap[b]? = some (.cells cs.toArray t fz)) : W.rangeAt b 0 cs := by
  intro j v hv
  rw [Nat.zero_add, cell_row h, List.getElem?_toArray]
  exact hv
theorem by_one {W : World} {e : TypeId} {lo hi : Nat} {v : Value} {l : List Vt} (h : ByAt W e lo hi v l) : v.oneCell' = true := by
  obtain ⟨A, c, e⟩ := h.form
  rw [e]
  rfl
theorem MidS.accset {w W : World} {gA gR gB n : Nat} {acc : List Vt} {R : Nat → Ros.Race} {sv : Nat → Value} {v : Value} {r : Ros.Race} (h : MidS w W gA gR gB n acc R sv v r) {k : Nat} (hk : k < n) (hl : acc.length = n) (hw : w.heap.size ≤ gA) (x : Vt) :
    MidS w (((W.setCell ⟨gA, k * 3, none⟩ (.int .u64 (x.p : Int))).setCell ⟨gA, k * 3 + 1, none⟩ (.int .u64 (x.b : Int))).setCell ⟨gA, k * 3 + 2, none⟩ (.string x.s)) gA gR gB n (acc.set k x) R sv v r := by
  have h1 := h.s.lt1
  have h2 := h.s.lt2
  have far : ∀ b, b ≠ gA → (((W.setCell ⟨gA, k * 3, none⟩ (.int .u64 (x.p : Int))).setCell ⟨gA, k * 3 + 1, none⟩ (.int .u64 (x.b : Int))).setCell ⟨gA, k * 3 + 2, none⟩ (.string x.s)).heap[b]? = W.heap[b]? := fun b hb => by
    rw [row_other hb, row_other hb, row_other hb]
  have hsz : (((W.setCell ⟨gA, k * 3, none⟩ (.int .u64 (x.p : Int))).setCell ⟨gA, k * 3 + 1, none⟩ (.int .u64 (x.b : Int))).setCell ⟨gA, k * 3 + 2, none⟩ (.string x.s)).heap.size = W.heap.size := by
    rw [World.size_setCell, World.size_setCell, World.size_setCell]
  refine ⟨⟨h.s.acc_.vset_ hk hl x, h.s.rc.keep (fun b hb _ => far b (by omega)) h2, ?_, h1, h2, by rw [hsz]; exact h.s.lt3⟩, (far _ (by omega)).trans h.box, h.has, (h.by_.keep fun b hb _ => far b (by omega)).up (by rw [hsz]; exact Nat.le_refl _)⟩
  exact ((h.s.below.setCell (p := ⟨gA, k * 3, none⟩) hw _).setCell (p := ⟨gA, k * 3 + 1, none⟩) hw _).setCell (p := ⟨gA, k * 3 + 2, none⟩) hw _
theorem MidS.boxset {w W : World} {gA gR gB n : Nat} {acc : List Vt} {R : Nat → Ros.Race} {sv : Nat → Value} {v : Value} {r r2 : Ros.Race} (h : MidS w W gA gR gB n acc R sv v r) (j : Nat) (u : Value) (e : (cellsRace v r).set j u = cellsRace v r2) (hl : r2.has.length = 16) (hb : r2.by_ = r.by_) (hw : w.heap.size ≤ gB) :
    MidS w (W.setCell ⟨gB, j, none⟩ u) gA gR gB n acc R sv v r2 := by
  have hne := h.by_.1.ne_ h.box (by decide)
  have hsz : (W.setCell ⟨gB, j, none⟩ u).heap.size = W.heap.size := World.size_setCell _ _ _
  refine ⟨h.s.keep (fun k hk => row_other (by omega) _ _) (show Below w.heap.size w (W.setCell ⟨gB, j, none⟩ u) from Below.setCell h.s.below hw u) (by rw [hsz]; exact h.s.lt3), ?_, hl, ?_⟩
  · rw [obj_set h.box j u, ← e]
    simp
  · rw [hb]
    exact ⟨h.by_.1.keep fun k hk => row_other (fun e => hne (hk.trans (by rw [e]))) _ _, fun k hk => by rw [hsz]; exact h.by_.2 k hk⟩
theorem MidS.cell {w W : World} {gA gR gB n : Nat} {acc : List Vt} {R : Nat → Ros.Race} {sv : Nat → Value} {v : Value} {r : Ros.Race} (h : MidS w W gA gR gB n acc R sv v r) {j : Nat} {u : Value} (hu : (cellsRace v r)[j]? = some u) : W.cell? ⟨gB, j, none⟩ = some u := by
  rw [cell_row h.box, List.getElem?_toArray]
  exact hu
theorem MidS.vote {w W : World} {gA gR gB n : Nat} {acc : List Vt} {R : Nat → Ros.Race} {sv : Nat → Value} {v : Value} {r : Ros.Race} (h : MidS w W gA gR gB n acc R sv v r) {k : Nat} {x : Vt} (hx : acc[k]? = some x) :
    W.cell? ⟨gA, k * 3, none⟩ = some (.int .u64 (x.p : Int)) ∧ W.cell? ⟨gA, k * 3 + 1, none⟩ = some (.int .u64 (x.b : Int)) ∧ W.cell? ⟨gA, k * 3 + 2, none⟩ = some (.string x.s) ∧ W.frozen? ⟨gA, k * 3, none⟩ = false ∧ W.frozen? ⟨gA, k * 3 + 1, none⟩ = false ∧ W.frozen? ⟨gA, k * 3 + 2, none⟩ = false ∧ gA < W.heap.size := by
  obtain ⟨hk, rfl⟩ := List.getElem?_eq_some_iff.1 hx
  rcases h.s.acc_.2 with ⟨e, _⟩ | ⟨g', cap, cur, e, hg, _⟩
  · cases e
  · cases e
    have hc := h.s.acc_.cells ⟨gA, 0, none⟩ ⟨n, rfl⟩
    have c0 := hc (k * 3 + 0) _ (flat_at cellsV_length acc k 0 hk (by omega))
    have c1 := hc (k * 3 + 1) _ (flat_at cellsV_length acc k 1 hk (by omega))
    have c2 := hc (k * 3 + 2) _ (flat_at cellsV_length acc k 2 hk (by omega))
    rw [addr_add, Nat.zero_add] at c0 c1 c2
    exact ⟨c0, c1, c2, obj_frozen hg _, obj_frozen hg _, obj_frozen hg _, obj_lt hg⟩
theorem wrap_u64b {b : Nat} (h : b ≤ 40) : IntKind.u64.wrap (b : Int) = (b : Int) := by
  simp [IntKind.wrap, IntKind.bits, IntKind.signed]
  omega
theorem one_bylen {n : Nat} {acc : List Vt} {R : Nat → Ros.Race} {first : ByteArray} {so : Bool} (h : Ros.One n acc R first so) {b : Nat} (h1 : 1 ≤ b) (h40 : b ≤ 40) (hn : n ≤ 16) : (R b).by_.length ≤ 16 := by
  obtain ⟨V, G, _⟩ := h
  obtain ⟨q, hqn, hql, hq⟩ := G.by_ b h1 h40
  have := nodup_len n q hqn (G.q_lt hql hq)
  omega
theorem row_src {P : Program} {W : World} {e : TypeId} {size n c : Nat} {A : Option Addr} {xs : List Value} {tx e' : TypeId} (hk : P.underlying tx = some (.slice e')) (h : Row W e size (.slice A n c) n xs) (h1 : ∀ u ∈ xs, u.oneCell' = true) : Src P size tx (.slice A n c) n xs W := by
  have hc := h.cells
  rcases h.2 with ⟨hv, rfl⟩ | ⟨g, cap, cur, hv, hg, _⟩
  · cases hv
    obtain rfl : xs = [] := List.eq_nil_of_length_eq_zero (by simpa using h.1)
    exact Src.ofNil W hk 0
  · cases hv
    exact Src.ofSlice W hk _ _ _ _ h.1 (fun j u hu => hc _ ⟨c, rfl⟩ j u hu) h1
theorem votes_one (l : List Vt) : ∀ u ∈ cellsVs l, u.oneCell' = true := by
  intro u hu
  unfold cellsVs at hu
  obtain ⟨v, _, hv⟩ := List.mem_flatMap.1 hu
  unfold cellsV at hv
  simp only [List.mem_cons, List.not_mem_nil, or_false] at hv
  rcases hv with rfl | rfl | rfl <;> rfl
theorem row_madeO {W : World} {e : TypeId} {size L g : Nat} {Z : Array Value} (h : W.heap[g]? = some (.cells Z e (0, 0))) (hZ : L * size ≤ Z.size) (hm : L ≤ maxLen) : Row W e size (.slice (some ⟨g, 0, none⟩) 0 L) 0 [] :=
  ⟨by simp, .inr ⟨g, L, Z, rfl, h, Nat.zero_le _, hm, hZ, by simp⟩⟩
theorem row_builtO {W : World} {e : TypeId} {g : Nat} {v : Vt} (h : W.heap[g]? = some (.cells #[.int .u64 (v.p : Int), .int .u64 (v.b : Int), .string v.s] e (0, 0))) : Row W e 3 (.slice (some ⟨g, 0, none⟩) 1 1) 1 (cellsVs [v]) :=
  ⟨rfl, .inr ⟨g, 1, _, rfl, h, Nat.le_refl _, by decide, Nat.le_refl _, rfl⟩⟩
theorem row_grownO {W W' : World} {e : TypeId} {size n : Nat} {v : Value} {xs : List Value} {row : Option Nat} (h : Row W e size v n xs) (hg : W.grownBy W' row) (hne : ∀ k, row = some k → v.ownBlock ≠ some k) : Row W' e size v n xs :=
  h.keep fun k hk => hg.block k (h.lt hk) (fun e => hne k e.symm hk)
/-- The slice that an append has left lies behind B. -/
theorem own_behind {V : World} {B gm : Nat} {v v' : Value} (hv : v.ownBlock = some gm) (hm : B ≤ gm) (hB : B ≤ V.heap.size) (ha : v'.ownBlock = v.ownBlock ∨ v'.ownBlock = some V.heap.size) : ∀ k, v'.ownBlock = some k → B ≤ k := by
  intro k hk
  rcases ha with e | e
  · rw [e, hv] at hk; cases hk; exact hm
  · rw [e] at hk; cases hk; exact hB
theorem own_behind2 {V : World} {B : Nat} {v v' : Value} (hv : ∀ k, v.ownBlock = some k → B ≤ k) (hB : B ≤ V.heap.size) (ha : v'.ownBlock = v.ownBlock ∨ v'.ownBlock = some V.heap.size) : ∀ k, v'.ownBlock = some k → B ≤ k := by
  intro k hk
  rcases ha with e | e
  · rw [e] at hk; exact hv k hk
  · rw [e] at hk; cases hk; exact hB
theorem MidS.bynew {w W : World} {gA gR gB n : Nat} {acc : List Vt} {R : Nat → Ros.Race} {sv : Nat → Value} {v : Value} {r : Ros.Race} (h : MidS w W gA gR gB n acc R sv v r) {v2 : Value} {l2 : List Vt} (hr : Row W 24 3 v2 l2.length (cellsVs l2)) (ho : ∀ k, v2.ownBlock = some k → gB < k) (hw : w.heap.size ≤ gB) :
    MidS w (W.setCell ⟨gB, 0, none⟩ v2) gA gR gB n acc R sv v2 { r with by_ := l2 } := by
  have hsz : (W.setCell ⟨gB, 0, none⟩ v2).heap.size = W.heap.size := World.size_setCell _ _ _
  have h2 := h.s.lt2
  refine ⟨h.s.keep (fun k hk => row_other (by omega) _ _) (show Below w.heap.size w (W.setCell ⟨gB, 0, none⟩ v2) from Below.setCell h.s.below hw v2) (by rw [hsz]; exact h.s.lt3), ?_, h.has, ?_, ?_⟩
  · rw [obj_set h.box 0 v2]
    simp [cellsRace]
  · exact hr.keep fun k hk => row_other (by have := ho k hk; omega) _ _
  · intro k hk
    have := ho k hk
    rw [hsz]
    exact ⟨by omega, hr.lt hk⟩
theorem act8 {W : World} {A : Option Addr} {m : Nat} {xs : List Ac8} (h : ArgAt W 3 A m (xs.flatMap cellsA)) (hm : xs.length = m) (k : Nat) (hk : k < m) :
    ∃ (a : Addr) (x : Ac8), A = some a ∧ a.block < W.heap.size ∧ x ∈ xs ∧ W.cell? (a.add (k * 3)) = some (.int .i64 x.d) ∧ W.cell? ⟨(a.add (k * 3)).block, (a.add (k * 3)).off + 1, none⟩ = some (.int .i64 x.b) ∧ W.cell? ⟨(a.add (k * 3)).block, (a.add (k * 3)).off + 2, none⟩ = some (.int .i64 x.a) := by
  obtain ⟨a, hl, e, hb, hc⟩ := h.at_ cellsA_length (by omega) k hk
  have c0 := hc 0 _ (by omega) rfl
  have c1 := hc 1 _ (by omega) rfl
  have c2 := hc 2 _ (by omega) rfl
  rw [add_pos' _ 1 (by omega)] at c1
  rw [add_pos' _ 2 (by omega)] at c2
  exact ⟨a, xs[k], e, hb, List.getElem_mem hl, c0, c1, c2⟩
theorem race_size : (Try.prog.info? 50).map (·.size) = some 19 := by kernel_rfl
theorem u64_nat (i : Int) : ∃ u : Nat, IntKind.u64.wrap i = (u : Int) := by
  refine ⟨(i % 18446744073709551616).toNat, ?_⟩
  simp [IntKind.wrap, IntKind.bits, IntKind.signed]
  omega
theorem act_b (i : Int) : ∃ b : Nat, wrap64 (1 + wrap64 ((IntKind.u64.wrap i).tmod 40)) = (b : Int) ∧ 1 ≤ b ∧ b ≤ 40 := by
  obtain ⟨u, hu⟩ := u64_nat i
  rw [hu, Int.tmod_eq_emod_of_nonneg (by omega), w64 (n := (u : Int) % 40) (by omega) (by omega), w64 (by omega) (by omega)]
  exact ⟨u % 40 + 1, by omega, by omega, by omega⟩
theorem act_a (i : Int) (n : Nat) (h1 : 1 ≤ n) (h16 : n ≤ 16) : ∃ a : Nat, wrap64 ((IntKind.u64.wrap i).tmod (IntKind.u64.wrap (n : Int))) = (a : Int) ∧ a < n ∧ wrap64 ((IntKind.u64.wrap i).tmod (n : Int)) = (a : Int) := by
  obtain ⟨u, hu⟩ := u64_nat i
  have hn : IntKind.u64.wrap (n : Int) = (n : Int) := by
    simp [IntKind.wrap, IntKind.bits, IntKind.signed]
    omega
  have hlt : u % n < n := Nat.mod_lt _ (by omega)
  have e : ((u : Int).tmod (n : Int)) = ((u % n : Nat) : Int) := by
    rw [Int.tmod_eq_emod_of_nonneg (by omega)]
    exact (Int.natCast_emod u n).symm
  rw [hu, hn, e, w64 (by omega) (by omega)]
  exact ⟨u % n, rfl, hlt, rfl⟩
theorem act_d (i : Int) : (IntKind.u64.wrap i).tmod 3 = 0 ∨ (IntKind.u64.wrap i).tmod 3 = 1 ∨ (IntKind.u64.wrap i).tmod 3 = 2 := by
  obtain ⟨u, hu⟩ := u64_nat i
  rw [hu, Int.tmod_eq_emod_of_nonneg (by omega)]
  omega
end Go.Proofs.Ytcfaeddjohpohaa
