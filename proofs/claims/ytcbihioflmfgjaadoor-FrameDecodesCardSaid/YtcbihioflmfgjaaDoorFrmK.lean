/-
  Words for the walk of read: what a round abides, a frame's box stored into. Conditions: none.
-/
import Derived.Test.YtcbihioflmfgjaaDoorFrmI
namespace Ros
open Go Go.RowKit
theorem rd_num (s : ByteArray) (i : Nat) : getN (bl ((s.extract 4 s.size).extract (4 * i) (4 * i + 4))) = numN s (4 + 4 * i) := by
  unfold numN
  congr 1
  rw [bl_extract, bl_extract, bl_extract, size_bl, List.take_length, List.take_drop, List.drop_drop, show 4 + (4 * i + 4) = 4 + 4 * i + 4 by omega]
theorem rd_len (s : ByteArray) (_ : 4 ≤ s.size) : (numL (s.extract 4 s.size)).length = (s.size - 4) / 4 := by
  rw [numL_len, ByteArray.size_extract, Nat.min_self]
theorem getN_u32 (l : List UInt8) : getN l < 4294967296 := by
  by_cases h : l.length = 4
  · rw [(getN_yes h).1]
    have := le_lt l
    rw [h] at this
    simpa using this
  · rw [(getN_no h).1]; omega
theorem wrap_u64 {n : Nat} (h : n ≤ 1000000) : IntKind.u64.wrap (n : Int) = (n : Int) := by
  simp [IntKind.wrap, IntKind.bits, IntKind.signed]
  omega
theorem okF_rd {wi : Int} {b2 b3 n4 n8 n12 hv : Nat} {d : ByteArray} (hw : wi = 1 ∨ wi = 2) (h2 : b2 < 256) (h3 : b3 < 256) (h4 : n4 < 4294967296) (h8 : n8 < 4294967296) (h12 : n12 < 4294967296) (hh : hv < 4294967296) (hd : d.size ≤ maxLen) :
    okF ⟨wi, (b2 : Int), (b3 : Int) / 16, (b3 : Int) % 16, n4, n8, n12, hv, d⟩ := by
  constructor
  · show -9223372036854775808 ≤ wi ∧ wi ≤ 9223372036854775807
    omega
  · show -9223372036854775808 ≤ (b2 : Int) ∧ (b2 : Int) ≤ 9223372036854775807
    omega
  · show -9223372036854775808 ≤ (b3 : Int) / 16 ∧ (b3 : Int) / 16 ≤ 9223372036854775807
    omega
  · show -9223372036854775808 ≤ (b3 : Int) % 16 ∧ (b3 : Int) % 16 ≤ 9223372036854775807
    omega
  · exact h4
  · exact h8
  · exact h12
  · exact hh
  · exact hd
theorem numN_lt (s : ByteArray) (i : Nat) : numN s i < 4294967296 := getN_u32 _
/-- A range over a function in a block that its rounds may leave: one way on. -/
theorem range_break {α : Type} {P : Program} {g : Operand} {ps : Array Tmp} {assign body : Code} {Q : Exit → Act → World → Prop} {a : Act} {w : World} {id : Nat}
    {gf : Nat} {lb : Array Value} (hg : a.eval g = .func (.func gf) #[] lb) (eg : ∀ args w, (callFunc gf args).run P w = .ok (.enter gf args) w)
    {encs : α → Array Value} {Rd : List α → World → Prop} {xs : List α} (hit : IterOn P gf lb encs Rd xs) (hps : ∀ x, (encs x).size = ps.size)
    (I : List α → World → Prop) (Ix : Code → List α → World → Prop) (Fin : World → Prop) (hI : OwnFrom w.heap.size I) (hIx : ∀ c, OwnFrom w.heap.size (Ix c)) (hRd : ∀ pre A, I pre A → Rd pre A)
    (hF : ∀ W, I xs W → Fin W) (hX : ∀ c pre W, Ix c pre W → c = .exit id ∧ Fin W) (h0 : I [] w)
    (hround : ∀ (l : Nat) (pre : List α) (x : α) (post : List α) (W : World), xs = pre ++ x :: post → w.heap.size < l → l < W.heap.size → I pre W →
      assign.wpIn (Fence.wide.inRound l) 0 P (Exit.then (roundFrom P l body w.heap.size I Ix pre x W) (fun _ _ _ => False)) { tmps := (ps.zip (encs x)).foldl (fun t (p, v) => t.setIfInBounds p v) a.tmps, defers := [] } W)
    (htail : ∀ (D : Nat) (W : World), w.heap.size ≤ D → Fin W → W.heap[D]? = some (.deferred (some [])) → Q .normal { a with defers := { target := .collected D, args := #[] } :: a.defers } W) :
    (Code.rangeFunc g ps assign body).wp P (Exit.inBlock id Q) a w :=
  range_lawP hg eg hit hps I Ix hI hIx hRd h0 hround (fun D W h1 h2 h3 => htail D W h1 (hF W h2) h3) (fun D c pre W h1 _ h3 h4 => by
    obtain ⟨rfl, hf⟩ := hX _ _ _ h3
    exact wp_exit (by simpa [Exit.inBlock] using htail D W h1 hf h4))
theorem rd_frame1 (s : ByteArray) (h : byteN s 1 = 1) : frameOf s = ⟨1, (byteN s 2 : Int), (byteN s 3 : Int) / 16, (byteN s 3 : Int) % 16, numN s 4, numN s 8, numN s 12, 0, s.extract 20 s.size⟩ ∧ sizeN s = numN s 16 ∧ aheadN s = 20 := by
  have ha : aheadN s = 20 := by unfold aheadN; rw [h]; rfl
  refine ⟨?_, by unfold sizeN; rw [ha], ha⟩
  unfold frameOf
  rw [ha, h]
  simp
theorem rd_frame2 (s : ByteArray) (h : byteN s 1 = 2) : frameOf s = ⟨2, (byteN s 2 : Int), (byteN s 3 : Int) / 16, (byteN s 3 : Int) % 16, numN s 4, numN s 8, numN s 12, numN s 16, s.extract 24 s.size⟩ ∧ sizeN s = numN s 20 ∧ aheadN s = 24 := by
  have ha : aheadN s = 24 := by unfold aheadN; rw [h]; rfl
  refine ⟨?_, by unfold sizeN; rw [ha], ha⟩
  unfold frameOf
  rw [ha, h]
  simp
end Ros
namespace Go.Proofs.YtcbihioflmfgjaaDoor
open Go.RowKit Go.Shelf Ros Go.Maps
attribute [local go_sem] Oper.semAt_some
set_option linter.unusedVariables false
theorem numL_mid {s : ByteArray} {pre post : List (Nat × Nat)} {x : Nat × Nat} (h : numL s = pre ++ x :: post) : x = (pre.length, getN (bl (s.extract (4 * pre.length) (4 * pre.length + 4)))) ∧ pre.length < (numL s).length := by
  have hl : pre.length < (numL s).length := by rw [h]; simp
  refine ⟨?_, hl⟩
  rw [← numL_get s pre.length hl]
  simp [h]
theorem rd_end (s : ByteArray) (x : Fr) (N ah : Nat) (a0 a1 : Addr) (h0 : byteN s 0 = 72) (h1 : isW (byteN s 1 : Int)) (hz : ah ≤ s.size) (h2 : 2 ≤ ah) (hf : frameOf s = x) (hn : sizeN s = N) (ha : aheadN s = ah) :
    (N ≠ s.size - ah ∨ rightB x = false → errV a0 a1 (readE s) = .iface 96 (.pointer (some a0)) ∧ readR s = zeroFr) ∧ (N = s.size - ah → rightB x = true → errV a0 a1 (readE s) = .nilIface ∧ readR s = x) := by
  have e : readE s = if N ≠ s.size - ah ∨ rightB x = false then 20 else 0 := by
    unfold readE
    rw [if_neg (by omega), if_neg (not_not_intro h1), if_neg (by omega), hf, hn, ha]
  constructor
  · intro h
    rw [if_pos h] at e
    refine ⟨?_, ?_⟩
    · rw [e]; rfl
    · unfold readR; rw [e]; rfl
  · intro hN hr
    rw [if_neg (by rw [hr]; simp [hN])] at e
    refine ⟨?_, ?_⟩
    · rw [e]; rfl
    · unfold readR; rw [e, if_pos rfl, hf]
/-- The cells of Z have been stored into; all else lies as it lay. -/
structure Stored (V U : World) (Z : Nat) (cs : Array Value) (t : TypeId) : Prop where
  at_ : U.heap[Z]? = some (.cells cs t (0, 0))
  far : ∀ (b : Nat) (o : Obj), b ≠ Z → V.heap[b]? = some o → U.heap[b]? = some o
  below : ∀ (B : Nat) (w : World), B ≤ Z → Below B w V → Below B w U
theorem Stored.start {V : World} {Z : Nat} {cs : Array Value} {t : TypeId} (h : V.heap[Z]? = some (.cells cs t (0, 0))) : Stored V V Z cs t := ⟨h, fun _ _ _ h => h, fun _ _ _ h => h⟩
theorem Stored.step {V U : World} {Z : Nat} {cs cs' : Array Value} {t : TypeId} (h : Stored V U Z cs t) (j : Nat) (v : Value) (e : cs.setIfInBounds j v = cs') : Stored V (U.setCell ⟨Z, j, none⟩ v) Z cs' t := by
  refine ⟨by rw [← e]; exact obj_set h.at_ j v, fun b o hb ho => obj_far (h.far b o hb ho) (p := ⟨Z, j, none⟩) hb v, fun B w hB hb => (show Below B w (U.setCell ⟨Z, j, none⟩ v) from Below.setCell (h.below B w hB hb) hB v)⟩
theorem Stored.drew {V U : World} {Z : Nat} {cs : Array Value} {t : TypeId} (h : Stored V U Z cs t) : Stored V U.drew Z cs t := ⟨h.at_, h.far, fun B w hB hb => (h.below B w hB hb).drew⟩
theorem fr_stored0 {V : World} {Z : Nat} {t : TypeId} {o0 o1 o2 o3 o4 o5 o6 o7 o8 : Value} (v0 v1 v2 v3 v4 v5 v6 v7 v8 : Value) (h : V.heap[Z]? = some (.cells #[o0, o1, o2, o3, o4, o5, o6, o7, o8] t (0, 0))) :
    Stored V (((((((((V.setCell ⟨Z, 0, none⟩ v0).setCell ⟨Z, 1, none⟩ v1).setCell ⟨Z, 2, none⟩ v2).setCell ⟨Z, 3, none⟩ v3).setCell ⟨Z, 4, none⟩ v4).setCell ⟨Z, 5, none⟩ v5).setCell ⟨Z, 6, none⟩ v6).setCell ⟨Z, 7, none⟩ v7).setCell ⟨Z, 8, none⟩ v8) Z #[v0, v1, v2, v3, v4, v5, v6, v7, v8] t :=
  ((((((((((Stored.start h).step 0 v0 (cs' := #[v0, o1, o2, o3, o4, o5, o6, o7, o8]) rfl).step 1 v1 (cs' := #[v0, v1, o2, o3, o4, o5, o6, o7, o8]) rfl).step 2 v2 (cs' := #[v0, v1, v2, o3, o4, o5, o6, o7, o8]) rfl).step 3 v3 (cs' := #[v0, v1, v2, v3, o4, o5, o6, o7, o8]) rfl).step 4 v4 (cs' := #[v0, v1, v2, v3, v4, o5, o6, o7, o8]) rfl).step 5 v5 (cs' := #[v0, v1, v2, v3, v4, v5, o6, o7, o8]) rfl).step 6 v6 (cs' := #[v0, v1, v2, v3, v4, v5, v6, o7, o8]) rfl).step 7 v7 (cs' := #[v0, v1, v2, v3, v4, v5, v6, v7, o8]) rfl).step 8 v8 (cs' := #[v0, v1, v2, v3, v4, v5, v6, v7, v8]) rfl)
theorem fr_stored {V : World} {Z : Nat} {t : TypeId} {o0 o1 o2 o3 o4 o5 o6 o7 o8 : Value} (v0 v1 v2 v3 v4 v5 v6 v7 v8 : Value) (h : V.heap[Z]? = some (.cells #[o0, o1, o2, o3, o4, o5, o6, o7, o8] t (0, 0))) :
    Stored V (((((((((V.setCell ⟨Z, 0, none⟩ v0).setCell ⟨Z, 1, none⟩ v1).setCell ⟨Z, 2, none⟩ v2).setCell ⟨Z, 3, none⟩ v3).setCell ⟨Z, 4, none⟩ v4).setCell ⟨Z, 5, none⟩ v5).setCell ⟨Z, 6, none⟩ v6).setCell ⟨Z, 7, none⟩ v7).setCell ⟨Z, 8, none⟩ v8).drew Z #[v0, v1, v2, v3, v4, v5, v6, v7, v8] t :=
  Stored.drew (fr_stored0 v0 v1 v2 v3 v4 v5 v6 v7 v8 h)
set_option maxHeartbeats 1000000 in
theorem loadFr {U : World} {Z : Nat} {i0 i1 i2 i3 i4 i5 i6 i7 : Int} {s : ByteArray} (h : U.heap[Z]? = some (.cells #[.int .i64 i0, .int .i64 i1, .int .i64 i2, .int .i64 i3, .int .u32 i4, .int .u32 i5, .int .u32 i6, .int .u32 i7, .string s] 24 (0, 0))) :
    (loadVar 24 ⟨Z, 0, none⟩).run Tryd.prog U = .ok (.agg #[.int .i64 i0, .int .i64 i1, .int .i64 i2, .int .i64 i3, .int .u32 i4, .int .u32 i5, .int .u32 i6, .int .u32 i7, .string s]) U := by
  obtain ⟨d0, d1, d2, d3, d4, d5, d6, d7, d8, df, dl⟩ := cells9 h
  clear h df dl
  go_simp
theorem results_fr {fn : Func} {p q : Tmp} (hf : fn.results = #[.cell p 24, .tmp q]) {tmps : Array Value} {V : World} {Z D : Nat} {i0 i1 i2 i3 i4 i5 i6 i7 : Int} {s : ByteArray} (h : V.heap[Z]? = some (.cells #[.int .i64 i0, .int .i64 i1, .int .i64 i2, .int .i64 i3, .int .u32 i4, .int .u32 i5, .int .u32 i6, .int .u32 i7, .string s] 24 (0, 0))) (hne : Z ≠ D)
    (hp : tmps.getD p undef = .pointer (some ⟨Z, 0, none⟩)) : (results fn tmps).run Tryd.prog (V.putObj D (.deferred none)) = .ok (.tuple #[.agg #[.int .i64 i0, .int .i64 i1, .int .i64 i2, .int .i64 i3, .int .u32 i4, .int .u32 i5, .int .u32 i6, .int .u32 i7, .string s], tmps.getD q undef]) (V.putObj D (.deferred none)) := by
  rw [results_cell2 hf, hp]
  have hl := loadFr ((World.putObj_heap_other (w := V) (o := .deferred none) hne).trans h)
  generalize V.putObj D (.deferred none) = U at *
  simp only [asAddr, Sem.run_pure, Result.andThen_ok, hl]
/-- What a round of the reading abides. -/
def RdW (s u : ByteArray) (k F G T Pb Zb Bs : Nat) (b1 b2 b3 b4 : Int) (d : ByteArray) (w : World) (m : Nat) (W : World) : Prop :=
  RdI s k F G T b1 b2 b3 b4 d m W ∧ W.heap[Pb]? = some (.cells #[.slice (some ⟨T, 0, none⟩) (k + 1) (k + 1)] 70 (0, 0)) ∧ W.heap[Zb]? = some (.cells #[.int .i64 0, .int .i64 0, .int .i64 0, .int .i64 0, .int .u32 0, .int .u32 0, .int .u32 0, .int .u32 0, .string ⟨#[]⟩] 24 (0, 0)) ∧
    W.heap[Bs]? = some (.cells #[.string u] 9 (0, 0)) ∧ Below w.heap.size w W
theorem own_rdw {β : Type} {s u : ByteArray} {k F G T Pb Zb Bs : Nat} {b1 b2 b3 b4 : Int} {d : ByteArray} {w : World} {B : Nat} (f : β → Nat) (hB : w.heap.size ≤ B) : OwnFrom B (fun (x : β) W => RdW s u k F G T Pb Zb Bs b1 b2 b3 b4 d w (f x) W) :=
  ((own_cells _ _ _ _ _).and ((own_cells _ _ _ _ _).and (own_cells _ _ _ _ _))).and ((own_cells _ _ _ _ _).and ((own_cells _ _ _ _ _).and ((own_cells _ _ _ _ _).and (own_below (Nat.le_refl _) hB))))
def RdL (s u : ByteArray) (k F G T Pb Zb Bs : Nat) (b1 b2 b3 b4 : Int) (d : ByteArray) (w : World) (pre : List (Nat × Nat)) (W : World) : Prop :=
  pre.length ≤ k + 1 ∧ RdW s u k F G T Pb Zb Bs b1 b2 b3 b4 d w pre.length W
def RdX (s u : ByteArray) (k F G T Pb Zb Bs : Nat) (b1 b2 b3 b4 : Int) (d : ByteArray) (w : World) (c : Code) (pre : List (Nat × Nat)) (W : World) : Prop :=
  c = .exit 0 ∧ RdW s u k F G T Pb Zb Bs b1 b2 b3 b4 d w (k + 1) W
theorem own_rdl {s u : ByteArray} {k F G T Pb Zb Bs : Nat} {b1 b2 b3 b4 : Int} {d : ByteArray} {w : World} {B : Nat} (hB : w.heap.size ≤ B) : OwnFrom B (RdL s u k F G T Pb Zb Bs b1 b2 b3 b4 d w) :=
  (own_pure _ _).and (own_rdw (fun pre : List (Nat × Nat) => pre.length) hB)
theorem own_rdx {s u : ByteArray} {k F G T Pb Zb Bs : Nat} {b1 b2 b3 b4 : Int} {d : ByteArray} {w : World} {B : Nat} (hB : w.heap.size ≤ B) (c : Code) : OwnFrom B (RdX s u k F G T Pb Zb Bs b1 b2 b3 b4 d w c) :=
  (own_pure _ _).and (own_rdw (fun _ => k + 1) hB)
end Go.Proofs.YtcbihioflmfgjaaDoor
