/-
  FlightSent, walked. Conditions: none but the arguments' own.
-/
import Derived.Test.YtlfbmicpaacbnaaFliP
import Derived.BigQuiet
import Derived.Deep.QuietTactic
import Derived.BigRegion
namespace Ros
open Go Go.RowKit
/-- What FlightSent keeps. -/
structure SentI (f : Fs) (sl : List Nt) (k : Nat) : Prop where
  le : f.n ≤ k
  len : f.l.length ≤ k
  lenS : sl.length = 200
  old : ∀ x ∈ f.l, x.id ≤ f.n ∧ sl.getD x.id nt0 = x
theorem SentI.start : SentI ⟨0, []⟩ (List.replicate 200 nt0) 0 := ⟨Nat.le_refl _, Nat.le_refl _, List.length_replicate, fun x hx => by simp at hx⟩
theorem SentI.more {f : Fs} {sl : List Nt} {k : Nat} (h : SentI f sl k) : SentI f sl (k + 1) := ⟨by have := h.le; omega, by have := h.len; omega, h.lenS, h.old⟩
theorem SentI.launch {f : Fs} {sl : List Nt} {k : Nat} (h : SentI f sl k) (hk : k < 60) (to : Int) (s : ByteArray) :
    (mlaunch f to s).1 = (f.n + 1, 0) ∧ (mlaunch f to s).2.n = f.n + 1 ∧ SentI (mlaunch f to s).2 (sl.set (f.n + 1) ⟨f.n + 1, to, s⟩) (k + 1) := by
  have h1 := h.le
  have h2 := h.len
  have h3 := h.lenS
  unfold mlaunch
  rw [if_neg (by omega), Nat.mod_eq_of_lt (by omega)]
  refine ⟨rfl, rfl, ⟨by simp only []; omega, by simp; omega, by simpa using h3, fun x hx => ?_⟩⟩
  simp only [] at hx ⊢
  rw [List.getD_eq_getElem?_getD, List.getElem?_set]
  rcases List.mem_append.1 hx with hx | hx
  · have := h.old x hx
    rw [if_neg (by omega), ← List.getD_eq_getElem?_getD]
    exact ⟨by omega, this.2⟩
  · simp at hx; subst hx
    rw [if_pos rfl, if_pos (by omega)]
    exact ⟨Nat.le_refl _, rfl⟩
theorem SentI.send {f : Fs} {sl : List Nt} {k : Nat} (h : SentI f sl k) (hk : k < 60) (to : Int) (s : ByteArray) :
    ((msend f to s).1.2 = 2 ∧ (msend f to s).2 = f) ∨ ((msend f to s).1 = (f.n + 1, 0) ∧ (msend f to s).2.n = f.n + 1 ∧ SentI (msend f to s).2 (sl.set (f.n + 1) ⟨f.n + 1, to, s⟩) (k + 1)) := by
  unfold msend
  split
  · exact .inl ⟨rfl, rfl⟩
  · exact .inr (h.launch hk to s)
theorem SentI.copy {f : Fs} {sl : List Nt} {k : Nat} (h : SentI f sl k) (hk : k < 60) (a : Int) :
    ((mcopy f a).1.2 = 2 ∧ (mcopy f a).2 = f) ∨ (∃ (j : Nat) (hj : j < f.l.length), a = (j : Int) ∧ (mcopy f a).1 = (f.n + 1, 0) ∧ (mcopy f a).2.n = f.n + 1 ∧ SentI (mcopy f a).2 (sl.set (f.n + 1) ⟨f.n + 1, f.l[j].to, f.l[j].s⟩) (k + 1)) := by
  unfold mcopy
  split
  · rename_i hb
    obtain ⟨h0, h1⟩ := isB_iff.1 hb
    obtain ⟨j, rfl⟩ := Int.eq_ofNat_of_zero_le h0
    have hj : j < f.l.length := by omega
    have hg : f.l.getD (Int.toNat (j : Int)) nt0 = f.l[j] := by simp [hj]
    rw [hg]
    exact .inr ⟨j, hj, rfl, h.launch hk _ _⟩
  · exact .inl ⟨rfl, rfl⟩
theorem SentI.take {f : Fs} {sl : List Nt} {k : Nat} (h : SentI f sl k) (a : Int) :
    ((mtake f a).1.2 = 2 ∧ (mtake f a).2 = f) ∨ ((mtake f a).1.2 = 0 ∧ (mtake f a).1.1.id ≤ f.n ∧ sl.getD (mtake f a).1.1.id nt0 = (mtake f a).1.1 ∧ (mtake f a).2.n = f.n ∧ SentI (mtake f a).2 sl k) := by
  unfold mtake
  split
  · rename_i hb
    obtain ⟨h0, h1⟩ := isB_iff.1 hb
    have hlt : a.toNat < f.l.length := by omega
    have hg : f.l.getD a.toNat nt0 = f.l[a.toNat] := by rw [List.getD_eq_getElem?_getD, List.getElem?_eq_getElem hlt]; rfl
    have hm := h.old _ (List.getElem_mem hlt)
    have hs := List.eraseIdx_sublist f.l a.toNat
    right
    dsimp only
    rw [hg]
    exact ⟨rfl, hm.1, hm.2, rfl, ⟨h.le, Nat.le_trans hs.length_le h.len, h.lenS, fun x hx => h.old x (hs.subset hx)⟩⟩
  · exact .inl ⟨rfl, rfl⟩
theorem SentI.drop {f : Fs} {sl : List Nt} {k : Nat} (h : SentI f sl k) (a : Int) : (mtake f a).2.n = f.n ∧ SentI (mtake f a).2 sl (k + 1) := by
  rcases h.take a with ⟨hs1, hs2⟩ | ⟨hs1, hs2, hs3, hs4, hs5⟩
  · rw [hs2]; exact ⟨rfl, h.more⟩
  · exact ⟨hs4, hs5.more⟩
theorem cellsNs_store (sl : List Nt) (i : Nat) (x : Nt) (hi : i < sl.length) :
    (((cellsNs sl).toArray.setIfInBounds (i * 3) (.int .u32 (x.id : Int))).setIfInBounds (i * 3 + 1) (.int .i64 x.to)).setIfInBounds (i * 3 + 2) (.string x.s) = (cellsNs (sl.set i x)).toArray := by
  rw [List.setIfInBounds_toArray, List.setIfInBounds_toArray, List.setIfInBounds_toArray]
  congr 1
  induction sl generalizing i with
  | nil => simp at hi
  | cons a t ih =>
    cases i with
    | zero => simp [cellsNs, cellsN]
    | succ i =>
      have := ih i (by simpa using hi)
      simp only [cellsNs, cellsN, List.flatMap_cons, List.set_cons_succ, List.cons_append, List.nil_append] at this ⊢
      rw [show (i + 1) * 3 = i * 3 + 2 + 1 by omega, show i * 3 + 2 + 1 + 1 = i * 3 + 1 + 1 + 1 + 1 by omega, show i * 3 + 2 + 1 + 2 = i * 3 + 2 + 1 + 1 + 1 by omega]
      simp only [List.set_cons_succ]
      rw [this]
theorem sl_cells {W : World} {gs : Nat} {sl : List Nt} {t : TypeId} (h : W.heap[gs]? = some (.cells (cellsNs sl).toArray t (0, 0))) (i : Nat) (hi : i < sl.length) :
    W.cell? ⟨gs, i * 3, none⟩ = some (.int .u32 ((sl.getD i nt0).id : Int)) ∧ W.cell? ⟨gs, i * 3 + 1, none⟩ = some (.int .i64 (sl.getD i nt0).to) ∧ W.cell? ⟨gs, i * 3 + 2, none⟩ = some (.string (sl.getD i nt0).s) ∧
      W.frozen? ⟨gs, i * 3, none⟩ = false ∧ W.frozen? ⟨gs, i * 3 + 1, none⟩ = false ∧ W.frozen? ⟨gs, i * 3 + 2, none⟩ = false := by
  have hg : sl.getD i nt0 = sl[i] := by rw [List.getD_eq_getElem?_getD, List.getElem?_eq_getElem hi]; rfl
  rw [hg]
  refine ⟨?_, ?_, ?_, obj_frozen h _, obj_frozen h _, obj_frozen h _⟩
  · rw [cell_row h, List.getElem?_toArray, ← Nat.add_zero (i * 3), cellsNs_at sl i 0 hi (by omega)]; rfl
  · rw [cell_row h, List.getElem?_toArray, cellsNs_at sl i 1 hi (by omega)]; rfl
  · rw [cell_row h, List.getElem?_toArray, cellsNs_at sl i 2 hi (by omega)]; rfl
end Ros
namespace Go.Proofs.Ytlfbmicpaacbnaa
open Go.RowKit Go.Shelf Ros
attribute [local go_sem] Oper.semAt_some
attribute [local go_sem ↓] Go.wp_at_zero Go.wp_at_succ

/-- An array of two hundred notes. -/
theorem zero_notes : ∃ Z, (∀ w : World, (zeroValue 36).run Try.prog w = .ok (.agg Z) w) ∧ Z = (cellsNs (List.replicate 200 nt0)).toArray := by
  have h : (Try.prog.info? 36).map (fun i => i.zero) = some (some (.agg (cellsNs (List.replicate 200 nt0)).toArray)) := by kernel_rfl
  refine ⟨_, fun w => ?_, rfl⟩
  cases hi : Try.prog.info? 36 with
  | none => rw [hi] at h; cases h
  | some i =>
    rw [hi] at h
    have hz : i.zero = some (.agg (cellsNs (List.replicate 200 nt0)).toArray) := by simpa using h
    generalize (cellsNs (List.replicate 200 nt0)).toArray = Z at *
    simp [zeroValue, typeInfo, hi, hz]

section
variable {w0 W W' : World} {S S' : Nat → Prop} {g : Nat} {f f' : Fs} {gm : Nat} {o : Obj}
theorem all_kept (h : KeptAt w0 W S g f gm o) (hl : f.l.length ≤ 1000) :
    Calls Try.prog 13 #[.pointer (some ⟨g, 0, none⟩)] W fun e W' => ∃ A c, e = .returned (.slice A f.l.length c) ∧ Row W' 35 3 (.slice A f.l.length c) f.l.length (cellsNs f.l) ∧ (∀ k, (Value.slice A f.l.length c).ownBlock = some k → ¬ S k) ∧ KeptAt w0 W' S g f gm o ∧ Below W.heap.size W W' :=
  (all_law h.1 hl).mono fun _ _ ⟨A, c, he, hr, ho, hf, hb⟩ => ⟨A, c, he, hr, fun k hk hs => by have h1 := ho k hk; have h2 := h.1.1.lt k hs; omega, h.below hb, hb⟩
theorem copy_kept2 (h : KeptAt w0 W S g f gm o) (hl : f.l.length ≤ 1000) (a : Int) {e : TypeId} {size n : Nat} {v : Value} {xs : List Value} (hr : Row W e size v n xs) (hn : ∀ k, v.ownBlock = some k → ¬ S k) :
    Calls Try.prog 14 #[.pointer (some ⟨g, 0, none⟩), .int .i64 a] W fun e' W' => e' = .returned (.tuple #[.int .u32 ((mcopy f a).1.1 : Int), .int .i64 (mcopy f a).1.2]) ∧ Row W' e size v n xs ∧ ∃ S', KeptAt w0 W' S' g (mcopy f a).2 gm o :=
  (copy_law h.1 hl a).mono fun _ _ ⟨he, S', hf, ht⟩ => ⟨he, hr.keep fun k hk => ht.block k (hr.lt hk) (hn k hk), S', h.turn hf ht⟩
theorem KeptAt.store3 {sl : List Nt} {t : TypeId} (h : KeptAt w0 W S g f gm (.cells (cellsNs sl).toArray t (0, 0))) (hw : w0.heap.size ≤ gm) (i : Nat) (hi : i < sl.length) (x : Nt) :
    KeptAt w0 (((W.setCell ⟨gm, i * 3, none⟩ (.int .u32 (x.id : Int))).setCell ⟨gm, i * 3 + 1, none⟩ (.int .i64 x.to)).setCell ⟨gm, i * 3 + 2, none⟩ (.string x.s)) S g f gm (.cells (cellsNs (sl.set i x)).toArray t (0, 0)) := by
  rw [← cellsNs_store sl i x hi]
  exact ((h.set_ hw (i * 3) _).set_ hw (i * 3 + 1) _).set_ hw (i * 3 + 2) _
end

/-- Two blocks of the law's own. -/
def Kept2 (w0 W : World) (S : Nat → Prop) (g : Nat) (f : Fs) (gm : Nat) (o : Obj) (gx : Nat) (ox : Obj) : Prop := KeptAt w0 W S g f gm o ∧ W.heap[gx]? = some ox ∧ ¬ S gx
section
variable {w0 W W' : World} {S S' : Nat → Prop} {g : Nat} {f f' : Fs} {gm : Nat} {o : Obj} {gx : Nat} {ox : Obj}
theorem KeptAt.drewN (h : KeptAt w0 W S g f gm o) (n : Nat) : KeptAt w0 (W.drewN n) S g f gm o :=
  ⟨⟨h.1.1, ⟨h.1.2.1.os, h.1.2.1.tape, h.1.2.1.output, h.1.2.1.size, h.1.2.1.block⟩, h.1.2.2⟩, h.2⟩
theorem Kept2.new (h : KeptAt w0 W S g f gm o) (ox : Obj) : Kept2 w0 (W.alloc ox) S g f gm o W.heap.size ox := ⟨h.alloc ox, World.alloc_heap_new W ox, fun hs => by have := h.1.1.lt _ hs; omega⟩
theorem Kept2.turn (h : Kept2 w0 W S g f gm o gx ox) (hf : LawAt w0 W' S' g f') (ht : Turn S S' W W') : Kept2 w0 W' S' g f' gm o gx ox := by
  obtain ⟨h1, h2, h3⟩ := Turn.not_ ht h.2.2 (obj_lt h.2.1)
  exact ⟨h.1.turn hf ht, h3.trans h.2.1, h1⟩
theorem Kept2.alloc (h : Kept2 w0 W S g f gm o gx ox) (o' : Obj) : Kept2 w0 (W.alloc o') S g f gm o gx ox := ⟨h.1.alloc o', obj_alloc h.2.1 o', h.2.2⟩
theorem Kept2.drew (h : Kept2 w0 W S g f gm o gx ox) : Kept2 w0 W.drew S g f gm o gx ox := ⟨h.1.drew, h.2.1, h.2.2⟩
theorem Kept2.below (h : Kept2 w0 W S g f gm o gx ox) (hb : Below W.heap.size W W') : Kept2 w0 W' S g f gm o gx ox := ⟨h.1.below hb, obj_below h.2.1 hb (obj_lt h.2.1), h.2.2⟩
theorem send_k2 (h : Kept2 w0 W S g f gm o gx ox) (hl : f.l.length ≤ 1000) (to : Int) (s : ByteArray) :
    Calls Try.prog 12 #[.pointer (some ⟨g, 0, none⟩), .int .i64 to, .string s] W fun e W' => e = .returned (.tuple #[.int .u32 ((msend f to s).1.1 : Int), .int .i64 (msend f to s).1.2]) ∧ ∃ S', Kept2 w0 W' S' g (msend f to s).2 gm o gx ox :=
  (send_law h.1.1 hl to s).mono fun _ _ ⟨he, S', hf, ht⟩ => ⟨he, S', h.turn hf ht⟩
theorem all_k2 (h : Kept2 w0 W S g f gm o gx ox) (hl : f.l.length ≤ 1000) :
    Calls Try.prog 13 #[.pointer (some ⟨g, 0, none⟩)] W fun e W' => ∃ A c, e = .returned (.slice A f.l.length c) ∧ Row W' 35 3 (.slice A f.l.length c) f.l.length (cellsNs f.l) ∧ (∀ k, (Value.slice A f.l.length c).ownBlock = some k → ¬ S k) ∧ Kept2 w0 W' S g f gm o gx ox :=
  (all_law h.1.1 hl).mono fun _ _ ⟨A, c, he, hr, ho, hf, hb⟩ => ⟨A, c, he, hr, fun k hk hs => by have h1 := ho k hk; have h2 := h.1.1.1.lt k hs; omega, h.below hb⟩
theorem copy_k2 (h : Kept2 w0 W S g f gm o gx ox) (hl : f.l.length ≤ 1000) (a : Int) {e : TypeId} {size n : Nat} {v : Value} {xs : List Value} (hr : Row W e size v n xs) (hn : ∀ k, v.ownBlock = some k → ¬ S k) :
    Calls Try.prog 14 #[.pointer (some ⟨g, 0, none⟩), .int .i64 a] W fun e' W' => e' = .returned (.tuple #[.int .u32 ((mcopy f a).1.1 : Int), .int .i64 (mcopy f a).1.2]) ∧ Row W' e size v n xs ∧ ∃ S', Kept2 w0 W' S' g (mcopy f a).2 gm o gx ox :=
  (copy_law h.1.1 hl a).mono fun _ _ ⟨he, S', hf, ht⟩ => ⟨he, hr.keep fun k hk => ht.block k (hr.lt hk) (hn k hk), S', h.turn hf ht⟩
end
theorem act_box {W : World} {gx : Nat} {x : Ac} {t : TypeId} (h : W.heap[gx]? = some (.cells #[.int .i64 x.d, .int .i64 x.a, .int .i64 x.b, .int .u32 (x.m : Int), .string x.s] t (0, 0))) :
    W.cell? ⟨gx, 0, none⟩ = some (.int .i64 x.d) ∧ W.cell? ⟨gx, 1, none⟩ = some (.int .i64 x.a) ∧ W.cell? ⟨gx, 2, none⟩ = some (.int .i64 x.b) ∧ W.cell? ⟨gx, 3, none⟩ = some (.int .u32 (x.m : Int)) ∧ W.cell? ⟨gx, 4, none⟩ = some (.string x.s) ∧ gx < W.heap.size :=
  ⟨cell_row h 0, cell_row h 1, cell_row h 2, cell_row h 3, cell_row h 4, obj_lt h⟩

theorem act_box5 {W : World} {gx : Nat} {x : Ac} {t : TypeId} (h : W.heap[gx]? = some (.cells #[.int .i64 x.d, .int .i64 x.a, .int .i64 x.b, .int .u32 (x.m : Int), .string x.s] t (0, 0))) :
    W.cell? ⟨gx, 0, none⟩ = some (.int .i64 x.d) ∧ W.cell? ⟨gx, 1, none⟩ = some (.int .i64 x.a) ∧ W.cell? ⟨gx, 2, none⟩ = some (.int .i64 x.b) ∧ W.cell? ⟨gx, 3, none⟩ = some (.int .u32 (x.m : Int)) ∧ W.cell? ⟨gx, 4, none⟩ = some (.string x.s) :=
  ⟨cell_row h 0, cell_row h 1, cell_row h 2, cell_row h 3, cell_row h 4⟩

set_option maxRecDepth 100000 in
set_option maxHeartbeats 20000000 in
theorem flightSent_walk (A : Option Addr) (n c : Nat) (xs : List Ac) (w : World) (ha : ActsAt w A n xs) :
    Calls Try.prog 4 #[.slice A n c] w fun e w' => e = .returned (.bool true) ∧ Below w.heap.size w w' := by
  obtain ⟨Z, hZ, hZe⟩ := zero_notes
  have HZ := Lib.hid hZe
  clear hZe
  have HA := Lib.hid ha
  clear ha
  go_enter Try.func4, Try.ntmps4
  go_wp2_with (first | (go_at_call 10; refine (shown_any _).mono ?_; rintro e W1 ⟨rfl, h1⟩) | (go_at_call 11; refine (new_law h1).mono ?_; rintro e W2 ⟨rfl, h2, _⟩; generalize W1.heap.size = g at h2 ⊢))
  have hgm := World.alloc_heap_new W2 (.cells Z 36)
  have h3 := h2.alloc (.cells Z 36)
  have hns : ¬ W2.heap.size = g := by have := h2.1.lt g rfl; omega
  rw [HZ.out] at hgm h3
  have HGW := Lib.hid h2.2.1.size
  clear h2 h1
  generalize W2.heap.size = gm at *
  rw [HZ.out]
  go_loopw [6] (fun i wr => ∃ (k : Nat) (sl : List Nt) (S : Nat → Prop) (f : Fs), k ≤ 60 ∧ k ≤ n ∧ i = .int .i64 k ∧ SentI f sl k ∧ KeptAt w wr S g f gm (.cells (cellsNs sl).toArray 36 (0, 0))) (fun i _ => 60 - (intOf i).toNat)
  case atStart => exact ⟨0, _, _, ⟨0, []⟩, by omega, by omega, rfl, SentI.start, h3, hgm, hns⟩
  case round =>
    obtain ⟨k, sl, S, f, hk, hkn, rfl, hO, hL⟩ := hrel
    clear h3 hgm hns
    by_cases hlt : k < n ∧ k < 60
    · obtain ⟨hl1, hl2⟩ := hlt
      obtain ⟨a, x, rfl, hox, c0, c1, c2, c3, c4⟩ := act_cells HA.out hL.1.2.1 hl1
      have HX := Lib.hid hox
      have hfn := hO.le
      have hsl := hO.lenS
      have HL := Lib.hid hL
      have HLT := Lib.hid (show ¬ wr.heap.size = gm by have := obj_lt hL.2.1; omega)
      have HO := Lib.hid hO
      have HLE := Lib.hid (show f.l.length ≤ 1000 by have := hO.len; omega)
      clear hL hO hox
      rcases do_of x.d with hm | hm | hm | hm | hm | hm
      · rcases HO.out.send hl2 x.a (cutS x.s) with ⟨hs1, hs2⟩ | ⟨hs1, hs2, hs3⟩
        · have HS := Lib.hid (fun (W : World) (h : Kept2 w W S g f gm (.cells (cellsNs sl).toArray 36 (0, 0)) wr.heap.size (.cells #[.int .i64 x.d, .int .i64 x.a, .int .i64 x.b, .int .u32 (x.m : Int), .string x.s] 38)) => send_k2 h HLE.out x.a (cutS x.s))
          rw [hs1, hs2] at HS
          have HR := Lib.hid HO.out.more
          have HL2 := Lib.hid (Kept2.new HL.out (.cells #[.int .i64 x.d, .int .i64 x.a, .int .i64 x.b, .int .u32 (x.m : Int), .string x.s] 38))
          clear hs1 hs2
          generalize (msend f x.a (cutS x.s)).1.1 = r at *
          go_wp2_with fail
          go_region_held3 (fun w' => w'.cell? ⟨wr.heap.size, 0, none⟩ = some (.int .i64 x.d) ∧ w'.cell? ⟨wr.heap.size, 1, none⟩ = some (.int .i64 x.a) ∧ w'.cell? ⟨wr.heap.size, 2, none⟩ = some (.int .i64 x.b) ∧ w'.cell? ⟨wr.heap.size, 3, none⟩ = some (.int .u32 (x.m : Int)) ∧ w'.cell? ⟨wr.heap.size, 4, none⟩ = some (.string x.s)) (first | exact act_box5 h3.2.1 | go_keep) ((first
            | (go_simp; go_at_call 15; refine (atext_any x _ HX.out.2.2.2.2).mono ?_; rintro e w1 ⟨rfl, rfl⟩)
            | (go_simp; go_at_call 12; refine (HS.out _ (by repeat first | exact HL2.out | apply Kept2.alloc | apply Kept2.drew)).mono ?_; rintro e W3 ⟨rfl, S3, h3⟩)))
          go_wp2
          go_roundw
          case rel => exact ⟨k + 1, _, _, _, by omega, by omega, by go_num, HR.out, h3.1⟩
          case measure => simp [intOf]; omega
        · have HS := Lib.hid (fun (W : World) (h : Kept2 w W S g f gm (.cells (cellsNs sl).toArray 36 (0, 0)) wr.heap.size (.cells #[.int .i64 x.d, .int .i64 x.a, .int .i64 x.b, .int .u32 (x.m : Int), .string x.s] 38)) => send_k2 h HLE.out x.a (cutS x.s))
          rw [hs1] at HS
          have HR := Lib.hid hs3
          have HL2 := Lib.hid (Kept2.new HL.out (.cells #[.int .i64 x.d, .int .i64 x.a, .int .i64 x.b, .int .u32 (x.m : Int), .string x.s] 38))
          clear hs1 hs2 hs3
          generalize (msend f x.a (cutS x.s)).2 = f2 at *
          have hN2 : f.n + 1 < 200 := by omega
          have hNs : f.n + 1 < sl.length := by omega
          generalize f.n + 1 = N2 at *
          clear hfn
          go_wp2_with fail
          go_region_held3 (fun w' => w'.cell? ⟨wr.heap.size, 0, none⟩ = some (.int .i64 x.d) ∧ w'.cell? ⟨wr.heap.size, 1, none⟩ = some (.int .i64 x.a) ∧ w'.cell? ⟨wr.heap.size, 2, none⟩ = some (.int .i64 x.b) ∧ w'.cell? ⟨wr.heap.size, 3, none⟩ = some (.int .u32 (x.m : Int)) ∧ w'.cell? ⟨wr.heap.size, 4, none⟩ = some (.string x.s)) (first | exact act_box5 h3.2.1 | go_keep) ((first
            | (go_simp; go_at_call 15; refine (atext_any x _ HX.out.2.2.2.2).mono ?_; rintro e w1 ⟨rfl, rfl⟩)
            | (go_simp; go_at_call 12; refine (HS.out _ (by repeat first | exact HL2.out | apply Kept2.alloc | apply Kept2.drew)).mono ?_; rintro e W3 ⟨rfl, S3, h3⟩)))
          clear c0 c1 c2 c3 c4
          obtain ⟨b0, b1, b2, b3, b4, b5⟩ := act_box h3.2.1
          obtain ⟨s0, s1, s2, f0, f1, f2'⟩ := sl_cells h3.1.2.1 N2 hNs
          have hgl := obj_lt h3.1.2.1
          have hne : ¬ wr.heap.size = gm := HLT.out
          have hne' : ¬ gm = wr.heap.size := fun e => hne e.symm
          have H3 := Lib.hid h3
          clear h3
          go_wp2_with fail
          go_region_law ((go_simp; go_at_call 15; refine (atext_any x _ HX.out.2.2.2.2).mono ?_; rintro e w1 ⟨rfl, rfl⟩))
          all_goals
            go_wp2
            go_roundw
            case rel => exact ⟨k + 1, _, _, _, by omega, by omega, by go_num, HR.out, (by repeat first | exact H3.out.1.store3 HGW.out N2 hNs ⟨N2, x.a, cutS x.s⟩ | apply KeptAt.drew | apply KeptAt.alloc)⟩
            case measure => simp [intOf]; omega
      · rcases HO.out.send hl2 x.a (cutS x.s) with ⟨hs1, hs2⟩ | ⟨hs1, hs2, hs3⟩
        · have HS := Lib.hid (fun (W : World) (h : Kept2 w W S g f gm (.cells (cellsNs sl).toArray 36 (0, 0)) wr.heap.size (.cells #[.int .i64 x.d, .int .i64 x.a, .int .i64 x.b, .int .u32 (x.m : Int), .string x.s] 38)) => send_k2 h HLE.out x.a (cutS x.s))
          rw [hs1, hs2] at HS
          have HR := Lib.hid HO.out.more
          have HL2 := Lib.hid (Kept2.new HL.out (.cells #[.int .i64 x.d, .int .i64 x.a, .int .i64 x.b, .int .u32 (x.m : Int), .string x.s] 38))
          clear hs1 hs2
          generalize (msend f x.a (cutS x.s)).1.1 = r at *
          go_wp2_with fail
          go_region_held3 (fun w' => w'.cell? ⟨wr.heap.size, 0, none⟩ = some (.int .i64 x.d) ∧ w'.cell? ⟨wr.heap.size, 1, none⟩ = some (.int .i64 x.a) ∧ w'.cell? ⟨wr.heap.size, 2, none⟩ = some (.int .i64 x.b) ∧ w'.cell? ⟨wr.heap.size, 3, none⟩ = some (.int .u32 (x.m : Int)) ∧ w'.cell? ⟨wr.heap.size, 4, none⟩ = some (.string x.s)) (first | exact act_box5 h3.2.1 | go_keep) ((first
            | (go_simp; go_at_call 15; refine (atext_any x _ HX.out.2.2.2.2).mono ?_; rintro e w1 ⟨rfl, rfl⟩)
            | (go_simp; go_at_call 12; refine (HS.out _ (by repeat first | exact HL2.out | apply Kept2.alloc | apply Kept2.drew)).mono ?_; rintro e W3 ⟨rfl, S3, h3⟩)))
          go_wp2
          go_roundw
          case rel => exact ⟨k + 1, _, _, _, by omega, by omega, by go_num, HR.out, h3.1⟩
          case measure => simp [intOf]; omega
        · have HS := Lib.hid (fun (W : World) (h : Kept2 w W S g f gm (.cells (cellsNs sl).toArray 36 (0, 0)) wr.heap.size (.cells #[.int .i64 x.d, .int .i64 x.a, .int .i64 x.b, .int .u32 (x.m : Int), .string x.s] 38)) => send_k2 h HLE.out x.a (cutS x.s))
          rw [hs1] at HS
          have HR := Lib.hid hs3
          have HL2 := Lib.hid (Kept2.new HL.out (.cells #[.int .i64 x.d, .int .i64 x.a, .int .i64 x.b, .int .u32 (x.m : Int), .string x.s] 38))
          clear hs1 hs2 hs3
          generalize (msend f x.a (cutS x.s)).2 = f2 at *
          have hN2 : f.n + 1 < 200 := by omega
          have hNs : f.n + 1 < sl.length := by omega
          generalize f.n + 1 = N2 at *
          clear hfn
          go_wp2_with fail
          go_region_held3 (fun w' => w'.cell? ⟨wr.heap.size, 0, none⟩ = some (.int .i64 x.d) ∧ w'.cell? ⟨wr.heap.size, 1, none⟩ = some (.int .i64 x.a) ∧ w'.cell? ⟨wr.heap.size, 2, none⟩ = some (.int .i64 x.b) ∧ w'.cell? ⟨wr.heap.size, 3, none⟩ = some (.int .u32 (x.m : Int)) ∧ w'.cell? ⟨wr.heap.size, 4, none⟩ = some (.string x.s)) (first | exact act_box5 h3.2.1 | go_keep) ((first
            | (go_simp; go_at_call 15; refine (atext_any x _ HX.out.2.2.2.2).mono ?_; rintro e w1 ⟨rfl, rfl⟩)
            | (go_simp; go_at_call 12; refine (HS.out _ (by repeat first | exact HL2.out | apply Kept2.alloc | apply Kept2.drew)).mono ?_; rintro e W3 ⟨rfl, S3, h3⟩)))
          clear c0 c1 c2 c3 c4
          obtain ⟨b0, b1, b2, b3, b4, b5⟩ := act_box h3.2.1
          obtain ⟨s0, s1, s2, f0, f1, f2'⟩ := sl_cells h3.1.2.1 N2 hNs
          have hgl := obj_lt h3.1.2.1
          have hne : ¬ wr.heap.size = gm := HLT.out
          have hne' : ¬ gm = wr.heap.size := fun e => hne e.symm
          have H3 := Lib.hid h3
          clear h3
          go_wp2_with fail
          go_region_law ((go_simp; go_at_call 15; refine (atext_any x _ HX.out.2.2.2.2).mono ?_; rintro e w1 ⟨rfl, rfl⟩))
          all_goals
            go_wp2
            go_roundw
            case rel => exact ⟨k + 1, _, _, _, by omega, by omega, by go_num, HR.out, (by repeat first | exact H3.out.1.store3 HGW.out N2 hNs ⟨N2, x.a, cutS x.s⟩ | apply KeptAt.drew | apply KeptAt.alloc)⟩
            case measure => simp [intOf]; omega
      · rcases HO.out.take x.a with ⟨hs1, hs2⟩ | ⟨hs1, hs2, hs3, hs4, hs5⟩
        · have HS := Lib.hid (fun (W : World) (h : KeptAt w W S g f gm (.cells (cellsNs sl).toArray 36 (0, 0))) => take_kept h HLE.out x.a)
          rw [hs1, hs2] at HS
          have HR := Lib.hid HO.out.more
          clear hs1 hs2
          generalize (mtake f x.a).1.1 = r at *
          go_wp2_with (go_at_call 17; refine (HS.out _ (by repeat first | exact HL.out | apply KeptAt.alloc | apply KeptAt.drew)).mono ?_; rintro e W3 ⟨rfl, S3, h3⟩; replace h3 := h3.alloc (.cells #[.int .u32 (r.id : Int), .int .i64 r.to, .string r.s] 35))
          all_goals (try go_quiet (fail))
          all_goals
            go_wp2
            go_roundw
            case rel => exact ⟨k + 1, _, _, _, by omega, by omega, by go_num, HR.out, by repeat first | exact h3 | apply KeptAt.drewN | apply KeptAt.drew⟩
            case measure => simp [intOf]; omega
        · have HS := Lib.hid (fun (W : World) (h : KeptAt w W S g f gm (.cells (cellsNs sl).toArray 36 (0, 0))) => take_kept h HLE.out x.a)
          rw [hs1] at HS
          have HR := Lib.hid hs5.more
          have HN := Lib.hid hs3
          have hle : (mtake f x.a).1.1.id ≤ f.n := hs2
          clear hs1 hs2 hs3 hs4 hs5
          generalize (mtake f x.a).2 = f2 at *
          generalize (mtake f x.a).1.1 = r at *
          have hr2 : r.id < 200 := by omega
          have hr3 : ¬ 200 ≤ (r.id : Int) := by omega
          go_wp2_with (go_at_call 17; refine (HS.out _ (by repeat first | exact HL.out | apply KeptAt.alloc | apply KeptAt.drew)).mono ?_; rintro e W3 ⟨rfl, S3, h3⟩; obtain ⟨s0, s1, s2, f0, f1, f2'⟩ := sl_cells h3.2.1 r.id (by omega); rw [HN.out] at s0 s1 s2; have hgl := obj_lt h3.2.1; replace h3 := h3.alloc (.cells #[.int .u32 (r.id : Int), .int .i64 r.to, .string r.s] 35))
          all_goals (try go_quiet (fail))
          all_goals
            go_wp2
            go_roundw
            case rel => exact ⟨k + 1, _, _, _, by omega, by omega, by go_num, HR.out, by repeat first | exact h3 | apply KeptAt.drewN | apply KeptAt.drew⟩
            case measure => simp [intOf]; omega
      · have HS := Lib.hid (fun (W : World) (h : KeptAt w W S g f gm (.cells (cellsNs sl).toArray 36 (0, 0))) => drop_kept h HLE.out x.a)
        have HR := Lib.hid (HO.out.drop x.a)
        generalize (mtake f x.a).2 = f2 at *
        generalize (mtake f x.a).1.2 = r at *
        go_wp2_with (go_at_call 16; refine (HS.out _ (by repeat first | exact HL.out | apply KeptAt.alloc | apply KeptAt.drew)).mono ?_; rintro e W3 ⟨rfl, S3, h3⟩)
        go_roundw
        case rel => exact ⟨k + 1, _, _, _, by omega, by omega, by go_num, HR.out.2, h3⟩
        case measure => simp [intOf]; omega
      · rcases HO.out.copy hl2 x.a with ⟨hs1, hs2⟩ | ⟨j, hj, haj, hs1, hs2, hs3⟩
        · have HS := Lib.hid (fun (W : World) (h : Kept2 w W S g f gm (.cells (cellsNs sl).toArray 36 (0, 0)) wr.heap.size (.cells #[.int .i64 x.d, .int .i64 x.a, .int .i64 x.b, .int .u32 (x.m : Int), .string x.s] 38)) (A : Option Addr) (c : Nat) (hr : Row W 35 3 (.slice A f.l.length c) f.l.length (cellsNs f.l)) hn => copy_k2 h HLE.out x.a hr hn)
          have HL2 := Lib.hid (Kept2.new HL.out (.cells #[.int .i64 x.d, .int .i64 x.a, .int .i64 x.b, .int .u32 (x.m : Int), .string x.s] 38))
          rw [hs1, hs2] at HS
          have HR := Lib.hid HO.out.more
          clear hs1 hs2
          generalize (mcopy f x.a).1.1 = r at *
          go_wp2_with (first
            | (go_at_call 13; refine (all_k2 HL2.out HLE.out).mono ?_; rintro e W3 ⟨A3, c3', rfl, hr3, hn3, h3⟩; obtain ⟨b0, b1, b2, b3, b4, b5⟩ := act_box h3.2.1; have H3 := Lib.hid h3; have HR3 := Lib.hid hr3; have HN3 := Lib.hid hn3; clear h3 hr3 hn3 c0 c1 c2 c3 c4)
            | (go_at_call 14; refine (HS.out _ H3.out _ _ HR3.out HN3.out).mono ?_; rintro e W4 ⟨rfl, hr4, S4, h4⟩; clear b0 b1 b2 b3 b4; obtain ⟨b0, b1, b2, b3, b4, b6⟩ := act_box h4.2.1))
          go_roundw
          case rel => exact ⟨k + 1, _, _, _, by omega, by omega, by go_num, HR.out, h4.1⟩
          case measure => simp [intOf]; omega
        · obtain ⟨xd, xa, xb, xm, xt⟩ := x
          dsimp only at haj hs1 hs2 hs3 c0 c1 c2 c3 c4 HX hm
          subst haj
          have HS := Lib.hid (fun (W : World) (h : Kept2 w W S g f gm (.cells (cellsNs sl).toArray 36 (0, 0)) wr.heap.size (.cells #[.int .i64 xd, .int .i64 (j : Int), .int .i64 xb, .int .u32 (xm : Int), .string xt] 38)) (A : Option Addr) (c : Nat) (hr : Row W 35 3 (.slice A f.l.length c) f.l.length (cellsNs f.l)) hn => copy_k2 h HLE.out (j : Int) hr hn)
          have HL2 := Lib.hid (Kept2.new HL.out (.cells #[.int .i64 xd, .int .i64 (j : Int), .int .i64 xb, .int .u32 (xm : Int), .string xt] 38))
          rw [hs1] at HS
          have HR := Lib.hid hs3
          clear hs1 hs2 hs3
          generalize (mcopy f (j : Int)).2 = f2 at *
          have hN2 : f.n + 1 < 200 := by omega
          have hNs : f.n + 1 < sl.length := by omega
          generalize f.n + 1 = N2 at *
          clear hfn
          have hne : ¬ wr.heap.size = gm := HLT.out
          have hne' : ¬ gm = wr.heap.size := fun e => hne e.symm
          go_wp2_with (first
            | (go_at_call 13; refine (all_k2 HL2.out HLE.out).mono ?_; rintro e W3 ⟨A3, c3', rfl, hr3, hn3, h3⟩; obtain ⟨b0, b1, b2, b3, b4, b5⟩ := act_box (x := ⟨xd, (j : Int), xb, xm, xt⟩) h3.2.1; have H3 := Lib.hid h3; have HR3 := Lib.hid hr3; have HN3 := Lib.hid hn3; clear h3 hr3 hn3 c0 c1 c2 c3 c4)
            | (go_at_call 14; refine (HS.out _ H3.out _ _ HR3.out HN3.out).mono ?_; rintro e W4 ⟨rfl, hr4, S4, h4⟩; clear b0 b1 b2 b3 b4 H3; obtain ⟨b0, b1, b2, b3, b4, b6⟩ := act_box (x := ⟨xd, (j : Int), xb, xm, xt⟩) h4.2.1; obtain ⟨s0, s1, s2, f0, f1, f2'⟩ := sl_cells h4.1.2.1 N2 hNs; obtain ⟨gb, cb, hv, _, _, hgb, hcs, hfs⟩ := hr4.some_ (by omega); cases hv; have q1 : W4.cell? ⟨gb, j * 3 + 1, none⟩ = some (.int .i64 f.l[j].to) := hcs _ _ (by rw [cellsNs_at f.l j 1 hj (by omega)]; rfl); have q2 : W4.cell? ⟨gb, j * 3 + 2, none⟩ = some (.string f.l[j].s) := hcs _ _ (by rw [cellsNs_at f.l j 2 hj (by omega)]; rfl); have hgl := obj_lt h4.1.2.1; have H3 := Lib.hid h4; clear h4 hr4 hcs hfs; generalize f.l[j] = y at *))
          go_region
          all_goals
            go_wp2
            go_roundw
            case rel => exact ⟨k + 1, _, _, _, by omega, by omega, by go_num, HR.out, (by repeat first | exact H3.out.1.store3 HGW.out N2 hNs ⟨N2, y.to, y.s⟩ | apply KeptAt.drew | apply KeptAt.alloc)⟩
            case measure => simp [intOf]; omega
      · have HR := Lib.hid HO.out.more
        go_wp2
        go_roundw
        case rel => exact ⟨k + 1, _, _, _, by omega, by omega, by go_num, HR.out, HL.out.alloc _⟩
        case measure => simp [intOf]; omega
    · have HB := Lib.hid hL.1.2.1
      go_wp2
      all_goals
        go_ret
        exact ⟨rfl, HB.out⟩
end Go.Proofs.Ytlfbmicpaacbnaa
