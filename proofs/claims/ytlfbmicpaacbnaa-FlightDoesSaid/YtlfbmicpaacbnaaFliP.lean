/-
  FlightOnce, walked. Conditions: none but the arguments' own.
-/
import Derived.Test.YtlfbmicpaacbnaaFliO
namespace Ros
open Go Go.RowKit
/-- An act's bytes: the first hundred. -/
def cutS (s : ByteArray) : ByteArray := s.extract 0 (min s.size 100)
theorem cutS_size (s : ByteArray) : (cutS s).size ≤ 100 := by
  unfold cutS
  rw [ByteArray.size_extract]
  omega
theorem cutS_big {s : ByteArray} (h : 100 < s.size) : cutS s = s.extract 0 100 := by unfold cutS; rw [Nat.min_eq_right (by omega)]
theorem cutS_small {s : ByteArray} (h : s.size ≤ 100) : cutS s = s := by
  unfold cutS
  rw [Nat.min_eq_left h]
  apply bl_inj
  rw [bl_extract0, size_bl, List.take_length]
def boolCells (met : Nat → Bool) : Array Value := ((List.range 200).map fun i => Value.bool (met i)).toArray
theorem boolCells_at (met : Nat → Bool) (i : Nat) (hi : i < 200) : (boolCells met)[i]? = some (.bool (met i)) := by simp [boolCells, hi]
theorem boolCells_set (met : Nat → Bool) (i : Nat) (hi : i < 200) : (boolCells met).setIfInBounds i (.bool true) = boolCells (fun j => met j || j == i) := by
  apply Array.ext_getElem?
  intro j
  rw [Array.getElem?_setIfInBounds]
  by_cases hj : j < 200
  · rw [boolCells_at _ _ hj, boolCells_at _ _ hj]
    by_cases e : i = j
    · subst e; simp [boolCells, hi]
    · rw [if_neg e]; have : (j == i) = false := by simp; omega
      simp [this]
  · have h1 : ¬ j < (boolCells met).size := by simpa [boolCells] using hj
    have h2 : ¬ j < (boolCells (fun j => met j || j == i)).size := by simpa [boolCells] using hj
    rw [if_neg (by omega), Array.getElem?_eq_none (by omega), Array.getElem?_eq_none (by omega)]
/-- What FlightOnce keeps. -/
structure Once (f : Fs) (met : Nat → Bool) (k : Nat) : Prop where
  le : f.n ≤ k
  len : f.l.length ≤ k
  nodup : (f.l.map (·.id)).Nodup
  old : ∀ x ∈ f.l, x.id ≤ f.n ∧ met x.id = false
  met : ∀ j, met j = true → j ≤ f.n
  size : ∀ x ∈ f.l, x.s.size ≤ 100
theorem Once.start : Once ⟨0, []⟩ (fun _ => false) 0 := ⟨Nat.le_refl _, Nat.le_refl _, by simp, fun x hx => by simp at hx, fun j hj => by simp at hj, fun x hx => by simp at hx⟩
theorem Once.more {f : Fs} {met : Nat → Bool} {k : Nat} (h : Once f met k) : Once f met (k + 1) := ⟨by have := h.le; omega, by have := h.len; omega, h.nodup, h.old, h.met, h.size⟩
theorem Once.launch {f : Fs} {met : Nat → Bool} {k : Nat} (h : Once f met k) (hk : k < 60) (to : Int) (s : ByteArray) (hs : s.size ≤ 100) :
    (mlaunch f to s).1 = (f.n + 1, 0) ∧ (mlaunch f to s).2.n = f.n + 1 ∧ Once (mlaunch f to s).2 met (k + 1) := by
  have h1 := h.le
  have h2 := h.len
  unfold mlaunch
  rw [if_neg (by omega), Nat.mod_eq_of_lt (by omega)]
  refine ⟨rfl, rfl, ⟨by simp only []; omega, by simp; omega, ?_, ?_, fun j hj => by have := h.met j hj; simp only []; omega, ?_⟩⟩
  · simp only [List.map_append, List.map_cons, List.map_nil]
    rw [List.nodup_append]
    refine ⟨h.nodup, by simp, fun a ha b hb e => ?_⟩
    simp at hb ha
    obtain ⟨x, hx, rfl⟩ := ha
    have := (h.old x hx).1
    omega
  · intro x hx
    simp only [] at hx ⊢
    rcases List.mem_append.1 hx with hx | hx
    · have := h.old x hx; exact ⟨by omega, this.2⟩
    · simp at hx; subst hx
      refine ⟨Nat.le_refl _, ?_⟩
      simp only []
      cases hm : met (f.n + 1)
      · rfl
      · have := h.met _ hm; omega
  · intro x hx
    rcases List.mem_append.1 hx with hx | hx
    · exact h.size x hx
    · simp at hx; subst hx; exact hs
theorem Once.send {f : Fs} {met : Nat → Bool} {k : Nat} (h : Once f met k) (hk : k < 60) (to : Int) (s : ByteArray) (hs : s.size ≤ 100) :
    ((msend f to s).1.2 = 2 ∧ (msend f to s).2 = f) ∨ ((msend f to s).1 = (f.n + 1, 0) ∧ (msend f to s).2.n = f.n + 1 ∧ Once (msend f to s).2 met (k + 1)) := by
  unfold msend
  split
  · exact .inl ⟨rfl, rfl⟩
  · exact .inr (h.launch hk to s hs)
theorem Once.copy {f : Fs} {met : Nat → Bool} {k : Nat} (h : Once f met k) (hk : k < 60) (a : Int) :
    ((mcopy f a).1.2 = 2 ∧ (mcopy f a).2 = f) ∨ ((mcopy f a).1 = (f.n + 1, 0) ∧ (mcopy f a).2.n = f.n + 1 ∧ Once (mcopy f a).2 met (k + 1)) := by
  unfold mcopy
  split
  · rename_i hb
    obtain ⟨h0, h1⟩ := isB_iff.1 hb
    refine .inr (h.launch hk _ _ ?_)
    have hlt : a.toNat < f.l.length := by omega
    rw [List.getD_eq_getElem?_getD, List.getElem?_eq_getElem hlt]
    exact h.size _ (List.getElem_mem hlt)
  · exact .inl ⟨rfl, rfl⟩
theorem Once.take {f : Fs} {met : Nat → Bool} {k : Nat} (h : Once f met k) (a : Int) :
    ((mtake f a).1.2 = 2 ∧ (mtake f a).2 = f) ∨ ((mtake f a).1.2 = 0 ∧ (mtake f a).1.1.id ≤ f.n ∧ met (mtake f a).1.1.id = false ∧ (mtake f a).2.n = f.n ∧ Once (mtake f a).2 met k ∧ Once (mtake f a).2 (fun j => met j || j == (mtake f a).1.1.id) k) := by
  unfold mtake
  split
  · rename_i hb
    obtain ⟨h0, h1⟩ := isB_iff.1 hb
    have hlt : a.toNat < f.l.length := by omega
    have hg : f.l.getD a.toNat nt0 = f.l[a.toNat] := by rw [List.getD_eq_getElem?_getD, List.getElem?_eq_getElem hlt]; rfl
    have hm := h.old _ (List.getElem_mem hlt)
    have hs := List.eraseIdx_sublist f.l a.toNat
    have h1 : Once ⟨f.n, f.l.eraseIdx a.toNat⟩ met k := ⟨h.le, Nat.le_trans hs.length_le h.len, (hs.map _).nodup h.nodup, fun x hx => h.old x (hs.subset hx), h.met, fun x hx => h.size x (hs.subset hx)⟩
    right
    dsimp only
    rw [hg]
    refine ⟨rfl, hm.1, hm.2, rfl, h1, ⟨h1.le, h1.len, h1.nodup, fun x hx => ⟨(h1.old x hx).1, ?_⟩, fun j hj => ?_, h1.size⟩⟩
    · rw [(h1.old x hx).2, Bool.false_or, beq_eq_false_iff_ne]
      intro he
      have hnd := h.nodup
      obtain ⟨i, hil, hne, hxe⟩ := List.mem_eraseIdx_iff_getElem.1 hx
      have h2 := List.pairwise_iff_getElem.1 hnd
      subst hxe
      rcases Nat.lt_or_gt_of_ne hne with hlt' | hlt'
      · exact h2 i a.toNat (by simpa using hil) (by simpa using hlt) hlt' (by simp [he])
      · exact h2 a.toNat i (by simpa using hlt) (by simpa using hil) hlt' (by simp [he])
    · rcases Bool.or_eq_true_iff.1 hj with hj | hj
      · exact h.met j hj
      · rw [beq_iff_eq] at hj; rw [hj]; exact hm.1
  · exact .inl ⟨rfl, rfl⟩
theorem Once.drop {f : Fs} {met : Nat → Bool} {k : Nat} (h : Once f met k) (a : Int) : (mtake f a).2.n = f.n ∧ Once (mtake f a).2 met (k + 1) := by
  rcases h.take a with ⟨hs1, hs2⟩ | ⟨hs1, hs2, hs3, hs4, hs5, _⟩
  · rw [hs2]; exact ⟨rfl, h.more⟩
  · exact ⟨hs4, hs5.more⟩
theorem Once.hurt {f : Fs} {met : Nat → Bool} {k : Nat} (h : Once f met k) (a b : Int) (m : Nat) : (mhurt f a b m).2.n = f.n ∧ Once (mhurt f a b m).2 met k := by
  unfold mhurt
  split
  · rename_i hb
    obtain ⟨h0, h1⟩ := isB_iff.1 hb
    have hlt : a.toNat < f.l.length := by omega
    have hg : f.l.getD a.toNat nt0 = f.l[a.toNat] := by rw [List.getD_eq_getElem?_getD, List.getElem?_eq_getElem hlt]; rfl
    dsimp only
    rw [hg]
    split
    · have hid : (f.l.set a.toNat { f.l[a.toNat] with s := str (chgL (bl f.l[a.toNat].s) b m) }).map (·.id) = f.l.map (·.id) := by
        rw [List.map_set]
        apply List.ext_getElem (by simp)
        intro i h1 h2
        rw [List.getElem_set]
        split
        · rename_i e; subst e; simp
        · rfl
      refine ⟨rfl, h.le, by simpa using h.len, by simp only []; rw [hid]; exact h.nodup, fun x hx => ?_, h.met, fun x hx => ?_⟩
      · have : x.id ∈ f.l.map (·.id) := by rw [← hid]; exact List.mem_map_of_mem hx
        obtain ⟨y, hy, e⟩ := List.mem_map.1 this
        rw [← e]; exact h.old y hy
      · rcases List.mem_or_eq_of_mem_set hx with hx | hx
        · exact h.size x hx
        · subst hx
          simp only [size_str]
          rename_i he
          have := h.size _ (List.getElem_mem hlt)
          rw [size_bl] at this
          unfold chgE at he
          unfold chgL
          split at he
          · rename_i ho; rw [if_pos ho, chg_length]; exact this
          · cases he
    · exact ⟨rfl, h⟩
  · exact ⟨rfl, h⟩
end Ros
namespace Go.Proofs.Ytlfbmicpaacbnaa
open Go.RowKit Go.Shelf Ros
attribute [local go_sem] Oper.semAt_some
attribute [local go_sem ↓] Go.wp_at_zero Go.wp_at_succ

set_option maxHeartbeats 400000 in
theorem atext_any (x : Ac) (w : World) (hs : x.s.size ≤ maxLen) :
    Calls Try.prog 15 #[.agg #[.int .i64 x.d, .int .i64 x.a, .int .i64 x.b, .int .u32 (x.m : Int), .string x.s]] w fun e w' => e = .returned (.string (cutS x.s)) ∧ w' = w.alloc (.cells #[.int .i64 x.d, .int .i64 x.a, .int .i64 x.b, .int .u32 (x.m : Int), .string x.s] 38) := by
  unfold maxLen at hs
  go_enter Try.func15, Try.ntmps15
  go_wp2
  · go_ret
    exact ⟨by rw [cutS_big (by omega)]; rfl, rfl⟩
  · go_ret
    exact ⟨by rw [cutS_small (by omega)]; rfl, rfl⟩

/-- An array of two hundred bools. -/
theorem zero_bools : ∃ Z, (∀ w : World, (zeroValue 51).run Try.prog w = .ok (.agg Z) w) ∧ Z = boolCells (fun _ => false) := by
  have h : (Try.prog.info? 51).map (fun i => i.zero) = some (some (.agg (boolCells (fun _ => false)))) := by kernel_rfl
  refine ⟨_, fun w => ?_, rfl⟩
  cases hi : Try.prog.info? 51 with
  | none => rw [hi] at h; cases h
  | some i =>
    rw [hi] at h
    have hz : i.zero = some (.agg (boolCells (fun _ => false))) := by simpa using h
    generalize boolCells (fun _ => false) = Z at *
    simp [zeroValue, typeInfo, hi, hz]

theorem add_pos (p : Addr) (j : Nat) (h : 0 < j) : p.add j = ⟨p.block, p.off + j, none⟩ := by unfold Addr.add; rw [if_neg (by omega)]

theorem act_cells {w w' : World} {A : Option Addr} {n k : Nat} {xs : List Ac} (ha : ActsAt w A n xs) (hb : Below w.heap.size w w') (hk : k < n) :
    ∃ (a : Addr) (x : Ac), A = some a ∧ x.ok ∧ w'.cell? (a.add (k * 5)) = some (.int .i64 x.d) ∧ w'.cell? ⟨(a.add (k * 5)).block, (a.add (k * 5)).off + 1, none⟩ = some (.int .i64 x.a) ∧ w'.cell? ⟨(a.add (k * 5)).block, (a.add (k * 5)).off + 2, none⟩ = some (.int .i64 x.b) ∧
      w'.cell? ⟨(a.add (k * 5)).block, (a.add (k * 5)).off + 3, none⟩ = some (.int .u32 (x.m : Int)) ∧ w'.cell? ⟨(a.add (k * 5)).block, (a.add (k * 5)).off + 4, none⟩ = some (.string x.s) := by
  obtain ⟨h1, h2, h3⟩ := ha.below hb
  obtain ⟨a, e, _, hc⟩ := h3 (by omega)
  have hl : k < xs.length := by omega
  refine ⟨a, xs[k], e, h2 _ (List.getElem_mem hl), ?_, add_pos _ 1 (by omega) ▸ hc k hl 1 _ rfl, add_pos _ 2 (by omega) ▸ hc k hl 2 _ rfl, add_pos _ 3 (by omega) ▸ hc k hl 3 _ rfl, add_pos _ 4 (by omega) ▸ hc k hl 4 _ rfl⟩
  have := hc k hl 0 _ rfl
  simpa [Addr.add] using this

theorem do_of (d : Int) : (IntKind.u64.wrap d).tmod 6 = 0 ∨ (IntKind.u64.wrap d).tmod 6 = 1 ∨ (IntKind.u64.wrap d).tmod 6 = 2 ∨ (IntKind.u64.wrap d).tmod 6 = 3 ∨ (IntKind.u64.wrap d).tmod 6 = 4 ∨ (IntKind.u64.wrap d).tmod 6 = 5 := by
  have h : IntKind.u64.wrap d = d % 18446744073709551616 := by rw [IntKind.wrap_u64]
  have h0 : 0 ≤ IntKind.u64.wrap d := by rw [h]; omega
  rw [Int.tmod_eq_emod_of_nonneg h0]
  omega

theorem Turn.not_ {S S' : Nat → Prop} {w w' : World} (h : Turn S S' w w') {g : Nat} (hg : ¬ S g) (hl : g < w.heap.size) : ¬ S' g ∧ g < w'.heap.size ∧ w'.heap[g]? = w.heap[g]? := by
  refine ⟨fun hs => ?_, Nat.lt_of_lt_of_le hl h.size, h.block g hl hg⟩
  rcases h.foot g hs with h1 | h1
  · exact hg h1
  · omega

/-- A flight beside a block of the law's own. -/
def KeptAt (w0 W : World) (S : Nat → Prop) (g : Nat) (f : Fs) (gm : Nat) (o : Obj) : Prop := LawAt w0 W S g f ∧ W.heap[gm]? = some o ∧ ¬ S gm
section
variable {w0 W W' : World} {S S' : Nat → Prop} {g : Nat} {f f' : Fs} {gm : Nat} {o : Obj}
theorem LawAt.drew (h : LawAt w0 W S g f) : LawAt w0 W.drew S g f := ⟨h.1, h.2.1.drew, h.2.2⟩
theorem KeptAt.turn (h : KeptAt w0 W S g f gm o) (hf : LawAt w0 W' S' g f') (ht : Turn S S' W W') : KeptAt w0 W' S' g f' gm o := by
  obtain ⟨h1, h2, h3⟩ := Turn.not_ ht h.2.2 (obj_lt h.2.1)
  exact ⟨hf, h3.trans h.2.1, h1⟩
theorem KeptAt.below (h : KeptAt w0 W S g f gm o) (hb : Below W.heap.size W W') : KeptAt w0 W' S g f gm o := ⟨h.1.below hb, obj_below h.2.1 hb (obj_lt h.2.1), h.2.2⟩
theorem KeptAt.alloc (h : KeptAt w0 W S g f gm o) (o' : Obj) : KeptAt w0 (W.alloc o') S g f gm o := ⟨h.1.alloc o', obj_alloc h.2.1 o', h.2.2⟩
theorem KeptAt.drew (h : KeptAt w0 W S g f gm o) : KeptAt w0 W.drew S g f gm o := ⟨h.1.drew, h.2.1, h.2.2⟩
theorem KeptAt.set_ {cs : Array Value} {t : TypeId} {fz : Nat × Nat} (h : KeptAt w0 W S g f gm (.cells cs t fz)) (hw : w0.heap.size ≤ gm) (i : Nat) (u : Value) : KeptAt w0 (W.setCell ⟨gm, i, none⟩ u) S g f gm (.cells (cs.setIfInBounds i u) t fz) :=
  ⟨⟨h.1.1.keep fun k hk => Below.heap_setCell _ _ _ _ (fun e => h.2.2 (by rw [e] at hk; exact hk)), h.1.2.1.setCell (p := ⟨gm, i, none⟩) hw u, h.1.2.2⟩, obj_set h.2.1 i u, h.2.2⟩
theorem send_kept (h : KeptAt w0 W S g f gm o) (hl : f.l.length ≤ 1000) (to : Int) (s : ByteArray) :
    Calls Try.prog 12 #[.pointer (some ⟨g, 0, none⟩), .int .i64 to, .string s] W fun e W' => e = .returned (.tuple #[.int .u32 ((msend f to s).1.1 : Int), .int .i64 (msend f to s).1.2]) ∧ ∃ S', KeptAt w0 W' S' g (msend f to s).2 gm o :=
  (send_law h.1 hl to s).mono fun _ _ ⟨he, S', hf, ht⟩ => ⟨he, S', h.turn hf ht⟩
theorem copy_kept (h : KeptAt w0 W S g f gm o) (hl : f.l.length ≤ 1000) (a : Int) :
    Calls Try.prog 14 #[.pointer (some ⟨g, 0, none⟩), .int .i64 a] W fun e W' => e = .returned (.tuple #[.int .u32 ((mcopy f a).1.1 : Int), .int .i64 (mcopy f a).1.2]) ∧ ∃ S', KeptAt w0 W' S' g (mcopy f a).2 gm o :=
  (copy_law h.1 hl a).mono fun _ _ ⟨he, S', hf, ht⟩ => ⟨he, S', h.turn hf ht⟩
theorem take_kept (h : KeptAt w0 W S g f gm o) (hl : f.l.length ≤ 1000) (a : Int) :
    Calls Try.prog 17 #[.pointer (some ⟨g, 0, none⟩), .int .i64 a] W fun e W' => e = .returned (.tuple #[.agg #[.int .u32 ((mtake f a).1.1.id : Int), .int .i64 (mtake f a).1.1.to, .string (mtake f a).1.1.s], .int .i64 (mtake f a).1.2]) ∧ ∃ S', KeptAt w0 W' S' g (mtake f a).2 gm o :=
  (take_law h.1 hl a).mono fun _ _ ⟨he, S', hf, ht⟩ => ⟨he, S', h.turn hf ht⟩
theorem drop_kept (h : KeptAt w0 W S g f gm o) (hl : f.l.length ≤ 1000) (a : Int) :
    Calls Try.prog 16 #[.pointer (some ⟨g, 0, none⟩), .int .i64 a] W fun e W' => e = .returned (.int .i64 (mtake f a).1.2) ∧ ∃ S', KeptAt w0 W' S' g (mtake f a).2 gm o :=
  (drop_law h.1 hl a).mono fun _ _ ⟨he, S', hf, ht⟩ => ⟨he, S', h.turn hf ht⟩
theorem hurt_kept (h : KeptAt w0 W S g f gm o) (a bit : Int) (mask : Nat) (hs : ∀ x ∈ f.l, x.s.size ≤ 140737488355328) (hm : mask < 4294967296) (hb1 : -9223372036854775808 ≤ bit) (hb2 : bit ≤ 9223372036854775807) :
    Calls Try.prog 20 #[.pointer (some ⟨g, 0, none⟩), .int .i64 a, .int .i64 bit, .int .u32 (mask : Int)] W fun e W' => e = .returned (.int .i64 (mhurt f a bit mask).1) ∧ KeptAt w0 W' S g (mhurt f a bit mask).2 gm o :=
  (hurt_law h.1 a bit mask hs hm hb1 hb2).mono fun _ _ ⟨he, hf, ht⟩ => ⟨he, h.turn hf ht⟩
end

set_option maxRecDepth 100000 in
set_option maxHeartbeats 20000000 in
theorem flightOnce_walk (A : Option Addr) (n c : Nat) (xs : List Ac) (w : World) (ha : ActsAt w A n xs) :
    Calls Try.prog 7 #[.slice A n c] w fun e w' => e = .returned (.bool true) ∧ Below w.heap.size w w' := by
  obtain ⟨Z, hZ, hZe⟩ := zero_bools
  have HZ := Lib.hid hZe
  clear hZe
  have HA := Lib.hid ha
  clear ha
  go_enter Try.func7, Try.ntmps7
  go_wp2_with (first | (go_at_call 10; refine (shown_any _).mono ?_; rintro e W1 ⟨rfl, h1⟩) | (go_at_call 11; refine (new_law h1).mono ?_; rintro e W2 ⟨rfl, h2, _⟩; generalize W1.heap.size = g at h2 ⊢))
  have hgm := World.alloc_heap_new W2 (.cells Z 51)
  have h3 := h2.alloc (.cells Z 51)
  have hns : ¬ W2.heap.size = g := by have := h2.1.lt g rfl; omega
  rw [HZ.out] at hgm h3
  have HGW := Lib.hid h2.2.1.size
  clear h2 h1
  generalize W2.heap.size = gm at *
  rw [HZ.out]
  go_loopw [6, 7] (fun last i wr => ∃ (k : Nat) (met : Nat → Bool) (S : Nat → Prop) (f : Fs), k ≤ 60 ∧ k ≤ n ∧ i = .int .i64 k ∧ last = .int .u32 (f.n : Int) ∧ Once f met k ∧ KeptAt w wr S g f gm (.cells (boolCells met) 51 (0, 0))) (fun _ i _ => 60 - (intOf i).toNat)
  case atStart => exact ⟨0, fun _ => false, _, ⟨0, []⟩, by omega, by omega, rfl, rfl, Once.start, h3, hgm, hns⟩
  case round =>
    obtain ⟨k, met, S, f, hk, hkn, rfl, rfl, hO, hL⟩ := hrel
    clear h3 hgm hns
    by_cases hlt : k < n ∧ k < 60
    · obtain ⟨hl1, hl2⟩ := hlt
      obtain ⟨a, x, rfl, hox, c0, c1, c2, c3, c4⟩ := act_cells HA.out hL.1.2.1 hl1
      have HX := Lib.hid hox
      have hfn := hO.le
      have HL := Lib.hid hL
      have HO := Lib.hid hO
      have HLE := Lib.hid (show f.l.length ≤ 1000 by have := hO.len; omega)
      clear hL hO hox
      rcases do_of x.d with hm | hm | hm | hm | hm | hm
      · rcases HO.out.send hl2 x.a (cutS x.s) (cutS_size _) with ⟨hs1, hs2⟩ | ⟨hs1, hs2, hs3⟩
        · have HS := Lib.hid (fun (W : World) (h : KeptAt w W S g f gm (.cells (boolCells met) 51 (0, 0))) => send_kept h HLE.out x.a (cutS x.s))
          rw [hs1, hs2] at HS
          have HR := Lib.hid HO.out.more
          clear hs1 hs2
          generalize (msend f x.a (cutS x.s)).1.1 = r at *
          go_wp2_with fail
          go_region_law ((first
            | (go_simp; go_at_call 15; refine (atext_any x _ HX.out.2.2.2.2).mono ?_; rintro e w1 ⟨rfl, rfl⟩)
            | (go_simp; go_at_call 12; refine (HS.out _ (by repeat first | exact HL.out | apply KeptAt.alloc | apply KeptAt.drew)).mono ?_; rintro e W3 ⟨rfl, S3, h3⟩)))
          all_goals
            go_wp2
            go_roundw
            case rel => exact ⟨k + 1, met, _, _, by omega, by omega, by go_num, rfl, HR.out, h3⟩
            case measure => simp [intOf]; omega
        · have HS := Lib.hid (fun (W : World) (h : KeptAt w W S g f gm (.cells (boolCells met) 51 (0, 0))) => send_kept h HLE.out x.a (cutS x.s))
          rw [hs1] at HS
          have HR := Lib.hid hs3
          have HN := Lib.hid hs2
          clear hs1 hs2 hs3
          generalize (msend f x.a (cutS x.s)).2 = f2 at *
          have hnn : (((f.n + 1 : Nat) : Int) != (f.n : Int) + 1) = false := by simp
          go_wp2_with fail
          go_region_law ((first
            | (go_simp; go_at_call 15; refine (atext_any x _ HX.out.2.2.2.2).mono ?_; rintro e w1 ⟨rfl, rfl⟩)
            | (go_simp; go_at_call 12; refine (HS.out _ (by repeat first | exact HL.out | apply KeptAt.alloc | apply KeptAt.drew)).mono ?_; rintro e W3 ⟨rfl, S3, h3⟩)))
          all_goals
            go_wp2
            go_roundw
            case rel => exact ⟨k + 1, met, _, _, by omega, by omega, by go_num, by rw [HN.out]; simp, HR.out, h3⟩
            case measure => simp [intOf]; omega
      · rcases HO.out.send hl2 x.a (cutS x.s) (cutS_size _) with ⟨hs1, hs2⟩ | ⟨hs1, hs2, hs3⟩
        · have HS := Lib.hid (fun (W : World) (h : KeptAt w W S g f gm (.cells (boolCells met) 51 (0, 0))) => send_kept h HLE.out x.a (cutS x.s))
          rw [hs1, hs2] at HS
          have HR := Lib.hid HO.out.more
          clear hs1 hs2
          generalize (msend f x.a (cutS x.s)).1.1 = r at *
          go_wp2_with fail
          go_region_law ((first
            | (go_simp; go_at_call 15; refine (atext_any x _ HX.out.2.2.2.2).mono ?_; rintro e w1 ⟨rfl, rfl⟩)
            | (go_simp; go_at_call 12; refine (HS.out _ (by repeat first | exact HL.out | apply KeptAt.alloc | apply KeptAt.drew)).mono ?_; rintro e W3 ⟨rfl, S3, h3⟩)))
          all_goals
            go_wp2
            go_roundw
            case rel => exact ⟨k + 1, met, _, _, by omega, by omega, by go_num, rfl, HR.out, h3⟩
            case measure => simp [intOf]; omega
        · have HS := Lib.hid (fun (W : World) (h : KeptAt w W S g f gm (.cells (boolCells met) 51 (0, 0))) => send_kept h HLE.out x.a (cutS x.s))
          rw [hs1] at HS
          have HR := Lib.hid hs3
          have HN := Lib.hid hs2
          clear hs1 hs2 hs3
          generalize (msend f x.a (cutS x.s)).2 = f2 at *
          have hnn : (((f.n + 1 : Nat) : Int) != (f.n : Int) + 1) = false := by simp
          go_wp2_with fail
          go_region_law ((first
            | (go_simp; go_at_call 15; refine (atext_any x _ HX.out.2.2.2.2).mono ?_; rintro e w1 ⟨rfl, rfl⟩)
            | (go_simp; go_at_call 12; refine (HS.out _ (by repeat first | exact HL.out | apply KeptAt.alloc | apply KeptAt.drew)).mono ?_; rintro e W3 ⟨rfl, S3, h3⟩)))
          all_goals
            go_wp2
            go_roundw
            case rel => exact ⟨k + 1, met, _, _, by omega, by omega, by go_num, by rw [HN.out]; simp, HR.out, h3⟩
            case measure => simp [intOf]; omega
      · rcases HO.out.take x.a with ⟨hs1, hs2⟩ | ⟨hs1, hs2, hs3, hs4, _, hs5⟩
        · have HS := Lib.hid (fun (W : World) (h : KeptAt w W S g f gm (.cells (boolCells met) 51 (0, 0))) => take_kept h HLE.out x.a)
          rw [hs1, hs2] at HS
          have HR := Lib.hid HO.out.more
          clear hs1 hs2
          generalize (mtake f x.a).1.1 = r at *
          go_wp2_with (go_at_call 17; refine (HS.out _ (by repeat first | exact HL.out | apply KeptAt.alloc | apply KeptAt.drew)).mono ?_; rintro e W3 ⟨rfl, S3, h3⟩; replace h3 := h3.alloc (.cells #[.int .u32 (r.id : Int), .int .i64 r.to, .string r.s] 35))
          · go_roundw
            case rel => exact ⟨k + 1, met, _, _, by omega, by omega, by go_num, rfl, HR.out, h3⟩
            case measure => simp [intOf]; omega
        · have HS := Lib.hid (fun (W : World) (h : KeptAt w W S g f gm (.cells (boolCells met) 51 (0, 0))) => take_kept h HLE.out x.a)
          rw [hs1] at HS
          have HR := Lib.hid hs5.more
          have HN := Lib.hid hs4
          have HM := Lib.hid hs3
          have hle : (mtake f x.a).1.1.id ≤ f.n := hs2
          clear hs1 hs2 hs3 hs4 hs5
          generalize (mtake f x.a).2 = f2 at *
          generalize (mtake f x.a).1.1 = r at *
          go_wp2_with (go_at_call 17; refine (HS.out _ (by repeat first | exact HL.out | apply KeptAt.alloc | apply KeptAt.drew)).mono ?_; rintro e W3 ⟨rfl, S3, h3⟩; have hmc : W3.cell? ⟨gm, r.id, none⟩ = some (.bool (met r.id)) := (cell_row h3.2.1 r.id).trans (boolCells_at met r.id (by omega)); have hmf := obj_frozen h3.2.1 r.id; have hgl := obj_lt h3.2.1; rw [HM.out] at hmc)
          · go_roundw
            case rel => exact ⟨k + 1, (fun j => met j || j == r.id), _, _, by omega, by omega, by go_num, by rw [HN.out], HR.out, by rw [← boolCells_set met r.id (by omega)]; exact (h3.set_ HGW.out r.id (.bool true)).alloc _⟩
            case measure => simp [intOf]; omega
      · have HS := Lib.hid (fun (W : World) (h : KeptAt w W S g f gm (.cells (boolCells met) 51 (0, 0))) => drop_kept h HLE.out x.a)
        have HR := Lib.hid (HO.out.drop x.a)
        generalize (mtake f x.a).2 = f2 at *
        generalize (mtake f x.a).1.2 = r at *
        go_wp2_with (go_at_call 16; refine (HS.out _ (by repeat first | exact HL.out | apply KeptAt.alloc | apply KeptAt.drew)).mono ?_; rintro e W3 ⟨rfl, S3, h3⟩)
        · go_roundw
          case rel => exact ⟨k + 1, met, _, _, by omega, by omega, by go_num, by rw [HR.out.1], HR.out.2, h3⟩
          case measure => simp [intOf]; omega
      · rcases HO.out.copy hl2 x.a with ⟨hs1, hs2⟩ | ⟨hs1, hs2, hs3⟩
        · have HS := Lib.hid (fun (W : World) (h : KeptAt w W S g f gm (.cells (boolCells met) 51 (0, 0))) => copy_kept h HLE.out x.a)
          rw [hs1, hs2] at HS
          have HR := Lib.hid HO.out.more
          clear hs1 hs2
          generalize (mcopy f x.a).1.1 = r at *
          go_wp2_with (go_at_call 14; refine (HS.out _ (by repeat first | exact HL.out | apply KeptAt.alloc | apply KeptAt.drew)).mono ?_; rintro e W3 ⟨rfl, S3, h3⟩)
          · skip
            go_roundw
            case rel => exact ⟨k + 1, met, _, _, by omega, by omega, by go_num, rfl, HR.out, h3⟩
            case measure => simp [intOf]; omega
        · have HS := Lib.hid (fun (W : World) (h : KeptAt w W S g f gm (.cells (boolCells met) 51 (0, 0))) => copy_kept h HLE.out x.a)
          rw [hs1] at HS
          have HR := Lib.hid hs3
          have HN := Lib.hid hs2
          clear hs1 hs2 hs3
          generalize (mcopy f x.a).2 = f2 at *
          have hnn : (((f.n + 1 : Nat) : Int) != (f.n : Int) + 1) = false := by simp
          go_wp2_with (go_at_call 14; refine (HS.out _ (by repeat first | exact HL.out | apply KeptAt.alloc | apply KeptAt.drew)).mono ?_; rintro e W3 ⟨rfl, S3, h3⟩)
          · skip
            go_roundw
            case rel => exact ⟨k + 1, met, _, _, by omega, by omega, by go_num, by rw [HN.out]; simp, HR.out, h3⟩
            case measure => simp [intOf]; omega
      · have HS := Lib.hid (fun (W : World) (h : KeptAt w W S g f gm (.cells (boolCells met) 51 (0, 0))) => hurt_kept h x.a x.b x.m (fun y hy => by have := HO.out.size y hy; omega) HX.out.2.2.2.1 HX.out.2.2.1.1 HX.out.2.2.1.2)
        have HR := Lib.hid (HO.out.more.hurt x.a x.b x.m)
        generalize (mhurt f x.a x.b x.m).2 = f2 at *
        generalize (mhurt f x.a x.b x.m).1 = r at *
        go_wp2_with (go_at_call 20; refine (HS.out _ (by repeat first | exact HL.out | apply KeptAt.alloc | apply KeptAt.drew)).mono ?_; rintro e W3 ⟨rfl, h3⟩)
        · go_roundw
          case rel => exact ⟨k + 1, met, _, _, by omega, by omega, by go_num, by rw [HR.out.1], HR.out.2, h3⟩
          case measure => simp [intOf]; omega
    · have HB := Lib.hid hL.1.2.1
      go_wp2
      all_goals
        go_ret
        exact ⟨rfl, HB.out⟩
end Go.Proofs.Ytlfbmicpaacbnaa
