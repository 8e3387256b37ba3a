/-
  What a link sends: its frames. Conditions: at most sixty-four are out.
-/
import Derived.Test.YtbmlenffcmmkbaaLnkE
import Derived.Stop.RegionWithIn
import Derived.RangeFuncBox
import Derived.Maps.AppendAt
namespace Ros
open Go Go.RowKit
theorem own_rowE {β : Type} {B : Nat} {e : TypeId} {size : Nat} (v : β → Value) (n : β → Nat) (xs : β → List Value) : OwnFrom B (fun s W => Row W e size (v s) (n s) (xs s)) := by
  intro s X Y row hs hg hr
  refine hs.keep fun k hk => hg.block k (hs.lt hk) (fun e => ?_)
  obtain ⟨_, o, ho, hc⟩ := hr k e.symm
  rcases hs.2 with ⟨h1, _⟩ | ⟨g, cap, cur, h1, hg2, _⟩
  · rw [h1] at hk; simp [Value.ownBlock] at hk
  · rw [h1] at hk
    simp [Value.ownBlock] at hk
    subst hk
    rw [hg2] at ho; cases ho; cases hc
theorem keeps_row {B : Nat} {W W' : World} {e : TypeId} {size n : Nat} {v : Value} {xs : List Value} (hR : Row W e size v n xs) (hg : W.grownBy W' v.ownBlock) : KeepsFrom B W W' := by
  refine ⟨hg.size, fun k o _ hk ho => (hg.block k (obj_lt hk) (fun e => ?_)).trans hk⟩
  rcases hR.2 with ⟨h1, _⟩ | ⟨g, cap, cur, h1, hg2, _⟩
  · rw [h1] at e; simp [Value.ownBlock] at e
  · rw [h1] at e
    simp [Value.ownBlock] at e
    subst e
    rw [hg2] at hk; cases hk; cases ho
theorem row_put {W : World} {e : TypeId} {size n D : Nat} {v : Value} {xs : List Value} {o : Obj} (h : Row W e size v n xs) (hD : W.heap[D]? = some o) (hc : o.isCells = false) (o' : Obj) : Row (W.putObj D o') e size v n xs := by
  refine h.keep fun k hk => World.putObj_heap_other fun he => ?_
  subst he
  rcases h.2 with ⟨rfl, _⟩ | ⟨g, cap, cur, rfl, hg, _⟩
  · simp [Value.ownBlock] at hk
  · simp [Value.ownBlock] at hk
    subst hk
    rw [hg] at hD; cases hD; cases hc
def framesN (s : Lk) (n : Nat) : List Fr := (List.range n).map fun i => lframe s 1 s.life (s.first + i) (s.outs.getD i ⟨#[]⟩)
theorem framesN_succ (s : Lk) (n : Nat) : (framesN s (n + 1)).flatMap frL = (framesN s n).flatMap frL ++ frL (lframe s 1 s.life (s.first + n) (s.outs.getD n ⟨#[]⟩)) := by
  simp [framesN, List.range_succ]
theorem outL_mid {s : Lk} {x : Nat × ByteArray} {pre post : List (Nat × ByteArray)} (h : outL s = pre ++ x :: post) : pre.length < s.outs.length ∧ x = (s.first + pre.length, s.outs.getD pre.length ⟨#[]⟩) := by
  have hl := outL_len s
  have h1 : pre.length < (outL s).length := by rw [h]; simp
  have h2 : pre.length < s.outs.length := by omega
  have h3 := outL_get s pre.length h1 h2
  have h4 : (outL s)[pre.length]'h1 = x := by simp [h]
  refine ⟨h2, ?_⟩
  rw [← h4, h3]
  simp [h2]
/-- The post without 'outgrown'. -/
def noOut (Q : Exit → Act → World → Prop) : Exit → Act → World → Prop
  | .outgrown, _, _ => False
  | e, a, w => Q e a w
theorem round_held {P : Program} {id : Nat} {ops : Array Oper} {Q : Exit → Act → World → Prop} {a : Act} {w : World} (S : World → Prop) (r m : Nat) (hm : P.follows .mixedOrders = true) (hd : ops.all noDefer = true)
    (h : wpAnyH P .any ops (noOut Q) S ops.size (Array.replicate ops.size false) a w.drew) : (Code.region id ops true).wpIn (Fence.wide.inRound r) m P Q a w :=
  wpIn_mono (round_any r m hm hd (Q := noOut Q) (fun ⟨_, _, h⟩ => h) (wpAny_of_held _ _ _ _ h)) (fun e _ _ h => by cases e <;> first | exact h | exact h.elim)
end Ros
namespace Go.Proofs.Ytbmlenffcmmkbaa
open Go.RowKit Go.Shelf Ros Go.Maps
attribute [local go_sem] Oper.semAt_some
theorem frame_info : (Try.prog.info? 37).map (fun i => (i.zero, i.size, i.bytes)) = some (some (.agg #[.int .i64 0, .int .i64 0, .int .i64 0, .int .i64 0, .int .u32 0, .int .u32 0, .int .u32 0, .int .u32 0, .string ⟨#[]⟩]), 9, 64) := by kernel_rfl
theorem lk_look {W : World} {S : Nat → Prop} {g : Nat} {s : Lk} (h : LkA W S g s) (hn : s.next < 4294967296) (j : Nat) (hj : j < s.outs.length) :
    ∃ b, W.cell? ⟨g, 3, none⟩ = some (.map (some b)) ∧ (Instr.lookup 53 (.map (some b)) (.int .u32 ((s.first + j : Nat) : Int)) false).run Try.prog W = .ok (.agg #[.string s.outs[j]]) W := by
  obtain ⟨b, hg, hm, _, _⟩ := h
  have hlt : s.first + j < 4294967296 := by unfold Lk.next at hn; omega
  obtain ⟨kl, hkey⟩ := w32_key hlt
  have hlk := (hm.look_ (e := 72) (t := 53) (z := .agg #[.string ⟨#[]⟩]) (Maps.int_keyed Try.underlying35) Try.underlying53 (by rfl) hkey).1
  have hv : outsV s (s.first + j) = some (.agg #[.string s.outs[j]]) := by
    unfold outsV
    rw [if_pos (by omega), show s.first + j - s.first = j by omega, List.getElem?_eq_getElem hj]
    rfl
  rw [hv] at hlk
  exact ⟨b, cell_row hg 3, hlk⟩
theorem flyR_of {W : World} {S : Nat → Prop} {g Bs : Nat} {s : Lk} (h : LkA W S g s) (hn : s.next < 4294967296) (hb : W.cell? ⟨Bs, 0, none⟩ = some (.pointer (some ⟨g, 0, none⟩))) (pre : List (Nat × ByteArray)) : FlyR Bs g s pre W := by
  obtain ⟨_, q1, q2, _⟩ := lk_cells h
  exact ⟨hb, fun _ => ⟨q1, q2⟩, fun hl => lk_look h hn pre.length hl⟩
theorem own_lka {β : Type} {B : Nat} {S : Nat → Prop} {g : Nat} (f : β → Lk) (hS : ∀ k, S k → k < B) : OwnFrom B (fun s W => LkA W S g (f s)) :=
  fun _ _ _ _ hs hg hr => hs.keep (fun k hk => hg.block k (hs.lt k hk) (fun e => by have := (hr k e.symm).1; have := hS k hk; omega))
def OutS (w : World) (g : Nat) (s : Lk) (w' : World) : Prop := w'.cell? ⟨w.heap.size, 0, none⟩ = some (.pointer (some ⟨g, 0, none⟩)) ∧ w'.cell? ⟨g, 0, none⟩ = some (.int .u32 (s.life : Int))
/-- What the rounds abide. -/
def OuI (w : World) (S : Nat → Prop) (g : Nat) (s : Lk) (n : Nat) (W : World) : Prop :=
  n ≤ s.outs.length ∧ W.heap[w.heap.size]? = some (.cells #[.pointer (some ⟨g, 0, none⟩)] 25 (0, 0)) ∧ W.heap[w.heap.size + 2]? = some (.cells #[.pointer (some ⟨g, 0, none⟩)] 69 (0, 0)) ∧ LkA W S g s ∧ Below w.heap.size w W ∧
    ∃ A cap, W.heap[w.heap.size + 1]? = some (.cells #[.slice A n cap] 30 (0, 0)) ∧ Row W 37 9 (.slice A n cap) n ((framesN s n).flatMap frL) ∧ ∀ k, (Value.slice A n cap).ownBlock = some k → w.heap.size + 2 < k
theorem own_ouI {β : Type} {B : Nat} {w : World} {S : Nat → Prop} {g : Nat} {s : Lk} (n : β → Nat) (hS : ∀ k, S k → k < B) (hw : w.heap.size ≤ B) : OwnFrom B (fun x W => OuI w S g s (n x) W) := by
  rintro x W W' row ⟨h1, h2, h3, h4, h5, A, cap, h6, h7, h8⟩ hg hr
  exact ⟨h1, own_cells B _ (fun _ : Unit => _) _ _ () W W' row h2 hg hr, own_cells B _ (fun _ : Unit => _) _ _ () W W' row h3 hg hr, own_lka (fun _ : Unit => s) hS () W W' row h4 hg hr, own_below (β := Unit) (Nat.le_refl _) hw () W W' row h5 hg hr,
    A, cap, own_cells B _ (fun _ : Unit => _) _ _ () W W' row h6 hg hr, own_rowE (fun _ : Unit => _) (fun _ => _) (fun _ => _) () W W' row h7 hg hr, h8⟩
def appendSem (ts : Array TypeId) (t : TypeId) (args : Array Value) : Sem Value := Builtin.append_ ts t args
theorem append_hide (ts : Array TypeId) (t : TypeId) (args : Array Value) : Builtin.append_ ts t args = appendSem ts t args := rfl
attribute [local go_sem ↓] append_hide
theorem ou_step {w W2 w3 : World} {S : Nat → Prop} {g n cap : Nat} {s : Lk} {A : Option Addr} (hS : ∀ k, S k → k < w.heap.size) (hn : n < s.outs.length) (hl : s.outs.length ≤ 64) (hb : W2.heap[w.heap.size]? = some (.cells #[.pointer (some ⟨g, 0, none⟩)] 25 (0, 0))) (hb2 : W2.heap[w.heap.size + 2]? = some (.cells #[.pointer (some ⟨g, 0, none⟩)] 69 (0, 0))) (hN : LkA W2 S g s) (hB : Below w.heap.size w W2)
    (hbs : W2.heap[w.heap.size + 1]? = some (.cells #[.slice A n cap] 30 (0, 0))) (hR : Row W2 37 9 (.slice A n cap) n ((framesN s n).flatMap frL)) (hfr : ∀ k, (Value.slice A n cap).ownBlock = some k → w.heap.size + 2 < k) (b3 : Below W2.heap.size W2 w3) (fr : Fr) (hx : fr = lframe s 1 s.life (s.first + n) (s.outs.getD n ⟨#[]⟩)) :
    ∃ A1 c1 w1, (appendSem #[30, 30] 30 #[.slice A n cap, .slice (some ⟨w3.heap.size, 0, none⟩) 1 1]).run Try.prog (w3.alloc (.cells #[.int .i64 fr.wire, .int .i64 fr.kind, .int .i64 fr.src, .int .i64 fr.dst, .int .u32 (fr.life : Int), .int .u32 (fr.seq : Int), .int .u32 (fr.ack : Int), .int .u32 (fr.hint : Int), .string fr.data] 37)) = .ok (.slice A1 (n + 1) c1) w1 ∧
      (w3.alloc (.cells #[.int .i64 fr.wire, .int .i64 fr.kind, .int .i64 fr.src, .int .i64 fr.dst, .int .u32 (fr.life : Int), .int .u32 (fr.seq : Int), .int .u32 (fr.ack : Int), .int .u32 (fr.hint : Int), .string fr.data] 37)).cell? ⟨w.heap.size + 1, 0, none⟩ = some (.slice A n cap) ∧ w1.cell? ⟨w.heap.size + 1, 0, none⟩ = some (.slice A n cap) ∧ w1.frozen? ⟨w.heap.size + 1, 0, none⟩ = false ∧ OuI w S g s (n + 1) (w1.setCell ⟨w.heap.size + 1, 0, none⟩ (.slice A1 (n + 1) c1)) ∧ ∀ B, KeepsFrom B W2 (w1.setCell ⟨w.heap.size + 1, 0, none⟩ (.slice A1 (n + 1) c1)) := by
  obtain ⟨i0, hi0, hz0, hz1, hz2⟩ := info_parts frame_info
  have hsz2 : w.heap.size + 2 < W2.heap.size := obj_lt hb2
  have hsz3 := b3.size
  have hR2 : Row (w3.alloc (.cells #[.int .i64 fr.wire, .int .i64 fr.kind, .int .i64 fr.src, .int .i64 fr.dst, .int .u32 (fr.life : Int), .int .u32 (fr.seq : Int), .int .u32 (fr.ack : Int), .int .u32 (fr.hint : Int), .string fr.data] 37)) 37 9 (.slice A n cap) n ((framesN s n).flatMap frL) := (hR.below b3 (Nat.le_refl _)).alloc _
  have hsrc : Src Try.prog 9 30 (.slice (some ⟨w3.heap.size, 0, none⟩) 1 1) 1 (frL fr) (w3.alloc (.cells #[.int .i64 fr.wire, .int .i64 fr.kind, .int .i64 fr.src, .int .i64 fr.dst, .int .u32 (fr.life : Int), .int .u32 (fr.seq : Int), .int .u32 (fr.ack : Int), .int .u32 (fr.hint : Int), .string fr.data] 37)) :=
    Src.ofSlice (P := Try.prog) (size := 9) _ Try.underlying30 ⟨w3.heap.size, 0, none⟩ 1 1 (frL fr) rfl (World.news_of_block (World.alloc_heap_new w3 _)) (by intro u hu; simp [frL] at hu; rcases hu with rfl | rfl | rfl | rfl | rfl | rfl | rfl | rfl | rfl <;> rfl)
  obtain ⟨v', w1, ha, hR3, hgr, hvb⟩ := run_append_row (P := Try.prog) (w3.alloc (.cells #[.int .i64 fr.wire, .int .i64 fr.kind, .int .i64 fr.src, .int .i64 fr.dst, .int .u32 (fr.life : Int), .int .u32 (fr.seq : Int), .int .u32 (fr.ack : Int), .int .u32 (fr.hint : Int), .string fr.data] 37)) 30 30 30 37 i0 _ 9 64 Try.underlying30 hi0 hz0 hz1 hz2 rfl _ _ _ hR2 _ 1 _ hsrc (by unfold maxLen; omega) (by omega)
  obtain ⟨A1, c1, rfl, _, _⟩ := hR3.form
  have hvb2 : ∀ k, (Value.slice A1 (n + 1) c1).ownBlock = some k → w.heap.size + 2 < k := fun k hk => by
    rcases hvb with e | e
    · rw [e] at hk; exact hfr k hk
    · rw [e] at hk; cases hk; simp; omega
  have hsame : ∀ k, k ≤ w.heap.size + 2 → w1.heap[k]? = W2.heap[k]? := fun k hk =>
    (hgr.block k (by simp; omega) (fun e => by have := hfr k e.symm; omega)).trans ((Below.heap_alloc w3 _ k (by omega)).trans (b3.block k (by omega)))
  have hbs1 := (hsame (w.heap.size + 1) (by omega)).trans hbs
  have hsv : Row (w1.setCell ⟨w.heap.size + 1, 0, none⟩ (.slice A1 (n + 1) c1)) 37 9 (.slice A1 (n + 1) c1) (n + 1) ((framesN s n).flatMap frL ++ frL fr) :=
    hR3.keep fun k hk => Below.heap_setCell _ _ _ _ (by have := hvb2 k hk; show k ≠ w.heap.size + 1; omega)
  have hBn : Below w.heap.size w (w1.setCell ⟨w.heap.size + 1, 0, none⟩ (.slice A1 (n + 1) c1)) :=
    ((((hB.trans (b3.mono hB.size)).alloc (Nat.le_trans hB.size hsz3) _).grown hgr (by simp; omega) (fun k e => by have := hfr k e; omega)).setCell (p := ⟨w.heap.size + 1, 0, none⟩) (by simp) _)
  refine ⟨A1, c1, w1, ha, cell_row (obj_alloc (obj_below hbs b3 (by omega)) _) 0, cell_row hbs1 0, obj_frozen hbs1 0, ?_, fun B => ?_⟩
  · refine ⟨by omega, obj_far ((hsame _ (by omega)).trans hb) (p := ⟨w.heap.size + 1, 0, none⟩) (by simp) _, obj_far ((hsame _ (by omega)).trans hb2) (p := ⟨w.heap.size + 1, 0, none⟩) (by simp) _,
      hN.keep fun k hk => (Below.heap_setCell _ _ _ _ (by have := hS k hk; show k ≠ w.heap.size + 1; omega)).trans (hsame k (by have := hS k hk; omega)), hBn, A1, c1, obj_set hbs1 0 _, ?_, hvb2⟩
    rw [framesN_succ, ← hx]
    exact hsv
  · exact (((keeps_below b3).trans (keeps_below ((Below.refl _ w3).alloc (Nat.le_refl _) _))).trans (keeps_row hR2 hgr)).trans (keeps_set _ ⟨w.heap.size + 1, 0, none⟩ _)
set_option maxRecDepth 100000 in
set_option maxHeartbeats 4000000 in
theorem out_any (w : World) (S : Nat → Prop) (g : Nat) (s : Lk) (h : LkA w S g s) (hn : s.next < 4294967296) (hw : s.waits < 4294967296) (hl : s.outs.length ≤ 64) :
    Calls Try.prog 11 #[.pointer (some ⟨g, 0, none⟩)] w fun e w' => ∃ A cap, e = .returned (.slice A s.outs.length cap) ∧ Row w' 37 9 (.slice A s.outs.length cap) s.outs.length ((framesN s s.outs.length).flatMap frL) ∧ Below w.heap.size w w' ∧ ∀ k, (Value.slice A s.outs.length cap).ownBlock = some k → w.heap.size ≤ k := by
  obtain ⟨i0, hi0, hz0, hz1, hz2⟩ := info_parts frame_info
  have hS := h.lt
  obtain ⟨_, _, _, _, _, _, _, _, _, _, hgl⟩ := lk_cells h
  have HG := Lib.hid hgl
  clear hgl
  have b0 := (Below.refl _ w).alloc (Nat.le_refl _) (.cells #[.pointer (some ⟨g, 0, none⟩)] 25)
  have b1 := b0.alloc b0.size (.cells #[.slice none 0 0] 30)
  have b2 := b1.alloc b1.size (.cells #[.pointer (some ⟨g, 0, none⟩)] 69)
  have H0 := Lib.hid (show OuI w S g s 0 (((w.alloc (.cells #[.pointer (some ⟨g, 0, none⟩)] 25)).alloc (.cells #[.slice none 0 0] 30)).alloc (.cells #[.pointer (some ⟨g, 0, none⟩)] 69)) from
    ⟨Nat.zero_le _, obj_alloc (obj_alloc (World.alloc_heap_new w _) _) _, by have := World.alloc_heap_new ((w.alloc (.cells #[.pointer (some ⟨g, 0, none⟩)] 25)).alloc (.cells #[.slice none 0 0] 30)) (.cells #[.pointer (some ⟨g, 0, none⟩)] 69); rwa [World.size_alloc, World.size_alloc] at this, h.below b2, b2,
      none, 0, obj_alloc (by have := World.alloc_heap_new (w.alloc (.cells #[.pointer (some ⟨g, 0, none⟩)] 25)) (.cells #[.slice none 0 0] 30); rwa [World.size_alloc] at this) _, Row.nil _ _ _, fun k hk => by cases hk⟩)
  clear b0 b1 b2 h
  refine calls_marks Try.func11 rfl ?_
  simp only [Try.ntmps11, List.size_toArray, List.length_cons, List.length_nil, Nat.reduceAdd, Nat.reduceSub, Array.replicate_succ, Array.replicate_zero, List.push_toArray, List.append_toArray, List.nil_append, List.cons_append]
  gi_wp2_with (gi_at_call 17; refine (in_wide _ (flying_any _ _)).mono ?_; rintro e w' ⟨rfl, rfl⟩)
  have hz3 : (((w.alloc (.cells #[.pointer (some ⟨g, 0, none⟩)] 25)).alloc (.cells #[.slice none 0 0] 30)).alloc (.cells #[.pointer (some ⟨g, 0, none⟩)] 69)).heap.size = w.heap.size + 3 := by simp
  have HZ3 := Lib.hid hz3
  refine range_law (gf := 25) (lb := #[.pointer (some ⟨w.heap.size + 2, 0, none⟩)]) rfl (enters_of Try.func25 (by kernel_rfl) rfl) (flying1_iter (w.heap.size + 2) g s hn) (fun _ => rfl)
    (fun pre W => OuI w S g s pre.length W) (fun _ _ _ => False) (own_ouI _ (fun k hk => by have := hS k hk; omega) (by omega)) own_false (fun pre W hI => flyR_of hI.2.2.2.1 hn (cell_row hI.2.2.1 0) pre) H0.out ?hround ?hdone ?hstop
  case hround =>
    rintro L pre x post W hxs hlL hlW hI
    obtain ⟨hlt, rfl⟩ := outL_mid hxs
    clear hxs
    unfold encO
    dsimp only
    obtain ⟨q, hqd⟩ : ∃ q, q = s.first + pre.length := ⟨_, rfl⟩
    have HFS := Lib.hid (framesN_succ s pre.length)
    rw [← hqd] at HFS ⊢
    have HFm := Lib.hid (fun (W : World) (hW : LkA W S g s) => frame_any W S g s hW hw 1 s.life q (s.outs.getD pre.length ⟨#[]⟩))
    obtain ⟨y, hyx⟩ : ∃ y, y = s.outs.getD pre.length ⟨#[]⟩ := ⟨_, rfl⟩
    rw [← hyx] at HFm HFS ⊢
    obtain ⟨fr, hfrx⟩ : ∃ fr, fr = lframe s 1 s.life q y := ⟨_, rfl⟩
    have HX : Hid (fr = lframe s 1 s.life (s.first + pre.length) (s.outs.getD pre.length ⟨#[]⟩)) := Lib.hid (by rw [hfrx, hqd, hyx])
    rw [← hfrx] at HFm HFS
    clear hfrx
    clear hqd hyx
    gi_wp2
    refine ⟨KeepsFrom.refl _ _, hI, ?_⟩
    clear hI
    rintro W2 hg hsz hI
    obtain ⟨hpl, hb, hb2, hN, hB, A, cap, hbs, hR, hfr⟩ := hI
    have q0 := cell_row hb 0
    have q1 := cell_row hbs 0
    simp only [List.getElem?_toArray, List.getElem?_cons_zero] at q0 q1
    have f1 := obj_frozen hbs 0
    obtain ⟨l0, _⟩ := lk_cells hN
    have HST := Lib.hid (fun (w3 : World) (b3 : Below W2.heap.size W2 w3) => ou_step hS hlt hl hb hb2 hN hB hbs hR hfr b3 fr HX.out)
    have HS1 : Hid (∀ w3, Below W2.heap.size W2 w3 → OutS w g s w3) := Lib.hid (fun w3 b3 => ⟨cell_row (obj_below hb b3 (obj_lt hb)) 0, (lk_cells (hN.below b3)).1⟩)
    have HS2 : Hid (∀ (w1 : World) v, OuI w S g s (pre.length + 1) (w1.setCell ⟨w.heap.size + 1, 0, none⟩ v) → OutS w g s w1 ∧ OutS w g s (w1.setCell ⟨w.heap.size + 1, 0, none⟩ v)) := Lib.hid (fun w1 v hO => by
      obtain ⟨_, hb', _, hN', _⟩ := hO
      have e1 := cell_row hb' 0
      obtain ⟨e2, _⟩ := lk_cells hN'
      have hgl := HG.out
      refine ⟨⟨?_, ?_⟩, e1, e2⟩
      · rw [← World.cell?_setCell_far w1 ⟨w.heap.size + 1, 0, none⟩ _ v (by simp)]; exact e1
      · rw [← World.cell?_setCell_far w1 ⟨w.heap.size + 1, 0, none⟩ _ v (by show w.heap.size + 1 ≠ g; omega)]; exact e2)
    have HZC : Hid (∀ w3 : World, Below W2.heap.size W2 w3 → w3.cell? ⟨w.heap.size + 1, 0, none⟩ = some (.slice A pre.length cap)) := Lib.hid (fun w3 b3 => cell_row (obj_below hbs b3 (obj_lt hbs)) 0)
    have HN := Lib.hid (show LkA W2.drew S g s from hN)
    clear hpl hb hb2 hN hB hbs hR hfr hsz
    gi_wp2
    have HS0 : OutS w g s W2.drew := ⟨q0, l0⟩
    refine round_held (OutS w g s) _ _ (by kernel_rfl) (by kernel_rfl) ?_
    refine wpAnyH_take (i := 1) (oi := _) (v := .pointer (some ⟨g, 0, none⟩)) rfl (by kernel_rfl) (by kernel_rfl) (by kernel_rfl) (fun _ _ _ h => h) (Or.inl ⟨by rfl, ?_⟩) HS0 ?_
    · rintro w9 ⟨h1, h2⟩
      go_simp
    simp only [Act.put]
    refine wpAnyH_take (i := 2) (oi := _) (v := .pointer (some ⟨g, 0, none⟩)) rfl (by kernel_rfl) (by kernel_rfl) (by kernel_rfl) (fun _ _ _ h => h) (Or.inl ⟨by rfl, ?_⟩) HS0 ?_
    · rintro w9 ⟨h1, h2⟩
      go_simp
    simp only [Act.put]
    refine wpAnyH_take (i := 3) (oi := _) (v := .pointer (some ⟨g, 0, none⟩)) rfl (by kernel_rfl) (by kernel_rfl) (by kernel_rfl) (fun _ _ _ h => h) (Or.inl ⟨by rfl, ?_⟩) HS0 ?_
    · rintro w9 ⟨h1, h2⟩
      go_simp
    simp only [Act.put]
    refine wpAnyH_take (i := 4) (oi := _) (v := .pointer (some ⟨g, 0, none⟩)) rfl (by kernel_rfl) (by kernel_rfl) (by kernel_rfl) (fun _ _ _ h => h) (Or.inl ⟨by rfl, ?_⟩) HS0 ?_
    · rintro w9 ⟨h1, h2⟩
      go_simp
    simp only [Act.put]
    refine wpAnyH_take (i := 5) (oi := _) (v := .pointer (some ⟨g, 0, none⟩)) rfl (by kernel_rfl) (by kernel_rfl) (by kernel_rfl) (fun _ _ _ h => h) (Or.inl ⟨by rfl, ?_⟩) HS0 ?_
    · rintro w9 ⟨h1, h2⟩
      go_simp
    simp only [Act.put]
    refine wpAnyH_take (i := 6) (oi := _) (v := .int .u32 (s.life : Int)) rfl (by kernel_rfl) (by kernel_rfl) (by kernel_rfl) (fun _ _ _ h => h) (Or.inl ⟨by rfl, ?_⟩) HS0 ?_
    · rintro w9 ⟨h1, h2⟩
      go_simp
    simp only [Act.put]
    refine wpAnyH_take (i := 7) (oi := _) (v := .int .u32 (q : Int)) rfl (by kernel_rfl) (by kernel_rfl) (by kernel_rfl) (fun _ _ _ h => h) (Or.inl ⟨by rfl, ?_⟩) HS0 ?_
    · rintro w9 ⟨h1, h2⟩
      go_simp
    simp only [Act.put]
    refine wpAnyH_take (i := 8) (oi := _) (v := .string y) rfl (by kernel_rfl) (by kernel_rfl) (by kernel_rfl) (fun _ _ _ h => h) (Or.inl ⟨by rfl, ?_⟩) HS0 ?_
    · rintro w9 ⟨h1, h2⟩
      go_simp
    simp only [Act.put]
    refine wpAnyH_ready (rs := [0, 9]) (by kernel_rfl) (by simp) ?_
    refine AllReadyH.cons (by rfl) (fun K hK => ?_) (AllReadyH.cons (by rfl) (fun K hK => ?_) AllReadyH.nil)
    · rw [if_pos (by kernel_rfl)]
      go_simp
      refine hK.out _ _ (HS0) (fun _ => ?_)
      clear hK K
      refine wpAnyH_ready (rs := [9]) (by kernel_rfl) (by simp) ?_
      refine AllReadyH.cons (by rfl) (fun K hK => ?_) AllReadyH.nil
      rw [if_pos (by kernel_rfl)]
      go_simp
      go_at_call 18
      refine (HFm.out _ HN.out).mono ?_
      rintro e w3 ⟨rfl, b3⟩
      have b4 : Below W2.heap.size W2 w3 := ⟨b3.os, b3.tape, b3.output, b3.size, b3.block⟩
      clear b3
      dsimp only [frV]
      go_simp
      refine hK.out _ _ (HS1.out _ b4) (fun _ => ?_)
      clear hK K
      refine wpAnyH_ready (rs := [10]) (by kernel_rfl) (by simp) ?_
      refine AllReadyH.cons (by rfl) (fun K hK => ?_) AllReadyH.nil
      rw [if_pos (by kernel_rfl)]
      go_simp
      refine hK.out _ _ (HS1.out _ (b4.alloc b4.size _)) (fun _ => ?_)
      clear hK K
      refine wpAnyH_ready (rs := [11]) (by kernel_rfl) (by simp) ?_
      refine AllReadyH.cons (by rfl) (fun K hK => ?_) AllReadyH.nil
      rw [if_pos (by kernel_rfl)]
      obtain ⟨A1, c1, w1, ha, hz, z1, z2, hO, hk⟩ := HST.out w3 b4
      obtain ⟨t1, t2⟩ := HS2.out w1 _ hO
      have HO := Lib.hid hO
      have HKK := Lib.hid hk
      clear hO hk hz
      go_simp
      refine hK.out _ _ t1 (fun _ => ?_)
      clear hK K
      refine wpAnyH_ready (rs := [12]) (by kernel_rfl) (by simp) ?_
      refine AllReadyH.cons (by rfl) (fun K hK => ?_) AllReadyH.nil
      rw [if_pos (by kernel_rfl)]
      go_simp
      refine hK.out _ _ t2 (fun _ => ?_)
      clear hK K
      refine wpAnyH_done (by kernel_rfl) ?_ _
      simp only [noOut]
      gi_wp2
      exact ⟨HKK.out _, by show OuI w S g s (pre ++ [_]).length _; rw [List.length_append, List.length_singleton]; exact HO.out⟩
    · rw [if_pos (by kernel_rfl)]
      go_simp
      go_at_call 18
      refine (HFm.out _ HN.out).mono ?_
      rintro e w3 ⟨rfl, b3⟩
      have b4 : Below W2.heap.size W2 w3 := ⟨b3.os, b3.tape, b3.output, b3.size, b3.block⟩
      clear b3
      dsimp only [frV]
      go_simp
      refine hK.out _ _ (HS1.out _ b4) (fun _ => ?_)
      clear hK K
      have hz1' : w3.cell? ⟨w.heap.size + 1, 0, none⟩ = some (.slice A pre.length cap) := HZC.out w3 b4
      refine wpAnyH_ready (rs := [0, 10]) (by kernel_rfl) (by simp) ?_
      refine AllReadyH.cons (by rfl) (fun K hK => ?_) (AllReadyH.cons (by rfl) (fun K hK => ?_) AllReadyH.nil)
      · rw [if_pos (by kernel_rfl)]
        go_simp
        refine hK.out _ _ (HS1.out _ b4) (fun _ => ?_)
        clear hK K
        refine wpAnyH_ready (rs := [10]) (by kernel_rfl) (by simp) ?_
        refine AllReadyH.cons (by rfl) (fun K hK => ?_) AllReadyH.nil
        rw [if_pos (by kernel_rfl)]
        go_simp
        refine hK.out _ _ (HS1.out _ (b4.alloc b4.size _)) (fun _ => ?_)
        clear hK K
        refine wpAnyH_ready (rs := [11]) (by kernel_rfl) (by simp) ?_
        refine AllReadyH.cons (by rfl) (fun K hK => ?_) AllReadyH.nil
        rw [if_pos (by kernel_rfl)]
        obtain ⟨A1, c1, w1, ha, hz, z1, z2, hO, hk⟩ := HST.out w3 b4
        obtain ⟨t1, t2⟩ := HS2.out w1 _ hO
        have HO := Lib.hid hO
        have HKK := Lib.hid hk
        clear hO hk hz
        go_simp
        refine hK.out _ _ t1 (fun _ => ?_)
        clear hK K
        refine wpAnyH_ready (rs := [12]) (by kernel_rfl) (by simp) ?_
        refine AllReadyH.cons (by rfl) (fun K hK => ?_) AllReadyH.nil
        rw [if_pos (by kernel_rfl)]
        go_simp
        refine hK.out _ _ t2 (fun _ => ?_)
        clear hK K
        refine wpAnyH_done (by kernel_rfl) ?_ _
        simp only [noOut]
        gi_wp2
        exact ⟨HKK.out _, by show OuI w S g s (pre ++ [_]).length _; rw [List.length_append, List.length_singleton]; exact HO.out⟩
      · rw [if_pos (by kernel_rfl)]
        go_simp
        refine hK.out _ _ (HS1.out _ (b4.alloc b4.size _)) (fun _ => ?_)
        clear hK K
        have hz2' := HZC.out _ (b4.alloc b4.size (.cells #[.int .i64 fr.wire, .int .i64 fr.kind, .int .i64 fr.src, .int .i64 fr.dst, .int .u32 (fr.life : Int), .int .u32 (fr.seq : Int), .int .u32 (fr.ack : Int), .int .u32 (fr.hint : Int), .string fr.data] 37))
        refine wpAnyH_ready (rs := [0]) (by kernel_rfl) (by simp) ?_
        refine AllReadyH.cons (by rfl) (fun K hK => ?_) AllReadyH.nil
        rw [if_pos (by kernel_rfl)]
        go_simp
        refine hK.out _ _ (HS1.out _ (b4.alloc b4.size _)) (fun _ => ?_)
        clear hK K
        refine wpAnyH_ready (rs := [11]) (by kernel_rfl) (by simp) ?_
        refine AllReadyH.cons (by rfl) (fun K hK => ?_) AllReadyH.nil
        rw [if_pos (by kernel_rfl)]
        obtain ⟨A1, c1, w1, ha, hz, z1, z2, hO, hk⟩ := HST.out w3 b4
        obtain ⟨t1, t2⟩ := HS2.out w1 _ hO
        have HO := Lib.hid hO
        have HKK := Lib.hid hk
        clear hO hk hz
        go_simp
        refine hK.out _ _ t1 (fun _ => ?_)
        clear hK K
        refine wpAnyH_ready (rs := [12]) (by kernel_rfl) (by simp) ?_
        refine AllReadyH.cons (by rfl) (fun K hK => ?_) AllReadyH.nil
        rw [if_pos (by kernel_rfl)]
        go_simp
        refine hK.out _ _ t2 (fun _ => ?_)
        clear hK K
        refine wpAnyH_done (by kernel_rfl) ?_ _
        simp only [noOut]
        gi_wp2
        exact ⟨HKK.out _, by show OuI w S g s (pre ++ [_]).length _; rw [List.length_append, List.length_singleton]; exact HO.out⟩
  case hdone =>
    rintro D W hD hI hK
    rw [outL_len] at hI
    obtain ⟨hpl, hb, hb2, hN, hB, A, cap, hbs, hR, hfr⟩ := hI
    have q1 := cell_row hbs 0
    simp only [List.getElem?_toArray, List.getElem?_cons_zero] at q1
    have HK := Lib.hid hK
    have HR := Lib.hid hR
    have HB := Lib.hid hB
    clear hK hR hB hN hb2 hb hbs hz3
    gi_wp2
    refine leaves_mark1 rfl HK.out ?_
    exact ⟨A, cap, rfl, row_put HR.out HK.out rfl _, below_put HB.out (by have := HZ3.out; omega) (Nat.le_refl _), fun k hk => by have := hfr k hk; omega⟩
  case hstop => rintro D c pre W hD hp hf; exact hf.elim
end Go.Proofs.Ytbmlenffcmmkbaa
