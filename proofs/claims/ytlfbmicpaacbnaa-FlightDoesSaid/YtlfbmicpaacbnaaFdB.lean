/-
  The document's flight: taking. Conditions: at most a thousand notes lie there.
-/
import Derived.Test.YtlfbmicpaacbnaaFdA
namespace Ros
open Go Go.RowKit
/-- A beginning of it. -/
theorem Row.cutc {w : World} {e : TypeId} {size n : Nat} {xs : List Value} {A : Option Addr} {c k : Nat} (h : Row w e size (.slice A n c) n xs) (hk : k ≤ n) : Row w e size (.slice A k c) k (xs.take (k * size)) := by
  refine ⟨by rw [List.length_take, h.1]; exact Nat.min_eq_left (Nat.mul_le_mul_right _ hk), ?_⟩
  rcases h.2 with ⟨hv, rfl⟩ | ⟨g, cap, cur, hv, hg, h1, h2, h3, h4⟩
  · cases hv; exact .inl ⟨by have : k = 0 := by omega
                             rw [this], by omega⟩
  · injection hv with hA hl hc
    subst hA
    subst hc
    refine .inr ⟨g, c, cur, rfl, hg, by omega, h2, h3, ?_⟩
    rw [← h4, List.take_take, Nat.min_eq_left (Nat.mul_le_mul_right _ hk)]
end Ros
namespace Go.Proofs.Ytlfbmicpaacbnaa
open Go.RowKit Go.Shelf Ros
attribute [local go_sem] Oper.semAt_some
attribute [local go_sem ↓] Go.wp_at_zero Go.wp_at_succ
theorem cells3F {w : World} {g : Nat} {a b c : Value} {t : TypeId} (h : w.heap[g]? = some (.cells #[a, b, c] t (0, 0))) :
    w.cell? ⟨g, 0, none⟩ = some a ∧ w.cell? ⟨g, 1, none⟩ = some b ∧ w.cell? ⟨g, 2, none⟩ = some c ∧ w.frozen? ⟨g, 0, none⟩ = false ∧ w.frozen? ⟨g, 1, none⟩ = false ∧ w.frozen? ⟨g, 2, none⟩ = false ∧ g < w.heap.size :=
  ⟨cell_row h 0, cell_row h 1, cell_row h 2, obj_frozen h 0, obj_frozen h 1, obj_frozen h 2, obj_lt h⟩
/-- A flight whose slice was set behind a growth. -/
theorem rf_end2 {S : Nat → Prop} {g n c1 m : Nat} {l2 : List Nt} {v : Value} {w W w1 : World} {A1 : Option Addr} (hg : W.heap[g]? = some (.cells #[v, .int .u32 (n : Int)] 55 (0, 0))) (hS : ∀ k, S k ↔ k = g ∨ v.ownBlock = some k) (hT : Turn S S w W)
    (hr : Row w1 35 3 (.slice A1 m c1) m (cellsNs l2)) (hm : m = l2.length) {u : Option Nat} (hgrow : W.grownBy w1 u) (hgu : u ≠ some g) (hu : ∀ k, u = some k → S k ∨ w.heap.size ≤ k) (hat : (Value.slice A1 m c1).ownBlock = u ∨ (Value.slice A1 m c1).ownBlock = some W.heap.size) :
    ∃ S', RfA (w1.setCell ⟨g, 0, none⟩ (.slice A1 m c1)) S' g n l2 ∧ Turn S S' w (w1.setCell ⟨g, 0, none⟩ (.slice A1 m c1)) ∧ ∀ k, S' k → k = g ∨ (Value.slice A1 m c1).ownBlock = some k := by
  subst hm
  have hg2 := obj_grown hg hgrow hgu
  have hne := hr.ne_ hg2 (by decide)
  refine ⟨fun k => k = g ∨ (Value.slice A1 l2.length c1).ownBlock = some k, ⟨_, by simpa using obj_set hg2 0 (.slice A1 l2.length c1), hr.keep fun k hk => Below.heap_setCell _ _ _ _ (fun e => hne (by rw [hk, e])), fun k => Iff.rfl⟩, ?_, fun _ h => h⟩
  have ht : Turn S S w w1 := hT.grown hgrow hu
  refine ((ht.re (S'' := fun k => k = g ∨ (Value.slice A1 l2.length c1).ownBlock = some k) ?_ ?_).set_ (.inl ((hS g).2 (.inl rfl))) _)
  · rintro k (rfl | hk)
    · exact .inl ((hS k).2 (.inl rfl))
    · rcases hat with e | e
      · exact hu k (e.symm.trans hk)
      · rw [e] at hk; have := hT.size; exact .inr (by simp at hk; omega)
  · rintro k (rfl | hk)
    · exact obj_lt hg2
    · exact hr.lt hk
theorem RfA.alloc {w : World} {S : Nat → Prop} {g n : Nat} {l : List Nt} (h : RfA w S g n l) (o : Obj) : RfA (w.alloc o) S g n l := h.keep fun k hk => Below.heap_alloc w o k (h.lt k hk)
set_option maxRecDepth 100000 in
set_option maxHeartbeats 1000000 in
theorem rtake_no (S : Nat → Prop) (g n : Nat) (l : List Nt) (a : Int) (w : World) (h : RfA w S g n l) (ha : isB l a = false) :
    Calls Try.prog 29 #[.pointer (some ⟨g, 0, none⟩), .int .i64 a] w fun e w' => e = .returned (.tuple #[noteV nt0, .int .i64 2]) ∧ RfA w' S g n l ∧ Turn S S w w' := by
  have HF := Lib.hid h
  obtain ⟨v, hg, hr, hS⟩ := h
  obtain ⟨A, c, rfl, _, _⟩ := hr.form
  have q0 : w.cell? ⟨g, 0, none⟩ = some (.slice A l.length c) := cell_row hg 0
  have hgl := obj_lt hg
  clear hg hr hS
  have hld := load_note _ w.heap.size nt0 (World.alloc_heap_new w (.cells #[.int .u32 (0 : Int), .int .i64 0, .string ⟨#[]⟩] 35))
  have HLD := Lib.hid hld
  clear hld
  rcases isB_no.1 ha with h1 | h1
  · go_enter Try.func29, Try.ntmps29
    go_wp2
    refine bodyPost_ret (v := .tuple #[noteV nt0, .int .i64 2]) ?_ rfl ⟨rfl, HF.out.alloc _, (Turn.refl HF.out.lt).alloc _⟩
    rw [results_cell_tmp rfl]
    simp [asAddr, Result.andThen, HLD.out]
  · have h0 : 0 ≤ a := by omega
    go_enter Try.func29, Try.ntmps29
    go_wp2
    refine bodyPost_ret (v := .tuple #[noteV nt0, .int .i64 2]) ?_ rfl ⟨rfl, HF.out.alloc _, (Turn.refl HF.out.lt).alloc _⟩
    rw [results_cell_tmp rfl]
    simp [asAddr, Result.andThen, HLD.out]
set_option maxRecDepth 100000 in
set_option maxHeartbeats 2000000 in
theorem rtake_yes (S : Nat → Prop) (g n : Nat) (l : List Nt) (k : Nat) (w : World) (h : RfA w S g n l) (hk : k < l.length) (hl : l.length ≤ 1000) :
    Calls Try.prog 29 #[.pointer (some ⟨g, 0, none⟩), .int .i64 (k : Int)] w fun e w' => e = .returned (.tuple #[noteV l[k], .int .i64 0]) ∧ ∃ S', RfA w' S' g n (l.eraseIdx k) ∧ Turn S S' w w' := by
  have HF := Lib.hid h
  have HT := Lib.hid (Turn.refl h.lt)
  obtain ⟨v, hg, hr, hS⟩ := h
  obtain ⟨gb, c, rfl, hc1, hc2, hgb, hcs, hfs⟩ := hr.some_ (by omega)
  have q0 : w.cell? ⟨g, 0, none⟩ = some (.slice (some ⟨gb, 0, none⟩) l.length c) := cell_row hg 0
  have hx0 : w.cell? ⟨gb, k * 3, none⟩ = some (.int .u32 (l[k].id : Int)) := hcs _ _ (by rw [← Nat.add_zero (k * 3), cellsNs_at l k 0 hk (by omega)]; rfl)
  have hx1 : w.cell? ⟨gb, k * 3 + 1, none⟩ = some (.int .i64 l[k].to) := hcs _ _ (by rw [cellsNs_at l k 1 hk (by omega)]; rfl)
  have hx2 : w.cell? ⟨gb, k * 3 + 2, none⟩ = some (.string l[k].s) := hcs _ _ (by rw [cellsNs_at l k 2 hk (by omega)]; rfl)
  have hgl := obj_lt hg
  have HG := Lib.hid hg
  have HR := Lib.hid hr
  have HS := Lib.hid hS
  clear hcs hfs hg hr hS
  generalize hX : l[k] = x at *
  clear hX
  obtain ⟨i0, hi0, hz0, hz1, hz2⟩ := info_parts note_info
  have hs1 : ∀ w' : World, _ := fun w' => slice_h (P := Try.prog) Try.underlying29 hi0 (some ⟨gb, 0, none⟩) l.length c k (by omega) w'
  have hs2 : ∀ w' : World, _ := fun w' => slice_l (P := Try.prog) Try.underlying29 hi0 (some ⟨gb, 0, none⟩) l.length c (k + 1) (by omega) ((k : Int) + 1) (by omega) w'
  have HS1 := Lib.hid (fun (w' : World) (h : Row w' 35 3 (.slice (some ⟨gb, 0, none⟩) l.length c) l.length (cellsNs l)) => Src.ofSlice (P := Try.prog) (size := 3) w' Try.underlying29 ⟨gb, 0, none⟩ k c (cellsNs (l.take k)) (by rw [cellsNs_length, List.length_take]; omega) (by rw [← cellsNs_take]; exact (h.cutc (k := k) (by omega)).cells _ ⟨c, rfl⟩) (cellsNs_one' _))
  have HS2 := Lib.hid (fun (w' : World) (h : Row w' 35 3 (.slice (some ⟨gb, 0, none⟩) l.length c) l.length (cellsNs l)) => Row.src_from (P := Try.prog) Try.underlying29 h (k := k + 1) (by omega) (cellsNs_one' l))
  rw [hz1] at hs2
  simp only [cellsNs_drop] at HS2
  generalize (if c = k + 1 then some (⟨gb, 0, none⟩ : Addr) else (some (⟨gb, 0, none⟩ : Addr)).map (·.add ((k + 1) * 3))) = A2 at *
  have hwk : IntKind.i64.wrap ((k : Int) + 1) = (k : Int) + 1 := IntWalk.i64_in _ ⟨by omega, by unfold maxLen at hc2; omega⟩
  have HB1 := Lib.hid (show 0 + k ≤ maxLen by unfold maxLen; omega)
  have HB2 := Lib.hid (show (0 + k) * 32 ≤ 140737488355328 by omega)
  have HB3 := Lib.hid (show k + (l.length - (k + 1)) ≤ maxLen by unfold maxLen; omega)
  have HB4 := Lib.hid (show (k + (l.length - (k + 1))) * 32 ≤ 140737488355328 by omega)
  have HNE := Lib.hid (HR.out.ne_ HG.out (by decide))
  have HK := Lib.hid hk
  have HGL := Lib.hid hgl
  have HGB := Lib.hid hgb
  have HEL := Lib.hid (show k + (l.length - (k + 1)) = (l.eraseIdx k).length by rw [List.length_eraseIdx, if_pos hk]; omega)
  have HEC := Lib.hid (show cellsNs (l.take k) ++ cellsNs (l.drop (k + 1)) = cellsNs (l.eraseIdx k) by rw [← cellsNs_append, List.eraseIdx_eq_take_drop_succ])
  have hd0 : decide ((k : Int) < 0) = false := by simp
  have hd1 : decide ((k : Int) ≥ (l.length : Int)) = false := by simp; omega
  clear hc1 hc2
  go_enter Try.func29, Try.ntmps29
  go_wp2_with (at_builtin; generalize hG : wpList _ _ _ _ _ _ = G)
  subst hG
  refine wpList_append_row _ rfl (.tmp 27) (.tmp 33) _ _ rfl 35 i0 _ 3 32 Try.underlying29 hi0 hz0 hz1 hz2 rfl (.slice none 0 0) 0 [] rfl (Row.nil _ _ _) _ k _ rfl (HS1.out _ ((HR.out.alloc _).alloc _)) HB1.out HB2.out ?_
  intro A1 c1 w1 hr1 hg1 hat1
  rw [Nat.zero_add] at hr1 hat1
  have hG1 := Lib.hid (obj_grown (obj_alloc (obj_alloc HG.out _) _) hg1 (fun e => by cases e))
  have hR1 := Lib.hid (Row.keep ((HR.out.alloc _).alloc _) fun j hj => hg1.block j (((HR.out.alloc _).alloc _).lt hj) (fun e => by cases e))
  have p0 := cell_row hG1.out 0
  have T1 := Lib.hid (((HT.out.alloc _).alloc _).grown hg1 (fun k e => by cases e))
  have hsz : ((w.alloc (.cells #[.int .u32 (0 : Int), .int .i64 0, .string ⟨#[]⟩] 35)).alloc (.cells #[.int .u32 (x.id : Int), .int .i64 x.to, .string x.s] 35)).heap.size = w.heap.size + 2 := by simp
  have hB0 := Lib.hid (obj_grown (obj_alloc (World.alloc_heap_new w (.cells #[.int .u32 (0 : Int), .int .i64 0, .string ⟨#[]⟩] 35)) _) hg1 (fun e => by cases e))
  have hB1 := Lib.hid (obj_grown (new2 w (.cells #[.int .u32 (0 : Int), .int .i64 0, .string ⟨#[]⟩] 35) (.cells #[.int .u32 (x.id : Int), .int .i64 x.to, .string x.s] 35)) hg1 (fun e => by cases e))
  have HO := Lib.hid (show ∀ j, (Value.slice A1 k c1).ownBlock = some j → w.heap.size + 2 ≤ j from fun j hj => by
    rcases hat1 with e | e
    · rw [e] at hj; cases hj
    · rw [e, hsz] at hj; injection hj with hj; omega)
  have HR1 := Lib.hid hr1
  have hz1 := hg1.size
  rw [hsz] at hz1
  have HZ1 := Lib.hid hz1
  clear q0 hx0 hx1 hx2 hat1 hr1 hg1 hsz hs1
  go_wp2_with (at_builtin; generalize hG : wpList _ _ _ _ _ _ = G)
  subst hG
  refine wpList_append_row _ rfl (.tmp 36) (.tmp 43) _ _ rfl 35 i0 _ 3 32 Try.underlying29 hi0 hz0 (by assumption) hz2 rfl (.slice A1 k c1) k _ rfl HR1.out _ (l.length - (k + 1)) _ rfl (HS2.out _ hR1.out) HB3.out HB4.out ?_
  intro A3 c3 w2 hr2 hg2 hat2
  have hgo := Lib.hid (show (Value.slice A1 k c1).ownBlock ≠ some g from fun e => by have := HO.out g e; have := HGL.out; omega)
  have hG2 := Lib.hid (obj_grown hG1.out hg2 hgo.out)
  have hC0 := Lib.hid (obj_grown hB0.out hg2 (fun e => by have := HO.out _ e; omega))
  have hC1 := Lib.hid (obj_grown hB1.out hg2 (fun e => by have := HO.out _ e; omega))
  have HE := Lib.hid (rf_end2 hG1.out HS.out T1.out (l2 := l.eraseIdx k) (by rw [← HEC.out]; exact hr2) HEL.out hg2 hgo.out (fun j hj => .inr (by have := HO.out j hj; omega)) hat2)
  have HO3 := Lib.hid (show ∀ j, (Value.slice A3 (k + (l.length - (k + 1))) c3).ownBlock = some j → w.heap.size + 2 ≤ j from fun j hj => by
    rcases hat2 with e | e
    · rw [e] at hj; exact HO.out j hj
    · rw [e] at hj; injection hj with hj; have := HZ1.out; omega)
  have p0 := cell_row hG2.out 0
  have pf := obj_frozen hG2.out 0
  obtain ⟨d0, d1, d2, f0, f1, f2, z0⟩ := cells3F hC0.out
  obtain ⟨e0, e1, e2, _, _, _, z1⟩ := cells3F hC1.out
  clear hr2 hg2 hat2 hs2
  have n1 : ¬ w.heap.size = g := by omega
  have n2 : ¬ w.heap.size + 1 = g := by omega
  go_wp2
  obtain ⟨S', e1, e2, e3⟩ := HE.out
  have hC3 := obj_far (p := ⟨g, 0, none⟩) hC0.out n1 (.slice A3 (k + (l.length - (k + 1))) c3)
  generalize w2.setCell ⟨g, 0, none⟩ (.slice A3 (k + (l.length - (k + 1))) c3) = w3 at *
  have hld := load_note (((w3.setCell ⟨w.heap.size, 0, none⟩ (.int .u32 (x.id : Int))).setCell ⟨w.heap.size, 1, none⟩ (.int .i64 x.to)).setCell ⟨w.heap.size, 2, none⟩ (.string x.s)) w.heap.size x (by
    have := obj_set (obj_set (obj_set hC3 0 (.int .u32 (x.id : Int))) 1 (.int .i64 x.to)) 2 (.string x.s)
    simpa using this)
  refine bodyPost_ret (v := .tuple #[noteV x, .int .i64 0]) ?_ rfl ⟨rfl, S', ?_, ?_⟩
  · rw [results_cell_tmp rfl]
    simp [asAddr, Result.andThen, hld]
  · refine e1.keep fun j hj => ?_
    have hjn : j ≠ w.heap.size := by
      rcases e3 j hj with rfl | h
      · exact fun e => n1 e.symm
      · have := HO3.out j h; omega
    rw [Below.heap_setCell _ _ _ _ (by simpa using hjn), Below.heap_setCell _ _ _ _ (by simpa using hjn), Below.heap_setCell _ _ _ _ (by simpa using hjn)]
  · exact ((e2.set_ (p := ⟨w.heap.size, 0, none⟩) (.inr (Nat.le_refl _)) _).set_ (p := ⟨w.heap.size, 1, none⟩) (.inr (Nat.le_refl _)) _).set_ (p := ⟨w.heap.size, 2, none⟩) (.inr (Nat.le_refl _)) _
theorem rtake_any (S : Nat → Prop) (g n : Nat) (l : List Nt) (a : Int) (w : World) (h : RfA w S g n l) (hl : l.length ≤ 1000) :
    Calls Try.prog 29 #[.pointer (some ⟨g, 0, none⟩), .int .i64 a] w fun e w' => e = .returned (.tuple #[noteV (mtake ⟨n, l⟩ a).1.1, .int .i64 (mtake ⟨n, l⟩ a).1.2]) ∧
      ∃ S', RfA w' S' g (mtake ⟨n, l⟩ a).2.n (mtake ⟨n, l⟩ a).2.l ∧ Turn S S' w w' := by
  unfold mtake
  dsimp only
  cases ha : isB l a
  · refine (rtake_no S g n l a w h ha).mono ?_
    rintro e w' ⟨rfl, h1, h2⟩
    exact ⟨by simp, S, by simpa using h1, h2⟩
  · obtain ⟨h0, h1⟩ := isB_iff.1 ha
    obtain ⟨k, rfl⟩ := Int.eq_ofNat_of_zero_le h0
    have hk : k < l.length := by omega
    refine (rtake_yes S g n l k w h hk hl).mono ?_
    rintro e w' ⟨rfl, S', h1, h2⟩
    refine ⟨?_, S', by simpa using h1, h2⟩
    simp [hk]
end Go.Proofs.Ytlfbmicpaacbnaa
