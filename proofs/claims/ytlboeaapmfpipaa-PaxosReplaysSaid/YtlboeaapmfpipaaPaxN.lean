/-
  A node lets instances be gone. Conditions: instances are as the program's types allow.
-/
import Derived.Test.YtlboeaapmfpipaaPaxI
import Derived.Deep.QuietTactic
import Derived.BigQuiet
namespace Ros
open Go Go.RowKit Go.Maps Go.ChangeMaps
/-- No vote behind a, up to b. -/
def dropI (f : Int → Option Vt) (a b : Int) : Int → Option Vt := fun j => if a < j ∧ j ≤ b then none else f j
theorem dropI_none (f : Int → Option Vt) (a : Int) : dropI f a a = f := by
  funext j; unfold dropI; rw [if_neg (by omega)]
theorem dropI_succ (f : Int → Option Vt) (a b c : Int) (hc : c = b + 1) (h : a ≤ b) : (fun j => if j = c then none else dropI f a b j) = dropI f a c := by
  funext j; unfold dropI
  by_cases e : j = c
  · rw [if_pos e, if_pos (by omega)]
  · rw [if_neg e]
    by_cases e2 : a < j ∧ j ≤ b
    · rw [if_pos e2, if_pos (by omega)]
    · rw [if_neg e2, if_neg (by omega)]
def ncompact (s : Nd) (i : Int) : Int × Nd :=
  if 0 ≤ i ∧ i ≤ (s.len : Int) then (if i < (s.gone : Int) then (90, s) else (0, { s with votes := dropI s.votes s.gone i, gone := i.toNat })) else (2, s)
theorem ncompact_bad {s : Nd} {i : Int} (h : ¬ (0 ≤ i ∧ i ≤ (s.len : Int))) : ncompact s i = (2, s) := if_neg h
theorem ncompact_gone {s : Nd} {i : Int} (h : 0 ≤ i ∧ i ≤ (s.len : Int)) (h2 : i < (s.gone : Int)) : ncompact s i = (90, s) := by unfold ncompact; rw [if_pos h, if_pos h2]
theorem ncompact_yes {s : Nd} {i : Int} (h : 0 ≤ i ∧ i ≤ (s.len : Int)) (h2 : ¬ i < (s.gone : Int)) : ncompact s i = (0, { s with votes := dropI s.votes s.gone i, gone := i.toNat }) := by unfold ncompact; rw [if_pos h, if_neg h2]
theorem Turn.drewN {S S' : Nat → Prop} {w w' : World} (h : Turn S S' w w') (n : Nat) : Turn S S' w (w'.drewN n) := ⟨h.os, h.tape, h.output, h.size, h.block, h.foot, h.lt⟩
end Ros
namespace Go.Proofs.Ytlboeaapmfpipaa
open Go.RowKit Go.Shelf Ros
attribute [local go_sem] Oper.semAt_some
theorem NdA.drewN {w : World} {S : Nat → Prop} {g c : Nat} {s : Nd} (h : NdA w S g s c) (n : Nat) : NdA (w.drewN n) S g s c := h.keep fun _ _ => rfl
theorem NdA.cells {w : World} {S : Nat → Prop} {g c : Nat} {s : Nd} (h : NdA w S g s c) : w.cell? ⟨g, 2, none⟩ = some (.int .i64 (s.len : Int)) ∧ w.cell? ⟨g, 3, none⟩ = some (.int .i64 (s.gone : Int)) ∧ w.frozen? ⟨g, 3, none⟩ = false ∧ S g := by
  obtain ⟨bv, bk, nv, nk, hg, _, _, _, _, _, hS⟩ := h
  exact ⟨cell_row hg 2, cell_row hg 3, obj_frozen hg 3, (hS g).2 (.inl rfl)⟩
theorem NdA.setGone {w : World} {S : Nat → Prop} {g c : Nat} {s : Nd} (h : NdA w S g s c) (m : Int) (hm : 0 ≤ m) : NdA (w.setCell ⟨g, 3, none⟩ (.int .i64 m)) S g { s with gone := m.toNat } c := by
  obtain ⟨bv, bk, nv, nk, hg, hv, hk, h1, h2, h3, hS⟩ := h
  refine ⟨bv, bk, nv, nk, ?_, hv.far h3.1.symm _, hk.far h3.2.1.symm _, h1, h2, h3, hS⟩
  have := obj_set hg 3 (.int .i64 m)
  rw [show ((m.toNat : Nat) : Int) = m by omega]
  exact this
theorem NdA.drop {w : World} {S : Nat → Prop} {g c : Nat} {s : Nd} (h : NdA w S g s c) {i : Int} (hi : -9223372036854775808 ≤ i ∧ i ≤ 9223372036854775807) (ty : TypeId) :
    ∃ bv w', w.cell? ⟨g, 0, none⟩ = some (.map (some bv)) ∧ (Builtin.delete_ #[54, 3] ty #[.map (some bv), .int .i64 i]).run Try.prog w = .ok (.tuple #[]) w' ∧ NdA w' S g { s with votes := fun j => if j = i then none else s.votes j } c ∧ w.grownBy w' (some bv) ∧ S bv := by
  obtain ⟨bv, bk, nv, nk, hg, hv, hk, hn1, hn2, hne, hS⟩ := h
  obtain ⟨kl, hkey⟩ := int_key hi
  obtain ⟨w2, hrun, hM, hgr⟩ := hv.drop_ (Maps.int_keyed Try.underlying3) ekI_inj Try.underlying54 hkey ty
  refine ⟨bv, w2, cell_row hg 0, hrun, ⟨bv, bk, _, nk, ?_, hM.congr (fun x => ?_) rfl, ?_, ?_, hn2, hne, hS⟩, hgr, (hS bv).2 (.inr (.inl rfl))⟩
  · exact (hgr.block g (obj_lt hg) (fun e => hne.1 (by cases e; rfl))).trans hg
  · show (if x = i then none else (s.votes x).map encVt) = (if x = i then none else s.votes x).map encVt
    split <;> rfl
  · exact hk.grown hgr (fun e => by cases e; exact hne.2.2 rfl)
  · split <;> omega
/-- What the rounds of letting be gone abide, and how they end. -/
def CpB (w : World) (g Bs : Nat) (s : Nd) (i : Int) (W : World) : Prop :=
  W.heap[w.heap.size]? = some (.cells #[.pointer (some ⟨g, 0, none⟩)] 24 (0, 0)) ∧ W.heap[w.heap.size + 1]? = some (.cells #[.int .i64 i] 3 (0, 0)) ∧ W.heap[Bs]? = some (.cells #[.int .i64 (s.gone : Int)] 3 (0, 0))
def CpI (w : World) (S : Nat → Prop) (g c Bs : Nat) (s : Nd) (i : Int) (m : Nat) (W : World) : Prop :=
  ((s.gone + m : Nat) : Int) ≤ i ∧ CpB w g Bs s i W ∧ NdA W S g { s with votes := dropI s.votes s.gone ((s.gone + m : Nat) : Int) } c ∧ Turn S S w W
theorem CpI.drewN {w W : World} {S : Nat → Prop} {g c Bs : Nat} {s : Nd} {i : Int} {m : Nat} (h : CpI w S g c Bs s i m W) (n : Nat) : CpI w S g c Bs s i m (W.drewN n) := ⟨h.1, h.2.1, h.2.2.1.drewN n, h.2.2.2.drewN n⟩
theorem own_cpI {β : Type} {B : Nat} {w : World} {S : Nat → Prop} {g c Bs : Nat} {s : Nd} {i : Int} (m : β → Nat) (hS : ∀ k, S k → k < B) (hw : w.heap.size ≤ B) : OwnFrom B (fun x W => CpI w S g c Bs s i (m x) W) := by
  rintro x W W' row ⟨h1, ⟨h2, h3, h4⟩, h5, h6⟩ hg hr
  exact ⟨h1, ⟨own_cells B _ (fun _ : Unit => _) _ _ () W W' row h2 hg hr, own_cells B _ (fun _ : Unit => _) _ _ () W W' row h3 hg hr, own_cells B _ (fun _ : Unit => _) _ _ () W W' row h4 hg hr⟩, own_nda (fun _ : Unit => _) hS () W W' row h5 hg hr, own_turn (β := Unit) hw () W W' row h6 hg hr⟩
set_option maxRecDepth 100000 in
set_option maxHeartbeats 4000000 in
theorem compactN_bad (i : Int) (w : World) (S : Nat → Prop) (g c : Nat) (s : Nd) (h : NdA w S g s c) (hb : ¬ (0 ≤ i ∧ i ≤ (s.len : Int))) :
    Calls Try.prog 15 #[.pointer (some ⟨g, 0, none⟩), .int .i64 i] w fun e w' => e = .returned (.int .i64 2) ∧ Below w.heap.size w w' := by
  have b0 := (Below.refl _ w).alloc (Nat.le_refl _) (.cells #[.pointer (some ⟨g, 0, none⟩)] 24)
  have b1 := b0.alloc b0.size (.cells #[.int .i64 i] 3)
  obtain ⟨c2, _, _, _⟩ := (h.below b1).cells
  have B1 := Lib.hid b1
  clear b0 b1 h
  by_cases h1 : i < 0
  · have hd : decide (i < 0) = true := by simp [h1]
    refine calls_marksP Try.func15 rfl ?_
    simp only [Try.ntmps15, List.size_toArray, List.length_cons, List.length_nil, Nat.reduceAdd, Nat.reduceSub, Array.replicate_succ, Array.replicate_zero, List.push_toArray, List.append_toArray, List.nil_append, List.cons_append]
    go_wp2
    refine wp_scope_straight ?_
    go_wp2
    go_quiet (fail)
    go_wp2
    rw [Exit.noGoto_ret]
    exact leaves_plain1 rfl ⟨rfl, below_dN B1.out _⟩
  · have h2 : (s.len : Int) < i := by omega
    have hd : decide (i < 0) = false := by simp; omega
    refine calls_marksP Try.func15 rfl ?_
    simp only [Try.ntmps15, List.size_toArray, List.length_cons, List.length_nil, Nat.reduceAdd, Nat.reduceSub, Array.replicate_succ, Array.replicate_zero, List.push_toArray, List.append_toArray, List.nil_append, List.cons_append]
    go_wp2
    refine wp_scope_straight ?_
    go_wp2
    go_quiet (fail)
    go_wp2
    rw [Exit.noGoto_ret]
    exact leaves_plain1 rfl ⟨rfl, below_dN B1.out _⟩
set_option maxRecDepth 100000 in
set_option maxHeartbeats 4000000 in
theorem compactN_gone (i : Int) (w : World) (S : Nat → Prop) (g c : Nat) (s : Nd) (h : NdA w S g s c) (h1 : 0 ≤ i) (h2 : i ≤ (s.len : Int)) (h3 : i < (s.gone : Int)) :
    Calls Try.prog 15 #[.pointer (some ⟨g, 0, none⟩), .int .i64 i] w fun e w' => e = .returned (.int .i64 90) ∧ Below w.heap.size w w' := by
  have b0 := (Below.refl _ w).alloc (Nat.le_refl _) (.cells #[.pointer (some ⟨g, 0, none⟩)] 24)
  have b1 := b0.alloc b0.size (.cells #[.int .i64 i] 3)
  obtain ⟨c2, c3, _, _⟩ := (h.below b1).cells
  have B1 := Lib.hid b1
  clear b0 b1 h
  have hd : decide (i < 0) = false := by simp; omega
  refine calls_marksP Try.func15 rfl ?_
  simp only [Try.ntmps15, List.size_toArray, List.length_cons, List.length_nil, Nat.reduceAdd, Nat.reduceSub, Array.replicate_succ, Array.replicate_zero, List.push_toArray, List.append_toArray, List.nil_append, List.cons_append]
  go_wp2
  refine wp_scope_straight ?_
  go_wp2
  go_quiet (fail)
  go_wp2
  go_quiet (fail)
  go_wp2
  rw [Exit.noGoto_ret]
  exact leaves_plain1 rfl ⟨rfl, below_dN (below_dN B1.out _) _⟩
set_option maxRecDepth 100000 in
set_option maxHeartbeats 4000000 in
theorem compactN_yes (i : Int) (w : World) (S : Nat → Prop) (g c : Nat) (s : Nd) (h : NdA w S g s c) (h1 : 0 ≤ i) (h2 : i ≤ (s.len : Int)) (h3 : ¬ i < (s.gone : Int)) (hlen : s.len ≤ 10000) :
    Calls Try.prog 15 #[.pointer (some ⟨g, 0, none⟩), .int .i64 i] w fun e w' => e = .returned (.int .i64 0) ∧ NdA w' S g { s with votes := dropI s.votes s.gone i, gone := i.toNat } c ∧ Turn S S w w' := by
  have hS := h.lt
  have b0 := (Below.refl _ w).alloc (Nat.le_refl _) (.cells #[.pointer (some ⟨g, 0, none⟩)] 24)
  have b1 := b0.alloc b0.size (.cells #[.int .i64 i] 3)
  obtain ⟨c2, c3, _, hSg⟩ := (h.below b1).cells
  have hgw := hS g hSg
  have b2 := b1.alloc b1.size (.cells #[.int .i64 (s.gone : Int)] 3)
  have H0 := Lib.hid (show CpI w S g c (w.heap.size + 2) s i 0 (((w.alloc (.cells #[.pointer (some ⟨g, 0, none⟩)] 24)).alloc (.cells #[.int .i64 i] 3)).alloc (.cells #[.int .i64 (s.gone : Int)] 3)) from by
    refine ⟨by omega, ⟨obj_alloc (obj_alloc (World.alloc_heap_new w _) _) _, obj_alloc (by have := World.alloc_heap_new (w.alloc (.cells #[.pointer (some ⟨g, 0, none⟩)] 24)) (.cells #[.int .i64 i] 3); rwa [World.size_alloc] at this) _, by have := World.alloc_heap_new ((w.alloc (.cells #[.pointer (some ⟨g, 0, none⟩)] 24)).alloc (.cells #[.int .i64 i] 3)) (.cells #[.int .i64 (s.gone : Int)] 3); rwa [World.size_alloc, World.size_alloc] at this⟩, ?_, Turn.of_below b2 hS⟩
    rw [Nat.add_zero, dropI_none]
    exact h.below b2)
  have hz3 : (((w.alloc (.cells #[.pointer (some ⟨g, 0, none⟩)] 24)).alloc (.cells #[.int .i64 i] 3)).alloc (.cells #[.int .i64 (s.gone : Int)] 3)).heap.size = w.heap.size + 3 := by simp
  clear b0 b1 b2 h
  have hd : decide (i < 0) = false := by simp; omega
  refine calls_marksP Try.func15 rfl ?_
  simp only [Try.ntmps15, List.size_toArray, List.length_cons, List.length_nil, Nat.reduceAdd, Nat.reduceSub, Array.replicate_succ, Array.replicate_zero, List.push_toArray, List.append_toArray, List.nil_append, List.cons_append]
  go_wp2
  refine wp_scope_straight ?_
  go_wp2
  go_quiet (fail)
  go_wp2
  go_quiet (fail)
  go_wp2
  refine wp_label ?_
  go_wp2_with (go_at_call 29; refine (behind_any _ _).mono ?_; rintro e w3 ⟨rfl, rfl⟩)
  refine range_lawP (gf := 34) (lb := #[.pointer (some ⟨w.heap.size + 2, 0, none⟩)]) rfl (enters_of Try.func34 (by kernel_rfl) rfl) (behind1_iter (w.heap.size + 2) s.gone (by omega)) (fun _ => rfl)
    (fun pre W => CpI w S g c (w.heap.size + 2) s i pre.length W) (fun co _ W => co = .exit 0 ∧ CpI w S g c (w.heap.size + 2) s i (i.toNat - s.gone) W) (own_cpI _ ?hS ?hw) ?hx (fun _ _ h => cell_row h.2.1.2.2 0) ?h0 ?hround ?hdone ?hstop
  case hS => exact fun k hk => by have := hS k hk; exact Nat.lt_of_lt_of_le this (by show w.heap.size ≤ (((w.alloc _).alloc _).alloc _).heap.size; simp; omega)
  case hw => show w.heap.size ≤ (((w.alloc _).alloc _).alloc _).heap.size; simp; omega
  case h0 => exact CpI.drewN H0.out _
  case hx =>
    rintro co pre W W' row ⟨e1, e2⟩ hg hr
    exact ⟨e1, own_cpI (fun _ : Unit => i.toNat - s.gone) (fun k hk => by have := hS k hk; exact Nat.lt_of_lt_of_le this (by show w.heap.size ≤ (((w.alloc _).alloc _).alloc _).heap.size; simp; omega)) (by show w.heap.size ≤ (((w.alloc _).alloc _).alloc _).heap.size; simp; omega) () W W' row e2 hg hr⟩
  case hround =>
    rintro L pre x post W hxs hlL hlW hI
    obtain ⟨rfl, hle⟩ := instL_mid hxs
    clear hxs
    unfold encI
    obtain ⟨q, hqd⟩ : ∃ q, q = s.gone + 1 + pre.length := ⟨_, rfl⟩
    rw [← hqd] at hle ⊢
    have HQ := Lib.hid hqd
    clear hqd
    gi_wp2
    refine ⟨KeepsFrom.refl _ _, hI, ?_⟩
    clear hI
    rintro W2 hg hsz hI
    have hI2 := hI
    obtain ⟨hpi, ⟨hb, hbi, hbg⟩, hN, hT⟩ := hI
    have q0 := cell_row hb 0
    have q1 := cell_row hbi 0
    simp only [List.getElem?_toArray, List.getElem?_cons_zero] at q0 q1
    have HSZ := Lib.hid hsz
    clear hsz
    by_cases hgt : i < (q : Int)
    · have hm : pre.length = i.toNat - s.gone := by have := HQ.out; omega
      have HI := Lib.hid hI2
      clear hI2 hT hN hbg hbi hb hpi
      gi_wp2
      refine ⟨KeepsFrom.refl _ _, rfl, ?_⟩
      rw [← hm]
      exact HI.out
    · obtain ⟨bv, w4, d1, hrun, hN4, hgr, hSb⟩ := hN.drop (i := (q : Int)) (by omega) 0
      have hbv := hS bv hSb
      have HF := Lib.hid (show CpI w S g c (w.heap.size + 2) s i (pre ++ [q]).length w4 from by
        rw [List.length_append, List.length_singleton]
        have hq2 := HQ.out
        refine ⟨by omega, ⟨obj_grown hb hgr (by simp; omega), obj_grown hbi hgr (by simp; omega), obj_grown hbg hgr (by simp; omega)⟩, ?_, hT.grown hgr (fun k e => by cases e; exact .inl hSb)⟩
        rw [← dropI_succ s.votes s.gone ((s.gone + pre.length : Nat) : Int) ((s.gone + (pre.length + 1) : Nat) : Int) (by omega) (by omega)]
        rw [show ((s.gone + (pre.length + 1) : Nat) : Int) = (q : Int) by omega]
        exact hN4)
      have HK := Lib.hid (fun B (hB : bv < B) => KeepsFrom.of_grownBy (B := B) hgr (fun j e => by cases e; exact hB))
      clear hI2 hT hN hbg hbi hb hN4 hgr
      gi_wp2
      refine ⟨HK.out _ ?_, HF.out⟩
      first | omega | exact Nat.lt_of_lt_of_le hbv (by show w.heap.size ≤ (((w.alloc _).alloc _).alloc _).heap.size; simp; omega)
  case hdone =>
    rintro D W hD ⟨hpi, ⟨hb, hbi, hbg⟩, hN, hT⟩ hK
    rw [instL_len] at hpi hN
    have hie : ((s.gone + (10000 - s.gone) : Nat) : Int) = i := by omega
    rw [hie] at hN
    have q0 := cell_row hb 0
    have q1 := cell_row hbi 0
    simp only [List.getElem?_toArray, List.getElem?_cons_zero] at q0 q1
    have hfz := hN.cells.2.2.1
    have hc3 := hN.cells.2.1
    have HN := Lib.hid (hN.setGone i h1)
    have HT := Lib.hid (hT.set_ (p := ⟨g, 3, none⟩) (.inl hSg) (.int .i64 i))
    have HK := Lib.hid ((Below.heap_setCell W ⟨g, 3, none⟩ (.int .i64 i) D (show D ≠ g from fun e => by have hDD : w.heap.size ≤ D := Nat.le_trans (by show w.heap.size ≤ (((w.alloc _).alloc _).alloc _).heap.size; simp; omega) hD; omega)).trans hK)
    have HD := Lib.hid (show w.heap.size ≤ D from Nat.le_trans (by show w.heap.size ≤ (((w.alloc _).alloc _).alloc _).heap.size; simp; omega) hD)
    clear hN hT hK hbg hbi hb hpi hie c2 c3
    go_wp2
    try rw [Exit.noGoto_ret]
    refine leaves_mark1 rfl HK.out ?_
    exact ⟨rfl, HN.out.put (fun e => by have := hS D e; have := HD.out; omega), turn_put HT.out HD.out⟩
  case hstop =>
    rintro D co pre W hD hp ⟨rfl, hpi, ⟨hb, hbi, hbg⟩, hN, hT⟩ hK
    have hie : ((s.gone + (i.toNat - s.gone) : Nat) : Int) = i := by omega
    rw [hie] at hN
    have q0 := cell_row hb 0
    have q1 := cell_row hbi 0
    simp only [List.getElem?_toArray, List.getElem?_cons_zero] at q0 q1
    have hfz := hN.cells.2.2.1
    have hc3 := hN.cells.2.1
    have HN := Lib.hid (hN.setGone i h1)
    have HT := Lib.hid (hT.set_ (p := ⟨g, 3, none⟩) (.inl hSg) (.int .i64 i))
    have HK := Lib.hid ((Below.heap_setCell W ⟨g, 3, none⟩ (.int .i64 i) D (show D ≠ g from fun e => by have hDD : w.heap.size ≤ D := Nat.le_trans (by show w.heap.size ≤ (((w.alloc _).alloc _).alloc _).heap.size; simp; omega) hD; omega)).trans hK)
    have HD := Lib.hid (show w.heap.size ≤ D from Nat.le_trans (by show w.heap.size ≤ (((w.alloc _).alloc _).alloc _).heap.size; simp; omega) hD)
    clear hN hT hK hbg hbi hb hpi hie c2 c3
    go_wp2
    try rw [Exit.noGoto_ret]
    refine leaves_mark1 rfl HK.out ?_
    exact ⟨rfl, HN.out.put (fun e => by have := hS D e; have := HD.out; omega), turn_put HT.out HD.out⟩
theorem compactN_any (i : Int) (w : World) (S : Nat → Prop) (g c : Nat) (s : Nd) (h : NdA w S g s c) (hlen : s.len ≤ 10000) :
    Calls Try.prog 15 #[.pointer (some ⟨g, 0, none⟩), .int .i64 i] w fun e w' => e = .returned (.int .i64 (ncompact s i).1) ∧ NdA w' S g (ncompact s i).2 c ∧ Turn S S w w' := by
  by_cases hb : 0 ≤ i ∧ i ≤ (s.len : Int)
  · by_cases hg : i < (s.gone : Int)
    · rw [ncompact_gone hb hg]
      exact (compactN_gone i w S g c s h hb.1 hb.2 hg).mono fun e w1 ⟨e1, b⟩ => ⟨e1, h.below b, .of_below b h.lt⟩
    · rw [ncompact_yes hb hg]
      exact compactN_yes i w S g c s h hb.1 hb.2 hg hlen
  · rw [ncompact_bad hb]
    exact (compactN_bad i w S g c s h hb).mono fun e w1 ⟨e1, b⟩ => ⟨e1, h.below b, .of_below b h.lt⟩
end Go.Proofs.Ytlboeaapmfpipaa
