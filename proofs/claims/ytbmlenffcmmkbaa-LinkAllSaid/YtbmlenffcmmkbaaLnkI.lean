/-
  A link receives an acknowledgement. Conditions: numbers are as the program's types allow.
-/
import Derived.Test.YtbmlenffcmmkbaaLnkH
namespace Ros
open Go Go.RowKit
def lcut (s : Lk) (m : Nat) : Lk := { s with first := s.first + m, outs := s.outs.drop m }
theorem lcut_zero (s : Lk) : lcut s 0 = s := by cases s; rfl
theorem lcut_succ (s : Lk) (m : Nat) : lcut (lcut s m) 1 = lcut s (m + 1) := by
  unfold lcut
  dsimp only
  rw [List.drop_drop, Nat.add_assoc]
def lack (s : Lk) (life ack : Nat) : Lk := if life = s.life ∧ ack < s.next then lcut s (ack + 1 - s.first) else s
theorem outsV_cut (s : Lk) (y : Nat) : (if y = s.first then none else outsV s y) = outsV (lcut s 1) y := by
  unfold outsV lcut
  dsimp only
  by_cases h : y = s.first
  · rw [if_pos h, if_neg (by omega)]
  · rw [if_neg h]
    by_cases h1 : s.first ≤ y
    · rw [if_pos h1, if_pos (by omega), List.getElem?_drop, show 1 + (y - (s.first + 1)) = y - s.first by omega]
    · rw [if_neg h1, if_neg (by omega)]
theorem own_turnL {β : Type} {S : Nat → Prop} {w : World} {B : Nat} (hB : w.heap.size ≤ B) : OwnFrom B (fun (_ : β) W => Turn S S w W) := by
  intro _ W W' row h hg hr
  exact h.grown hg (fun k e => .inr (Nat.le_trans hB (hr k e).1))
theorem turnL_put {S S' : Nat → Prop} {w W : World} {D : Nat} {o : Obj} (h : Turn S S' w W) (hB : w.heap.size ≤ D) : Turn S S' w (W.putObj D o) := h.grown (grownBy_putObj' W D o) (fun k e => by cases e; exact .inr hB)
theorem turnL_drewN {S S' : Nat → Prop} {w w' : World} (h : Turn S S' w w') (n : Nat) : Turn S S' w (w'.drewN n) := ⟨h.os, h.tape, h.output, h.size, h.block, h.foot, h.lt⟩
end Ros
namespace Go.Proofs.Ytbmlenffcmmkbaa
open Go.RowKit Go.Shelf Ros Go.Maps
attribute [local go_sem] Oper.semAt_some
theorem LkA.dropOne {w : World} {S : Nat → Prop} {g : Nat} {s : Lk} (h : LkA w S g s) (hn : s.next < 4294967296) (hl : 0 < s.outs.length) (ty : TypeId) :
    ∃ b w', w.cell? ⟨g, 3, none⟩ = some (.map (some b)) ∧ (Builtin.delete_ #[53, 35] ty #[.map (some b), .int .u32 (s.first : Int)]).run Try.prog w = .ok (.tuple #[]) w' ∧
      w'.frozen? ⟨g, 1, none⟩ = false ∧ w'.cell? ⟨g, 1, none⟩ = some (.int .u32 (s.first : Int)) ∧ LkA (w'.setCell ⟨g, 1, none⟩ (.int .u32 ((s.first + 1 : Nat) : Int))) S g (lcut s 1) ∧ w.grownBy w' (some b) ∧ S b ∧ g ≠ b := by
  obtain ⟨b, hg, hm, hne, hS⟩ := h
  have hf : s.first < 4294967296 := by unfold Lk.next at hn; omega
  obtain ⟨kl, hkey⟩ := w32_key hf
  obtain ⟨w2, hrun, hM, hgr⟩ := hm.drop_ (Maps.int_keyed Try.underlying35) ekW_inj Try.underlying53 hkey ty
  have hg2 := obj_grown hg hgr (fun e => hne (by injection e with e; exact e.symm))
  refine ⟨b, w2, cell_row hg 3, hrun, obj_frozen hg2 1, cell_row hg2 1, ⟨b, ?_, (hM.far (p := ⟨g, 1, none⟩) (fun e => hne e.symm) _).congr (fun x => outsV_cut s x) ?_, hne, hS⟩, hgr, (hS b).2 (.inr rfl), hne⟩
  · rw [obj_set hg2 1 (.int .u32 ((s.first + 1 : Nat) : Int))]
    have e : s.first + s.outs.length = s.first + 1 + (s.outs.drop 1).length := by rw [List.length_drop]; omega
    show some (Obj.cells ((cellsLk s b).setIfInBounds 1 _) _ _) = some (Obj.cells (cellsLk (lcut s 1) b) _ _)
    unfold cellsLk lcut
    dsimp only
    rw [e]
    rfl
  · have hv : outsV s s.first = some (.agg #[.string s.outs[0]]) := by
      unfold outsV
      rw [if_pos (Nat.le_refl _), Nat.sub_self, List.getElem?_eq_getElem hl]
      rfl
    unfold lcut
    dsimp only
    rw [List.length_drop]
    simp [hv]
def AkB (w : World) (g : Nat) (ack : Nat) (W : World) : Prop :=
  W.heap[w.heap.size]? = some (.cells #[.pointer (some ⟨g, 0, none⟩)] 69 (0, 0)) ∧ W.heap[w.heap.size + 1]? = some (.cells #[.int .u32 (ack : Int)] 35 (0, 0)) ∧ W.heap[w.heap.size + 2]? = some (.cells #[.pointer (some ⟨g, 0, none⟩)] 69 (0, 0))
/-- What the rounds abide. -/
def AkI (w : World) (S : Nat → Prop) (g : Nat) (s : Lk) (ack : Nat) (m : Nat) (W : World) : Prop :=
  m ≤ ack + 1 - s.first ∧ AkB w g ack W ∧ LkA W S g (lcut s m) ∧ Turn S S w W
theorem own_akI {β : Type} {B : Nat} {w : World} {S : Nat → Prop} {g : Nat} {s : Lk} {ack : Nat} (m : β → Nat) (hS : ∀ k, S k → k < B) (hw : w.heap.size ≤ B) : OwnFrom B (fun x W => AkI w S g s ack (m x) W) := by
  rintro x W W' row ⟨h1, ⟨h2, h3, h4⟩, h5, h6⟩ hg hr
  exact ⟨h1, ⟨own_cells B _ (fun _ : Unit => _) _ _ () W W' row h2 hg hr, own_cells B _ (fun _ : Unit => _) _ _ () W W' row h3 hg hr, own_cells B _ (fun _ : Unit => _) _ _ () W W' row h4 hg hr⟩, own_lka (fun _ : Unit => _) hS () W W' row h5 hg hr, own_turnL (β := Unit) hw () W W' row h6 hg hr⟩
set_option maxRecDepth 100000 in
set_option maxHeartbeats 4000000 in
theorem ack_no (life ack : Nat) (w : World) (S : Nat → Prop) (g : Nat) (s : Lk) (h : LkA w S g s) (hb : ¬ (life = s.life ∧ ack < s.next)) :
    Calls Try.prog 19 #[.pointer (some ⟨g, 0, none⟩), .int .u32 (life : Int), .int .u32 (ack : Int)] w fun e w' => e = .returned (.tuple #[]) ∧ Below w.heap.size w w' := by
  have b0 := (Below.refl _ w).alloc (Nat.le_refl _) (.cells #[.pointer (some ⟨g, 0, none⟩)] 69)
  have b1 := b0.alloc b0.size (.cells #[.int .u32 (ack : Int)] 35)
  obtain ⟨c0, _, c2, _⟩ := lk_cells (h.below b1)
  have B1 := Lib.hid b1
  clear b0 b1 h
  by_cases h1 : life = s.life
  · have hq : ((life : Int) != (s.life : Int)) = false := by rw [h1]; simp
    have h2 : s.next ≤ ack := by omega
    have hd : decide ((ack : Int) ≥ (s.next : Int)) = true := by simp; omega
    refine calls_marksP Try.func19 rfl ?_
    simp only [Try.ntmps19, List.size_toArray, List.length_cons, List.length_nil, Nat.reduceAdd, Nat.reduceSub, Array.replicate_succ, Array.replicate_zero, List.push_toArray, List.append_toArray, List.nil_append, List.cons_append]
    go_wp2
    refine wp_scope_straight ?_
    go_wp2
    go_quiet (fail)
    go_wp2
    rw [Exit.noGoto_ret]
    exact leaves_plain (results_none rfl _ _ _) ⟨rfl, below_dN B1.out _⟩
  · have hq : ((life : Int) != (s.life : Int)) = true := by rw [bne_iff_ne]; omega
    refine calls_marksP Try.func19 rfl ?_
    simp only [Try.ntmps19, List.size_toArray, List.length_cons, List.length_nil, Nat.reduceAdd, Nat.reduceSub, Array.replicate_succ, Array.replicate_zero, List.push_toArray, List.append_toArray, List.nil_append, List.cons_append]
    go_wp2
    refine wp_scope_straight ?_
    go_wp2
    go_quiet (fail)
    go_wp2
    rw [Exit.noGoto_ret]
    exact leaves_plain (results_none rfl _ _ _) ⟨rfl, below_dN B1.out _⟩
set_option maxRecDepth 100000 in
set_option maxHeartbeats 4000000 in
theorem ack_yes (ack : Nat) (w : World) (S : Nat → Prop) (g : Nat) (s : Lk) (h : LkA w S g s) (hn : s.next < 4294967296) (h2 : ack < s.next) :
    Calls Try.prog 19 #[.pointer (some ⟨g, 0, none⟩), .int .u32 (s.life : Int), .int .u32 (ack : Int)] w fun e w' => e = .returned (.tuple #[]) ∧ LkA w' S g (lcut s (ack + 1 - s.first)) ∧ Turn S S w w' := by
  have hS := h.lt
  have hSg := h.own
  have hgw := hS g hSg
  have b0 := (Below.refl _ w).alloc (Nat.le_refl _) (.cells #[.pointer (some ⟨g, 0, none⟩)] 69)
  have b1 := b0.alloc b0.size (.cells #[.int .u32 (ack : Int)] 35)
  obtain ⟨c0, c1, c2, _⟩ := lk_cells (h.below b1)
  have b2 := (below_dN b1 1).alloc (below_dN b1 1).size (.cells #[.pointer (some ⟨g, 0, none⟩)] 69)
  have H0 := Lib.hid (fun n => (show AkI w S g s ack 0 ((((w.alloc (.cells #[.pointer (some ⟨g, 0, none⟩)] 69)).alloc (.cells #[.int .u32 (ack : Int)] 35)).drewN n).alloc (.cells #[.pointer (some ⟨g, 0, none⟩)] 69)) from by
    have b2 := (below_dN b1 n).alloc (below_dN b1 n).size (.cells #[.pointer (some ⟨g, 0, none⟩)] 69)
    have e1 : ((w.alloc (.cells #[.pointer (some ⟨g, 0, none⟩)] 69)).alloc (.cells #[.int .u32 (ack : Int)] 35)).heap[w.heap.size + 1]? = some (.cells #[.int .u32 (ack : Int)] 35 (0, 0)) := by have := World.alloc_heap_new (w.alloc (.cells #[.pointer (some ⟨g, 0, none⟩)] 69)) (.cells #[.int .u32 (ack : Int)] 35); rwa [World.size_alloc] at this
    have e0 := obj_alloc (World.alloc_heap_new w (.cells #[.pointer (some ⟨g, 0, none⟩)] 69)) (.cells #[.int .u32 (ack : Int)] 35)
    refine ⟨by omega, ⟨obj_alloc (w := (((w.alloc (.cells #[.pointer (some ⟨g, 0, none⟩)] 69)).alloc (.cells #[.int .u32 (ack : Int)] 35)).drewN n)) e0 _, obj_alloc (w := (((w.alloc (.cells #[.pointer (some ⟨g, 0, none⟩)] 69)).alloc (.cells #[.int .u32 (ack : Int)] 35)).drewN n)) e1 _, ?_⟩, ?_, Turn.of_below b2 hS⟩
    · have := World.alloc_heap_new (((w.alloc (.cells #[.pointer (some ⟨g, 0, none⟩)] 69)).alloc (.cells #[.int .u32 (ack : Int)] 35)).drewN n) (.cells #[.pointer (some ⟨g, 0, none⟩)] 69)
      rwa [show (((w.alloc (.cells #[.pointer (some ⟨g, 0, none⟩)] 69)).alloc (.cells #[.int .u32 (ack : Int)] 35)).drewN n).heap.size = w.heap.size + 2 by show ((w.alloc _).alloc _).heap.size = _; simp] at this
    · rw [lcut_zero]
      exact h.below b2))
  have hz2 : ((w.alloc (.cells #[.pointer (some ⟨g, 0, none⟩)] 69)).alloc (.cells #[.int .u32 (ack : Int)] 35)).heap.size = w.heap.size + 2 := by simp
  clear b0 b1 b2 h
  have hq : ((s.life : Int) != (s.life : Int)) = false := by simp
  have hd : decide ((ack : Int) ≥ (s.next : Int)) = false := by simp; omega
  refine calls_marksP Try.func19 rfl ?_
  simp only [Try.ntmps19, List.size_toArray, List.length_cons, List.length_nil, Nat.reduceAdd, Nat.reduceSub, Array.replicate_succ, Array.replicate_zero, List.push_toArray, List.append_toArray, List.nil_append, List.cons_append]
  go_wp2
  refine wp_scope_straight ?_
  go_wp2
  go_quiet (fail)
  go_wp2
  refine wp_label ?_
  go_wp2_with (go_at_call 17; refine (flying_any _ _).mono ?_; rintro e w3 ⟨rfl, rfl⟩)
  have HZ3 := Lib.hid (show ((((w.alloc (.cells #[.pointer (some ⟨g, 0, none⟩)] 69)).alloc (.cells #[.int .u32 (ack : Int)] 35)).drewN nq).alloc (.cells #[.pointer (some ⟨g, 0, none⟩)] 69)).heap.size = w.heap.size + 3 by
    rw [World.size_alloc]; show ((w.alloc _).alloc _).heap.size + 1 = _; simp)
  have HI0 := Lib.hid (H0.out nq)
  clear hz2 H0 c0 c1 c2
  generalize ((((w.alloc (.cells #[.pointer (some ⟨g, 0, none⟩)] 69)).alloc (.cells #[.int .u32 (ack : Int)] 35)).drewN nq).alloc (.cells #[.pointer (some ⟨g, 0, none⟩)] 69)) = W0 at *
  have hW0 := HZ3.out
  refine range_lawP (gf := 25) (lb := #[.pointer (some ⟨w.heap.size + 2, 0, none⟩)]) rfl (enters_of Try.func25 (by kernel_rfl) rfl) (flying1_iter (w.heap.size + 2) g s hn) (fun _ => rfl)
    (fun pre W => pre.length ≤ s.outs.length ∧ AkI w S g s ack pre.length W) (fun co _ W => co = .exit 0 ∧ AkI w S g s ack (ack + 1 - s.first) W) ?hOI ?hx ?hRd ⟨Nat.zero_le _, HI0.out⟩ ?hround ?hdone ?hstop
  case hOI =>
    rintro pre W W' row ⟨e1, e2⟩ hg hr
    exact ⟨e1, own_akI (fun _ : Unit => _) (fun k hk => by have := hS k hk; omega) (by omega) () W W' row e2 hg hr⟩
  case hx =>
    rintro co pre W W' row ⟨e1, e2⟩ hg hr
    exact ⟨e1, own_akI (fun _ : Unit => _) (fun k hk => by have := hS k hk; omega) (by omega) () W W' row e2 hg hr⟩
  case hRd =>
    rintro pre W ⟨hpl, hm, ⟨_, _, hb⟩, hL, _⟩
    refine ⟨cell_row hb 0, fun e => ?_, fun hl => ?_⟩
    · subst e
      obtain ⟨_, q1, q2, _⟩ := lk_cells hL
      rw [List.length_nil, lcut_zero] at q1 q2
      exact ⟨q1, q2⟩
    · have hn2 : (lcut s pre.length).next < 4294967296 := by unfold Lk.next lcut at *; dsimp only; rw [List.length_drop]; omega
      obtain ⟨b, e1, e2⟩ := lk_look hL hn2 0 (by unfold lcut; dsimp only; rw [List.length_drop]; omega)
      refine ⟨b, e1, ?_⟩
      have hv : (lcut s pre.length).outs[0]'(by unfold lcut; dsimp only; rw [List.length_drop]; omega) = s.outs[pre.length] := by simp [lcut]
      rw [hv] at e2
      exact e2
  case hround =>
    rintro L pre x post W hxs hlL hlW hI
    obtain ⟨hlt, rfl⟩ := outL_mid hxs
    clear hxs
    unfold encO
    dsimp only
    obtain ⟨q, hqd⟩ : ∃ q, q = s.first + pre.length := ⟨_, rfl⟩
    have HQ := Lib.hid hqd
    rw [← hqd]
    clear hqd
    obtain ⟨y, hyx⟩ : ∃ y, y = s.outs.getD pre.length ⟨#[]⟩ := ⟨_, rfl⟩
    rw [← hyx]
    clear hyx
    gi_wp2
    refine ⟨KeepsFrom.refl _ _, hI, ?_⟩
    clear hI
    rintro W2 hg hsz hI
    have hI2 := hI
    obtain ⟨hpl, hpi, ⟨hb, hbi, hbg⟩, hN, hT⟩ := hI
    have q0 := cell_row hb 0
    have q1 := cell_row hbi 0
    simp only [List.getElem?_toArray, List.getElem?_cons_zero] at q0 q1
    have HSZ := Lib.hid hsz
    clear hsz
    by_cases hgt : ack < q
    · have hm : pre.length = ack + 1 - s.first := by have := HQ.out; omega
      have HI := Lib.hid hI2
      clear hI2 hT hN hbg hbi hb hpi
      gi_wp2
      refine ⟨KeepsFrom.refl _ _, rfl, ?_⟩
      rw [← hm]
      exact HI.out.2
    · have hn2 : (lcut s pre.length).next < 4294967296 := by unfold Lk.next lcut at *; dsimp only; rw [List.length_drop]; omega
      obtain ⟨bv, w4, d1, hrun, hf4, hc4, hN4, hgr, hSb, hgb⟩ := hN.dropOne hn2 (by unfold lcut; dsimp only; rw [List.length_drop]; omega) 0
      have hbv := hS bv hSb
      rw [show (lcut s pre.length).first = q by rw [HQ.out]; rfl] at hrun hc4 hN4
      rw [lcut_succ] at hN4
      have HF := Lib.hid (show AkI w S g s ack (pre ++ [(q, y)]).length (w4.setCell ⟨g, 1, none⟩ (.int .u32 ((q + 1 : Nat) : Int))) from by
        rw [List.length_append, List.length_singleton]
        have hq2 := HQ.out
        exact ⟨by omega, ⟨obj_far (obj_grown hb hgr (by simp; omega)) (p := ⟨g, 1, none⟩) (by show w.heap.size ≠ g; omega) _, obj_far (obj_grown hbi hgr (by simp; omega)) (p := ⟨g, 1, none⟩) (by show w.heap.size + 1 ≠ g; omega) _, obj_far (obj_grown hbg hgr (by simp; omega)) (p := ⟨g, 1, none⟩) (by show w.heap.size + 2 ≠ g; omega) _⟩, hN4, (hT.grown hgr (fun k e => by cases e; exact .inl hSb)).set_ (.inl hSg) _⟩)
      have HK := Lib.hid (fun B (hB : bv < B) => (KeepsFrom.of_grownBy (B := B) hgr (fun j e => by cases e; exact hB)).trans (keeps_set w4 ⟨g, 1, none⟩ (.int .u32 ((q + 1 : Nat) : Int))))
      have hb4 := cell_row (obj_grown hb hgr (by simp; omega)) 0
      simp only [List.getElem?_toArray, List.getElem?_cons_zero] at hb4
      have HLE := Lib.hid (show pre.length + 1 ≤ s.outs.length by omega)
      have hwr : IntKind.u32.wrap ((q : Int) + 1) = ((q + 1 : Nat) : Int) := by
        have := HQ.out
        unfold Lk.next at hn
        simp [IntKind.wrap, IntKind.signed, IntKind.bits]; omega
      clear hI2 hT hN hbg hbi hb hN4 hgr hn2 hn
      gi_wp2
      refine ⟨HK.out _ (by omega), ?_, HF.out⟩
      rw [List.length_append, List.length_singleton]
      exact HLE.out
  case hdone =>
    rintro D W hD ⟨_, hpi, _, hN, hT⟩ hK
    rw [outL_len] at hpi hN
    have hie : s.outs.length = ack + 1 - s.first := by unfold Lk.next at h2; omega
    rw [hie] at hN
    have HN := Lib.hid hN
    have HT := Lib.hid hT
    have HK := Lib.hid hK
    clear hN hT hK hpi hie
    go_wp2
    try rw [Exit.noGoto_ret]
    try rw [Exit.noGoto_normal]
    refine leaves_mark HK.out (results_none rfl _ _ _) ?_
    exact ⟨rfl, HN.out.keep (fun k hk => World.putObj_heap_other (by have := hS k hk; have := HZ3.out; omega)), turnL_put HT.out (by have := HZ3.out; omega)⟩
  case hstop =>
    rintro D co pre W hD hp ⟨rfl, hpi, _, hN, hT⟩ hK
    have HN := Lib.hid hN
    have HT := Lib.hid hT
    have HK := Lib.hid hK
    clear hN hT hK hpi
    go_wp2
    try rw [Exit.noGoto_ret]
    refine leaves_mark HK.out (results_none rfl _ _ _) ?_
    exact ⟨rfl, HN.out.keep (fun k hk => World.putObj_heap_other (by have := hS k hk; have := HZ3.out; omega)), turnL_put HT.out (by have := HZ3.out; omega)⟩
theorem ack_any (life ack : Nat) (w : World) (S : Nat → Prop) (g : Nat) (s : Lk) (h : LkA w S g s) (hn : s.next < 4294967296) :
    Calls Try.prog 19 #[.pointer (some ⟨g, 0, none⟩), .int .u32 (life : Int), .int .u32 (ack : Int)] w fun e w' => e = .returned (.tuple #[]) ∧ LkA w' S g (lack s life ack) ∧ Turn S S w w' := by
  unfold lack
  by_cases hc : life = s.life ∧ ack < s.next
  · rw [if_pos hc]
    obtain ⟨rfl, h2⟩ := hc
    exact ack_yes ack w S g s h hn h2
  · rw [if_neg hc]
    exact (ack_no life ack w S g s h hc).mono fun e w1 ⟨e1, b⟩ => ⟨e1, h.below b, .of_below b h.lt⟩
set_option maxHeartbeats 4000000 in
theorem recv_ack (f : Fr) (w : World) (S : Nat → Prop) (g : Nat) (s : Lk) (h : LkA w S g s) (hf1 : f.src = s.peer) (hf2 : f.dst = s.self) (hf3 : f.kind = 2) (hn : s.next < 4294967296) :
    Calls Try.prog 12 #[.pointer (some ⟨g, 0, none⟩), frV f] w fun e w' => e = .returned (.tuple #[.slice none 0 0, .slice none 0 0, .int .i64 0]) ∧ LkA w' S g (lack s f.life f.ack) ∧ Turn S S w w' := by
  have hl := h.below ((Below.refl _ w).alloc (Nat.le_refl _) (.cells #[.int .i64 f.wire, .int .i64 f.kind, .int .i64 f.src, .int .i64 f.dst, .int .u32 (f.life : Int), .int .u32 (f.seq : Int), .int .u32 (f.ack : Int), .int .u32 (f.hint : Int), .string f.data] 37))
  obtain ⟨_, _, _, _, _, p6, p7, _, _, _, _⟩ := lk_cells hl
  have hfo := World.alloc_heap_new w (.cells #[.int .i64 f.wire, .int .i64 f.kind, .int .i64 f.src, .int .i64 f.dst, .int .u32 (f.life : Int), .int .u32 (f.seq : Int), .int .u32 (f.ack : Int), .int .u32 (f.hint : Int), .string f.data] 37)
  have HB := Lib.hid ((Below.refl _ w).alloc (Nat.le_refl _) (.cells #[.int .i64 f.wire, .int .i64 f.kind, .int .i64 f.src, .int .i64 f.dst, .int .u32 (f.life : Int), .int .u32 (f.seq : Int), .int .u32 (f.ack : Int), .int .u32 (f.hint : Int), .string f.data] 37))
  have HLT := Lib.hid h.lt
  have HL := Lib.hid hl
  have HC := Lib.hid (fun (W : World) (hW : LkA W S g s) => ack_any f.life f.ack W S g s hW hn)
  unfold frV
  rw [hf1, hf2, hf3] at *
  generalize lack s f.life f.ack = s2 at *
  clear hl h hf1 hf2 hf3 hn
  go_enter Try.func12, Try.ntmps12
  go_wp2
  generalize w.alloc (.cells #[.int .i64 f.wire, .int .i64 2, .int .i64 s.peer, .int .i64 s.self, .int .u32 (f.life : Int), .int .u32 (f.seq : Int), .int .u32 (f.ack : Int), .int .u32 (f.hint : Int), .string f.data] 37) = W at *
  obtain ⟨_, c1, c2, c3, c4, _, c6, _, _, _, _⟩ := cells9 hfo
  clear hfo
  go_quiet (fail)
  go_wp2
  go_region_law ((go_simp; go_at_call 19; (with_reducible refine (HC.out _ (HL.out.drewN _)).mono ?_); rintro e w3 ⟨rfl, h3, t3⟩; have H3 := Lib.hid h3; have T3 := Lib.hid ((Turn.of_below (below_dN HB.out _) HLT.out).trans t3); clear h3 t3))
  all_goals
    go_wp2
    go_ret3
    exact ⟨rfl, H3.out, T3.out⟩
end Go.Proofs.Ytbmlenffcmmkbaa
