/-
  A node's prefix. Conditions: it is at most ten thousand long.
-/
import Derived.Test.YtlboeaapmfpipaaPaxG
import Derived.Test.YtlboeaapmfpipaaJouC
namespace Ros
open Go Go.RowKit Go.Maps Go.ChangeMaps
/-- The prefix's values. -/
def prefT (s : Nd) (n : Nat) : List ByteArray := (List.range n).map fun j => (s.known ((j + 1 : Nat) : Int)).getD ⟨#[]⟩
theorem prefT_len (s : Nd) (n : Nat) : (prefT s n).length = n := by simp [prefT]
theorem prefT_succ (s : Nd) (n : Nat) : (prefT s (n + 1)).map Value.string = (prefT s n).map Value.string ++ [.string ((s.known ((n + 1 : Nat) : Int)).getD ⟨#[]⟩)] := by
  simp [prefT, List.range_succ]
theorem prefT_bl (s : Nd) : (prefT s s.len).map bl = prefL s := by simp [prefT, prefL]
theorem own_rowE {β : Type} {B : Nat} {e : TypeId} {size : Nat} (v : β → Value) (n : β → Nat) (xs : β → List Value) : OwnFrom B (fun s W => Row W e size (v s) (n s) (xs s)) := by
  intro s X Y row hs hg hr
  refine hs.keep fun k hk => hg.block k (hs.lt hk) (fun e => ?_)
  obtain ⟨_, o, ho, hc⟩ := hr k e.symm
  rcases hs.2 with ⟨h1, _⟩ | ⟨g, cap, cur, h1, hg2, _⟩
  · rw [h1] at hk; simp [Value.ownBlock] at hk
  · rw [h1] at hk
    simp [Value.ownBlock] at hk
    subst hk
    rw [hg2] at ho; cases ho; cases hc
theorem keeps_row {B : Nat} {W W' : World} {e : TypeId} {size n : Nat} {v : Value} {xs : List Value} (hR : Row W e size v n xs) (hg : W.grownBy W' v.ownBlock) : KeepsFrom B W W' := by
  refine ⟨hg.size, fun k o _ hk ho => (hg.block k (obj_lt hk) (fun e => ?_)).trans hk⟩
  rcases hR.2 with ⟨h1, _⟩ | ⟨g, cap, cur, h1, hg2, _⟩
  · rw [h1] at e; simp [Value.ownBlock] at e
  · rw [h1] at e
    simp [Value.ownBlock] at e
    subst e
    rw [hg2] at hk; cases hk; cases ho
end Ros
namespace Go.Proofs.Ytlboeaapmfpipaa
open Go.RowKit Go.Shelf Ros
attribute [local go_sem] Oper.semAt_some
/-- What the rounds of a prefix abide, and how they end. -/
def PfI (w : World) (S : Nat → Prop) (g c : Nat) (s : Nd) (n : Nat) (W : World) : Prop :=
  n ≤ s.len ∧ W.heap[w.heap.size]? = some (.cells #[.pointer (some ⟨g, 0, none⟩)] 24 (0, 0)) ∧ W.heap[w.heap.size + 2]? = some (.cells #[.int .i64 0] 3 (0, 0)) ∧ NdA W S g s c ∧ Below w.heap.size w W ∧
    ∃ A cap, W.heap[w.heap.size + 1]? = some (.cells #[.slice A n cap] 37 (0, 0)) ∧ Row W 9 1 (.slice A n cap) n ((prefT s n).map Value.string) ∧ ∀ k, (Value.slice A n cap).ownBlock = some k → w.heap.size + 2 < k
def PfX (w : World) (S : Nat → Prop) (g c : Nat) (s : Nd) (co : Code) (_pre : List Nat) (W : World) : Prop :=
  co = .exit 0 ∧ PfI w S g c s s.len W
theorem own_pfI {β : Type} {B : Nat} {w : World} {S : Nat → Prop} {g c : Nat} {s : Nd} (n : β → Nat) (hS : ∀ k, S k → k < B) (hw : w.heap.size ≤ B) : OwnFrom B (fun x W => PfI w S g c s (n x) W) := by
  rintro x W W' row ⟨h1, h2, h3, h4, h5, A, cap, h6, h7, h8⟩ hg hr
  exact ⟨h1, own_cells B _ (fun _ : Unit => _) _ _ () W W' row h2 hg hr, own_cells B _ (fun _ : Unit => _) _ _ () W W' row h3 hg hr, own_nda (fun _ : Unit => s) hS () W W' row h4 hg hr, own_below (β := Unit) (Nat.le_refl _) hw () W W' row h5 hg hr,
    A, cap, own_cells B _ (fun _ : Unit => _) _ _ () W W' row h6 hg hr, own_rowE (fun _ : Unit => _) (fun _ => _) (fun _ => _) () W W' row h7 hg hr, h8⟩
theorem learned_field (y : ByteArray) (W : World) : (Instr.field 66 (.agg #[.string y]) 0).run Try.prog W = .ok (.string y) W := by kernel_rfl
theorem pref_nil (w : World) :
    Calls Try.prog 16 #[.pointer none] w fun e w' => e = .returned (.slice none 0 0) ∧ Below w.heap.size w w' := by
  refine calls_marksP Try.func16 rfl ?_
  simp only [Try.ntmps16, List.size_toArray, List.length_cons, List.length_nil, Nat.reduceAdd, Nat.reduceSub, Array.replicate_succ, Array.replicate_zero, List.push_toArray, List.append_toArray, List.nil_append, List.cons_append]
  go_wp2
  refine wp_scope_straight ?_
  go_wp2
  rw [Exit.noGoto_ret]
  exact leaves_plain1 rfl ⟨rfl, (Below.refl _ w).alloc (Nat.le_refl _) _⟩
def appendSem (ts : Array TypeId) (t : TypeId) (args : Array Value) : Sem Value := Builtin.append_ ts t args
theorem append_hide (ts : Array TypeId) (t : TypeId) (args : Array Value) : Builtin.append_ ts t args = appendSem ts t args := rfl
attribute [local go_sem ↓] append_hide
set_option maxRecDepth 100000 in
set_option maxHeartbeats 4000000 in
theorem pref_any (w : World) (S : Nat → Prop) (g c : Nat) (s : Nd) (h : NdA w S g s c) (hlen : s.len ≤ 10000) :
    Calls Try.prog 16 #[.pointer (some ⟨g, 0, none⟩)] w fun e w' => ∃ A cap, e = .returned (.slice A s.len cap) ∧ ArgAt w' 1 A s.len ((prefT s s.len).map Value.string) ∧ Below w.heap.size w w' := by
  obtain ⟨i0, hi0, hz0, hz1, hz2⟩ := info_parts str_info
  have hS := h.lt
  have b0 := (Below.refl _ w).alloc (Nat.le_refl _) (.cells #[.pointer (some ⟨g, 0, none⟩)] 24)
  have b1 := b0.alloc b0.size (.cells #[.slice none 0 0] 37)
  have b2 := b1.alloc b1.size (.cells #[.int .i64 0] 3)
  have H0 := Lib.hid (show PfI w S g c s 0 (((w.alloc (.cells #[.pointer (some ⟨g, 0, none⟩)] 24)).alloc (.cells #[.slice none 0 0] 37)).alloc (.cells #[.int .i64 0] 3)) from
    ⟨Nat.zero_le _, obj_alloc (obj_alloc (World.alloc_heap_new w _) _) _, by have := World.alloc_heap_new ((w.alloc (.cells #[.pointer (some ⟨g, 0, none⟩)] 24)).alloc (.cells #[.slice none 0 0] 37)) (.cells #[.int .i64 0] 3); rwa [World.size_alloc, World.size_alloc] at this, h.below b2, b2,
      none, 0, obj_alloc (by have := World.alloc_heap_new (w.alloc (.cells #[.pointer (some ⟨g, 0, none⟩)] 24)) (.cells #[.slice none 0 0] 37); rwa [World.size_alloc] at this) _, Row.nil _ _ _, fun k hk => by cases hk⟩)
  clear b0 b1 b2 h
  refine calls_marksP Try.func16 rfl ?_
  simp only [Try.ntmps16, List.size_toArray, List.length_cons, List.length_nil, Nat.reduceAdd, Nat.reduceSub, Array.replicate_succ, Array.replicate_zero, List.push_toArray, List.append_toArray, List.nil_append, List.cons_append]
  go_wp2
  refine wp_scope_straight ?_
  go_wp2
  refine wp_label ?_
  go_wp2_with (go_at_call 29; refine (behind_any _ _).mono ?_; rintro e w3 ⟨rfl, rfl⟩)
  have hz3 : (((w.alloc (.cells #[.pointer (some ⟨g, 0, none⟩)] 24)).alloc (.cells #[.slice none 0 0] 37)).alloc (.cells #[.int .i64 0] 3)).heap.size = w.heap.size + 3 := by simp
  refine range_lawP (gf := 34) (lb := #[.pointer (some ⟨w.heap.size + 2, 0, none⟩)]) rfl (enters_of Try.func34 (by kernel_rfl) rfl) (behind1_iter (w.heap.size + 2) 0 (by omega)) (fun _ => rfl)
    (fun pre W => PfI w S g c s pre.length W) (PfX w S g c s) (own_pfI _ (fun k hk => by have := hS k hk; omega) (by omega)) (fun co => ?hx) (fun _ _ h => cell_row h.2.2.1 0) H0.out ?hround ?hdone ?hstop
  case hx =>
    rintro pre W W' row ⟨h1, h2⟩ hg hr
    exact ⟨h1, own_pfI (fun _ : Unit => s.len) (fun k hk => by have := hS k hk; omega) (by omega) () W W' row h2 hg hr⟩
  case hround =>
    rintro L pre x post W hxs hlL hlW hI
    obtain ⟨rfl, hle⟩ := instL_mid hxs
    clear hxs
    unfold encI
    rw [Nat.zero_add] at hle ⊢
    obtain ⟨q, hqd⟩ : ∃ q, q = 1 + pre.length := ⟨_, rfl⟩
    rw [← hqd] at hle ⊢
    have HQ := Lib.hid hqd
    clear hqd
    gi_wp2
    refine ⟨KeepsFrom.refl _ _, hI, ?_⟩
    clear hI
    rintro W2 hg hsz hI
    have hI2 := hI
    obtain ⟨hpl, hb, hb2, hN, hB, A, cap, hbs, hR, hfr⟩ := hI
    have hN' : NdA W2.drew S g s c := hN
    obtain ⟨bq, d1, d2, f2, k1, k2⟩ := known_look hN' (i := (q : Int)) (by omega)
    have d1' : W2.cell? ⟨g, 1, none⟩ = some (.map (some bq)) := d1
    have d2' : W2.cell? ⟨g, 2, none⟩ = some (.int .i64 (s.len : Int)) := d2
    have q0 := cell_row hb 0
    simp only [List.getElem?_toArray, List.getElem?_cons_zero] at q0
    have HSZ := Lib.hid hsz
    clear hsz k1 f2 hN'
    by_cases hgt : s.len < q
    · have hpe : pre.length = s.len := by have := HQ.out; omega
      have HI := Lib.hid hI2
      clear hI2 hfr hR hbs hB hN hb2 hb hpl
      gi_wp2
      refine ⟨KeepsFrom.refl _ _, rfl, ?_⟩
      rw [← hpe]
      exact HI.out
    · have q1 := cell_row hbs 0
      simp only [List.getElem?_toArray, List.getElem?_cons_zero] at q1
      generalize hy : (s.known (q : Int)).getD ⟨#[]⟩ = y at *
      have hW := World.alloc_heap_new W2.drew (.cells #[.string y] 9)
      have hR2 : Row (W2.drew.alloc (.cells #[.string y] 9)) 9 1 (.slice A pre.length cap) pre.length ((prefT s pre.length).map Value.string) := hR.keep fun k hk => Below.heap_alloc W2.drew _ k (hR.lt hk)
      obtain ⟨v', w1, ha, hR3, hgr, hvb⟩ := run_append_row (P := Try.prog) (W2.drew.alloc (.cells #[.string y] 9)) 37 37 37 9 i0 (.string ⟨#[]⟩) 1 16 Try.underlying37 hi0 hz0 hz1 hz2 rfl _ _ _ hR2 (.slice (some ⟨W2.heap.size, 0, none⟩) 1 1) 1 [.string y]
        ((argTexts (l := [y]) hW).src Try.underlying37 (by simp) (by simp [Value.oneCell'])) (by unfold maxLen; omega) (by omega)
      obtain ⟨A1, c1, rfl, _, _⟩ := hR3.form
      have hsz2 : w.heap.size + 2 < W2.heap.size := obj_lt hb2
      have hvb2 : ∀ k, (Value.slice A1 (pre.length + 1) c1).ownBlock = some k → w.heap.size + 2 < k := fun k hk => by
        rcases hvb with e | e
        · rw [e] at hk; exact hfr k hk
        · rw [e] at hk; cases hk; simp; omega
      have hsame : ∀ k, k ≤ w.heap.size + 2 → w1.heap[k]? = W2.heap[k]? := fun k hk =>
        (hgr.block k (by simp; omega) (fun e => by have := hfr k e.symm; omega)).trans (Below.heap_alloc W2.drew _ k (by show _ < W2.heap.size; omega))
      have hbs1 := (hsame (w.heap.size + 1) (by omega)).trans hbs
      have z1 := cell_row hbs1 0
      simp only [List.getElem?_toArray, List.getElem?_cons_zero] at z1
      have z2 := obj_frozen hbs1 0
      have hsv : Row (w1.setCell ⟨w.heap.size + 1, 0, none⟩ (.slice A1 (pre.length + 1) c1)) 9 1 (.slice A1 (pre.length + 1) c1) (pre.length + 1) ((prefT s pre.length).map Value.string ++ [.string y]) :=
        hR3.keep fun k hk => Below.heap_setCell _ _ _ _ (by have := hvb2 k hk; show k ≠ w.heap.size + 1; omega)
      have hBn : Below w.heap.size w (w1.setCell ⟨w.heap.size + 1, 0, none⟩ (.slice A1 (pre.length + 1) c1)) :=
        ((hB.drew.alloc hB.size _).grown hgr (by simp; omega) (fun k e => by have := hfr k e; omega)).setCell (p := ⟨w.heap.size + 1, 0, none⟩) (by simp) _
      have hfin : PfI w S g c s (pre ++ [q]).length (w1.setCell ⟨w.heap.size + 1, 0, none⟩ (.slice A1 (pre.length + 1) c1)) := by
        rw [List.length_append, List.length_singleton]
        refine ⟨by have := HQ.out; omega, obj_far ((hsame _ (by omega)).trans hb) (p := ⟨w.heap.size + 1, 0, none⟩) (by simp) _, obj_far ((hsame _ (by omega)).trans hb2) (p := ⟨w.heap.size + 1, 0, none⟩) (by simp) _,
          hN.keep fun k hk => (Below.heap_setCell _ _ _ _ (by have := hS k hk; show k ≠ w.heap.size + 1; omega)).trans (hsame k (by have := hS k hk; omega)), hBn, A1, c1, obj_set hbs1 0 _, ?_, hvb2⟩
        rw [prefT_succ, show pre.length + 1 = q by have := HQ.out; omega, hy]
        rw [show pre.length + 1 = q by have := HQ.out; omega] at hsv
        exact hsv
      have hkeep : KeepsFrom (((w.alloc (.cells #[.pointer (some ⟨g, 0, none⟩)] 24)).alloc (.cells #[.slice none 0 0] 37)).alloc (.cells #[.int .i64 0] 3)).heap.size W2 (w1.setCell ⟨w.heap.size + 1, 0, none⟩ (.slice A1 (pre.length + 1) c1)) :=
        (((keeps_drew (KeepsFrom.refl _ W2)).trans (keeps_below ((Below.refl _ W2.drew).alloc (Nat.le_refl _) _))).trans (keeps_row hR2 hgr)).trans (keeps_set _ ⟨w.heap.size + 1, 0, none⟩ _)
      have HF := Lib.hid hfin
      have HK := Lib.hid hkeep
      have hlf := learned_field y
      have q1' := cell_row (obj_alloc hbs (.cells #[.string y] 9)) 0
      simp only [List.getElem?_toArray, List.getElem?_cons_zero] at q1'
      have ha' : (appendSem #[37, 37] 37 #[.slice A pre.length cap, .slice (some ⟨W2.heap.size, 0, none⟩) 1 1]).run Try.prog (W2.alloc (.cells #[.string y] 9)).drew = .ok (.slice A1 (pre.length + 1) c1) w1 := ha
      clear ha
      clear hfin hkeep hBn hsv hbs1 hsame hvb2 hvb hgr hR3 hR2 hW hR hfr hbs hB hN hb2 hb hI2 hpl hy
      gi_wp2
      gi_region
      all_goals
        gi_wp2
        exact ⟨HK.out, HF.out⟩
  case hdone =>
    rintro D W hD hI hK
    rw [instL_len] at hI
    have hl2 : 10000 - 0 = s.len := by have := hI.1; omega
    rw [hl2] at hI
    obtain ⟨hpl, hb, hb2, hN, hB, A, cap, hbs, hR, hfr⟩ := hI
    have q1 := cell_row hbs 0
    simp only [List.getElem?_toArray, List.getElem?_cons_zero] at q1
    have HK := Lib.hid hK
    have HR := Lib.hid hR
    have HB := Lib.hid hB
    clear hK hR hB hN hb2 hb hbs hl2
    go_wp2
    rw [Exit.noGoto_ret]
    refine leaves_mark1 rfl HK.out ?_
    exact ⟨A, cap, rfl, ArgAt.of_row (row_put HR.out HK.out rfl _), below_put HB.out (by omega) (Nat.le_refl _)⟩
  case hstop =>
    rintro D co pre W hD hp ⟨rfl, hI⟩ hK
    obtain ⟨hpl, hb, hb2, hN, hB, A, cap, hbs, hR, hfr⟩ := hI
    have q1 := cell_row hbs 0
    simp only [List.getElem?_toArray, List.getElem?_cons_zero] at q1
    have HK := Lib.hid hK
    have HR := Lib.hid hR
    have HB := Lib.hid hB
    clear hK hR hB hN hb2 hb hbs
    go_wp2
    rw [Exit.noGoto_ret]
    refine leaves_mark1 rfl HK.out ?_
    exact ⟨A, cap, rfl, ArgAt.of_row (row_put HR.out HK.out rfl _), below_put HB.out (by omega) (Nat.le_refl _)⟩
end Go.Proofs.Ytlboeaapmfpipaa
