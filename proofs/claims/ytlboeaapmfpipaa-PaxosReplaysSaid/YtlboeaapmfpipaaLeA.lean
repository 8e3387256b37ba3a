/-
  Acts of a law, plain and as arguments; the law its own node beside what else is its own. Conditions: the arguments own.
-/
import Derived.Test.YtlboeaapmfpipaaRpB
import Derived.Test.YtlboeaapmfpipaaPaxK
import Derived.Deep.DeepCutAuto
import Derived.Test.YtlboeaapmfpipaaPaxH
import Derived.Deep.RegionHeld3
namespace Ros
open Go Go.RowKit
/-- An act's text. -/
def textP (x : Pa) : ByteArray := if x.i = 7 ∧ x.b = 7 then str (List.replicate 4001 0) else x.s.extract 0 (min x.s.size 100)
theorem textP_size (x : Pa) : (textP x).size ≤ 4001 := by
  unfold textP
  split
  · rw [size_str, List.length_replicate]; omega
  · rw [ByteArray.size_extract]; omega
theorem extract_all {s : ByteArray} : s.extract 0 s.size = s := by
  apply bl_inj
  rw [bl_extract0, size_bl, List.take_length]
/-- An act of the law's. -/
def nact (s : Nd) (x : Pa) (d : Int) : Nd :=
  if d = 0 then (nprom s x.i x.b).2 else if d = 1 then (ncast s x.i x.b (textP x)).2 else if d = 2 then (nlearn s x.i (textP x)).2 else if d = 3 then (ncompact s x.i).2 else (nreplay s (textP x)).2
/-- There is no gap up to the length. -/
def Nd.full (s : Nd) : Prop := ∀ j : Nat, 1 ≤ j → j ≤ s.len → (s.known (j : Int)).isSome = true
/-- What was learned stays. -/
def NdUp (s t : Nd) : Prop := (∀ i v, s.known i = some v → t.known i = some v) ∧ s.len ≤ t.len
theorem NdUp.refl (s : Nd) : NdUp s s := ⟨fun _ _ h => h, Nat.le_refl _⟩
theorem NdUp.trans {s t u : Nd} (h : NdUp s t) (k : NdUp t u) : NdUp s u := ⟨fun i v e => k.1 i v (h.1 i v e), Nat.le_trans h.2 k.2⟩
theorem up_of {s t : Nd} (hk : t.known = s.known) (hl : t.len = s.len) : NdUp s t := ⟨fun i v e => by rw [hk]; exact e, by omega⟩
theorem full_of {s t : Nd} (hk : t.known = s.known) (hl : t.len = s.len) (h : s.full) : t.full := fun j h1 h2 => by rw [hk]; exact h j h1 (by omega)
theorem growL_full (known : Int → Option ByteArray) : ∀ f l j : Nat, l < j → j ≤ growL known f l → (known (j : Int)).isSome = true
  | 0, l, j, h1, h2 => by unfold growL at h2; omega
  | f + 1, l, j, h1, h2 => by
    unfold growL at h2
    split at h2
    · rename_i hs
      by_cases e : j = l + 1
      · subst e; exact hs
      · exact growL_full known f (l + 1) j (by omega) h2
    · omega
theorem nlearn_good {s : Nd} (hf : s.full) (hl : s.len ≤ 10000) (i : Int) (v : ByteArray) : NdUp s (nlearn s i v).2 ∧ (nlearn s i v).2.full ∧ (nlearn s i v).2.len ≤ 10000 ∧ (nlearn s i v).2.votes = s.votes ∧ (nlearn s i v).2.gone = s.gone := by
  unfold nlearn
  split
  · cases hk : s.known i with
    | some old => exact ⟨NdUp.refl s, hf, hl, rfl, rfl⟩
    | none =>
      have hg := growL_le (updI s.known i v) (10000 - s.len) s.len
      have hgr : ∀ j u, s.known j = some u → updI s.known i v j = some u := fun j u h => by
        by_cases e : j = i
        · subst e; rw [hk] at h; cases h
        · rw [updI_other s.known v e]; exact h
      refine ⟨⟨hgr, hg.1⟩, ?_, ?_, rfl, rfl⟩
      · intro j h1 h2
        by_cases hj : j ≤ s.len
        · have h3 := hf j h1 hj
          obtain ⟨u, hu⟩ := Option.isSome_iff_exists.1 h3
          show (updI s.known i v (j : Int)).isSome = true
          rw [hgr _ _ hu]; rfl
        · exact growL_full _ _ _ j (by omega) h2
      · show growL _ _ _ ≤ 10000
        omega
  · exact ⟨NdUp.refl s, hf, hl, rfl, rfl⟩
theorem updI_none {α : Type} {f : Int → Option α} {P : α → Prop} (h : ∀ i v, f i = some v → P v) {i : Int} {v : α} (hv : P v) : ∀ j u, updI f i v j = some u → P u := by
  intro j u hu
  unfold updI at hu
  split at hu
  · cases hu; exact hv
  · exact h j u hu
theorem nprom_good {s : Nd} (h : s.ok) {i : Int} {n : Nat} (hn : n < 18446744073709551616) : (nprom s i n).2.known = s.known ∧ (nprom s i n).2.len = s.len ∧ (nprom s i n).2.ok := by
  unfold nprom
  split
  · split
    · exact ⟨rfl, rfl, updI_none h.1 (mprom_ok (Nd.ok_vote h i) hn), h.2.1, h.2.2⟩
    · exact ⟨rfl, rfl, h⟩
  · exact ⟨rfl, rfl, h⟩
theorem ncast_good {s : Nd} (h : s.ok) {i : Int} {n : Nat} (hn : n < 18446744073709551616) {v : ByteArray} (hv : v.size ≤ 140737488355328) : (ncast s i n v).2.known = s.known ∧ (ncast s i n v).2.len = s.len ∧ (ncast s i n v).2.ok := by
  unfold ncast
  split
  · split
    · exact ⟨rfl, rfl, updI_none h.1 (mcast_ok hn hv), h.2.1, h.2.2⟩
    · exact ⟨rfl, rfl, h⟩
  · exact ⟨rfl, rfl, h⟩
theorem ncompact_good {s : Nd} (h : s.ok) (i : Int) : (ncompact s i).2.known = s.known ∧ (ncompact s i).2.len = s.len ∧ (ncompact s i).2.ok := by
  by_cases hb : 0 ≤ i ∧ i ≤ (s.len : Int)
  · by_cases hg : i < (s.gone : Int)
    · rw [ncompact_gone hb hg]; exact ⟨rfl, rfl, h⟩
    · rw [ncompact_yes hb hg]
      refine ⟨rfl, rfl, ⟨fun j v e => ?_, h.2.1, ?_⟩⟩
      · have e2 : dropI s.votes s.gone i j = some v := e
        unfold dropI at e2
        split at e2
        · cases e2
        · exact h.1 j v e2
      · show i.toNat ≤ 10000; have := h.2.1; omega
  · rw [ncompact_bad hb]; exact ⟨rfl, rfl, h⟩
theorem raiseV_ok {v : Vt} (hv : v.ok) {t : Ros.Told} (hn : t.number < 18446744073709551616) (hs : t.value.size ≤ 4000) : (raiseV v t).ok := by
  obtain ⟨h1, h2, h3⟩ := hv
  unfold raiseV
  split
  · exact ⟨by show max v.p t.number < _; omega, hn, by show t.value.size ≤ _; omega⟩
  · exact ⟨by show max v.p t.number < _; omega, h2, h3⟩
theorem told_lt {r : ByteArray} {t : Ros.Told} (h : nread r = some t) : ¬ t.kind = 100 → t.number < 18446744073709551616 := by
  intro hk
  rcases (nread_ok h).2.2 with h1 | ⟨_, _, h2, h13⟩
  · exact absurd h1 hk
  · rw [h2]; exact numB_lt (by rw [ByteArray.size_extract]; omega)
theorem nreplay_good {s : Nd} (h : s.ok) (hf : s.full) (r : ByteArray) : NdUp s (nreplay s r).2 ∧ (nreplay s r).2.full ∧ (nreplay s r).2.ok := by
  cases hn : nread r with
  | none => rw [nreplay_none hn]; exact ⟨NdUp.refl s, hf, h⟩
  | some t =>
    by_cases hk : t.kind = 100
    · rw [nreplay_dec hn hk]
      obtain ⟨h1, h2, h3, h4, h5⟩ := nlearn_good hf h.2.1 t.inst t.value
      exact ⟨h1, h2, ⟨by show ∀ i v, (nlearn s t.inst t.value).2.votes i = some v → v.ok; rw [h4]; exact h.1, h3, by show (nlearn s t.inst t.value).2.gone ≤ 10000; rw [h5]; exact h.2.2⟩⟩
    · by_cases hg : t.inst ≤ s.gone
      · rw [nreplay_gone hn hk hg]; exact ⟨NdUp.refl s, hf, h⟩
      · by_cases hs : raiseV (s.vote t.inst) t = s.vote t.inst
        · rw [nreplay_same hn hk hg hs]; exact ⟨NdUp.refl s, hf, h⟩
        · rw [nreplay_vote hn hk hg hs]
          exact ⟨up_of rfl rfl, full_of rfl rfl hf, ⟨updI_none h.1 (raiseV_ok (Nd.ok_vote h t.inst) (told_lt hn hk) (nread_ok hn).2.1), h.2.1, h.2.2⟩⟩
/-- A node as the laws keep it. -/
def Nd.good (s : Nd) : Prop := s.ok ∧ s.full
theorem nd0_good : nd0.good := ⟨⟨(fun i v h => by cases h), (by show 0 ≤ _; omega), (by show 0 ≤ _; omega)⟩, fun j h1 h2 => by have : j ≤ 0 := h2; omega⟩
theorem nprom_step {s : Nd} (h : s.good) (x : Pa) (hx : x.ok) : NdUp s (nprom s x.i x.b).2 ∧ (nprom s x.i x.b).2.good := by
  obtain ⟨h1, h2, h3⟩ := nprom_good h.1 (i := x.i) hx.2.2.1
  exact ⟨up_of h1 h2, h3, full_of h1 h2 h.2⟩
theorem ncast_step {s : Nd} (h : s.good) (x : Pa) (hx : x.ok) : NdUp s (ncast s x.i x.b (textP x)).2 ∧ (ncast s x.i x.b (textP x)).2.good := by
  obtain ⟨h1, h2, h3⟩ := ncast_good h.1 (i := x.i) hx.2.2.1 (v := textP x) (by have := textP_size x; omega)
  exact ⟨up_of h1 h2, h3, full_of h1 h2 h.2⟩
theorem nlearn_step {s : Nd} (h : s.good) (i : Int) (v : ByteArray) : NdUp s (nlearn s i v).2 ∧ (nlearn s i v).2.good := by
  obtain ⟨h1, h2, h3, h4, h5⟩ := nlearn_good h.2 h.1.2.1 i v
  exact ⟨h1, ⟨by show ∀ j u, (nlearn s i v).2.votes j = some u → u.ok; rw [h4]; exact h.1.1, h3, by show (nlearn s i v).2.gone ≤ 10000; rw [h5]; exact h.1.2.2⟩, h2⟩
theorem ncompact_step {s : Nd} (h : s.good) (i : Int) : NdUp s (ncompact s i).2 ∧ (ncompact s i).2.good := by
  obtain ⟨h1, h2, h3⟩ := ncompact_good h.1 i
  exact ⟨up_of h1 h2, h3, full_of h1 h2 h.2⟩
theorem nreplay_step {s : Nd} (h : s.good) (r : ByteArray) : NdUp s (nreplay s r).2 ∧ (nreplay s r).2.good := by
  obtain ⟨h1, h2, h3⟩ := nreplay_good h.1 h.2 r
  exact ⟨h1, h3, h2⟩
/-- The prefix as it was, cut out of what it is. -/
theorem prefT_grows {s t : Nd} (h : NdUp s t) (hf : s.full) : (prefT t t.len).take s.len = prefT s s.len := by
  apply List.ext_getElem
  · rw [List.length_take, prefT_len, prefT_len]; have := h.2; omega
  · intro j h1 h2
    rw [prefT_len] at h2
    rw [List.getElem_take]
    simp only [prefT, List.getElem_map, List.getElem_range]
    obtain ⟨u, hu⟩ := Option.isSome_iff_exists.1 (hf (j + 1) (by omega) (by omega))
    rw [hu, h.1 _ _ hu]
end Ros
namespace Ros
open Go Go.RowKit
theorem row_cap {w : World} {e : TypeId} {size n c : Nat} {A : Option Addr} {xs : List Value} (h : Row w e size (.slice A n c) n xs) : n ≤ c := by
  rcases h.2 with ⟨h1, h2⟩ | ⟨g, cap, cur, h1, _, h2, _⟩
  · omega
  · injection h1 with _ _ h3
    omega
end Ros
namespace Go.Proofs.Ytlboeaapmfpipaa
open Go.RowKit Go.Shelf Ros
attribute [local go_sem] Oper.semAt_some
attribute [local go_sem ↓] append_hide
set_option maxRecDepth 100000 in
set_option maxHeartbeats 4000000 in
theorem pref_own (w : World) (S : Nat → Prop) (g c : Nat) (s : Nd) (h : NdA w S g s c) (hlen : s.len ≤ 10000) :
    Calls Try.prog 16 #[.pointer (some ⟨g, 0, none⟩)] w fun e w' => ∃ A cap, e = .returned (.slice A s.len cap) ∧ ArgAt w' 1 A s.len ((prefT s s.len).map Value.string) ∧ ((∀ a, A = some a → w.heap.size ≤ a.block) ∧ s.len ≤ cap) ∧ Below w.heap.size w w' := by
  obtain ⟨i0, hi0, hz0, hz1, hz2⟩ := info_parts str_info
  have hS := h.lt
  have b0 := (Below.refl _ w).alloc (Nat.le_refl _) (.cells #[.pointer (some ⟨g, 0, none⟩)] 24)
  have b1 := b0.alloc b0.size (.cells #[.slice none 0 0] 37)
  have b2 := b1.alloc b1.size (.cells #[.int .i64 0] 3)
  have H0 := Lib.hid (show PfI w S g c s 0 (((w.alloc (.cells #[.pointer (some ⟨g, 0, none⟩)] 24)).alloc (.cells #[.slice none 0 0] 37)).alloc (.cells #[.int .i64 0] 3)) from
    ⟨Nat.zero_le _, obj_alloc (obj_alloc (World.alloc_heap_new w _) _) _, by have := World.alloc_heap_new ((w.alloc (.cells #[.pointer (some ⟨g, 0, none⟩)] 24)).alloc (.cells #[.slice none 0 0] 37)) (.cells #[.int .i64 0] 3); rwa [World.size_alloc, World.size_alloc] at this, h.below b2, b2,
      none, 0, obj_alloc (by have := World.alloc_heap_new (w.alloc (.cells #[.pointer (some ⟨g, 0, none⟩)] 24)) (.cells #[.slice none 0 0] 37); rwa [World.size_alloc] at this) _, Row.nil _ _ _, fun k hk => by cases hk⟩)
  clear b0 b1 b2 h
  refine calls_marksP Try.func16 rfl ?_
  simp only [Try.ntmps16, List.size_toArray, List.length_cons, List.length_nil, Nat.reduceAdd, Nat.reduceSub, Array.replicate_succ, Array.replicate_zero, List.push_toArray, List.append_toArray, List.nil_append, List.cons_append]
  go_wp2
  refine wp_scope_straight ?_
  go_wp2
  refine wp_label ?_
  go_wp2_with (go_at_call 29; refine (behind_any _ _).mono ?_; rintro e w3 ⟨rfl, rfl⟩)
  have hz3 : (((w.alloc (.cells #[.pointer (some ⟨g, 0, none⟩)] 24)).alloc (.cells #[.slice none 0 0] 37)).alloc (.cells #[.int .i64 0] 3)).heap.size = w.heap.size + 3 := by simp
  refine range_lawP (gf := 34) (lb := #[.pointer (some ⟨w.heap.size + 2, 0, none⟩)]) rfl (enters_of Try.func34 (by kernel_rfl) rfl) (behind1_iter (w.heap.size + 2) 0 (by omega)) (fun _ => rfl)
    (fun pre W => PfI w S g c s pre.length W) (PfX w S g c s) (own_pfI _ (fun k hk => by have := hS k hk; omega) (by omega)) (fun co => ?hx) (fun _ _ h => cell_row h.2.2.1 0) H0.out ?hround ?hdone ?hstop
  case hx =>
    rintro pre W W' row ⟨h1, h2⟩ hg hr
    exact ⟨h1, own_pfI (fun _ : Unit => s.len) (fun k hk => by have := hS k hk; omega) (by omega) () W W' row h2 hg hr⟩
  case hround =>
    rintro L pre x post W hxs hlL hlW hI
    obtain ⟨rfl, hle⟩ := instL_mid hxs
    clear hxs
    unfold encI
    rw [Nat.zero_add] at hle ⊢
    obtain ⟨q, hqd⟩ : ∃ q, q = 1 + pre.length := ⟨_, rfl⟩
    rw [← hqd] at hle ⊢
    have HQ := Lib.hid hqd
    clear hqd
    gi_wp2
    refine ⟨KeepsFrom.refl _ _, hI, ?_⟩
    clear hI
    rintro W2 hg hsz hI
    have hI2 := hI
    obtain ⟨hpl, hb, hb2, hN, hB, A, cap, hbs, hR, hfr⟩ := hI
    have hN' : NdA W2.drew S g s c := hN
    obtain ⟨bq, d1, d2, f2, k1, k2⟩ := known_look hN' (i := (q : Int)) (by omega)
    have d1' : W2.cell? ⟨g, 1, none⟩ = some (.map (some bq)) := d1
    have d2' : W2.cell? ⟨g, 2, none⟩ = some (.int .i64 (s.len : Int)) := d2
    have q0 := cell_row hb 0
    simp only [List.getElem?_toArray, List.getElem?_cons_zero] at q0
    have HSZ := Lib.hid hsz
    clear hsz k1 f2 hN'
    by_cases hgt : s.len < q
    · have hpe : pre.length = s.len := by have := HQ.out; omega
      have HI := Lib.hid hI2
      clear hI2 hfr hR hbs hB hN hb2 hb hpl
      gi_wp2
      refine ⟨KeepsFrom.refl _ _, rfl, ?_⟩
      rw [← hpe]
      exact HI.out
    · have q1 := cell_row hbs 0
      simp only [List.getElem?_toArray, List.getElem?_cons_zero] at q1
      generalize hy : (s.known (q : Int)).getD ⟨#[]⟩ = y at *
      have hW := World.alloc_heap_new W2.drew (.cells #[.string y] 9)
      have hR2 : Row (W2.drew.alloc (.cells #[.string y] 9)) 9 1 (.slice A pre.length cap) pre.length ((prefT s pre.length).map Value.string) := hR.keep fun k hk => Below.heap_alloc W2.drew _ k (hR.lt hk)
      obtain ⟨v', w1, ha, hR3, hgr, hvb⟩ := run_append_row (P := Try.prog) (W2.drew.alloc (.cells #[.string y] 9)) 37 37 37 9 i0 (.string ⟨#[]⟩) 1 16 Try.underlying37 hi0 hz0 hz1 hz2 rfl _ _ _ hR2 (.slice (some ⟨W2.heap.size, 0, none⟩) 1 1) 1 [.string y]
        ((argTexts (l := [y]) hW).src Try.underlying37 (by simp) (by simp [Value.oneCell'])) (by unfold maxLen; omega) (by omega)
      obtain ⟨A1, c1, rfl, _, _⟩ := hR3.form
      have hsz2 : w.heap.size + 2 < W2.heap.size := obj_lt hb2
      have hvb2 : ∀ k, (Value.slice A1 (pre.length + 1) c1).ownBlock = some k → w.heap.size + 2 < k := fun k hk => by
        rcases hvb with e | e
        · rw [e] at hk; exact hfr k hk
        · rw [e] at hk; cases hk; simp; omega
      have hsame : ∀ k, k ≤ w.heap.size + 2 → w1.heap[k]? = W2.heap[k]? := fun k hk =>
        (hgr.block k (by simp; omega) (fun e => by have := hfr k e.symm; omega)).trans (Below.heap_alloc W2.drew _ k (by show _ < W2.heap.size; omega))
      have hbs1 := (hsame (w.heap.size + 1) (by omega)).trans hbs
      have z1 := cell_row hbs1 0
      simp only [List.getElem?_toArray, List.getElem?_cons_zero] at z1
      have z2 := obj_frozen hbs1 0
      have hsv : Row (w1.setCell ⟨w.heap.size + 1, 0, none⟩ (.slice A1 (pre.length + 1) c1)) 9 1 (.slice A1 (pre.length + 1) c1) (pre.length + 1) ((prefT s pre.length).map Value.string ++ [.string y]) :=
        hR3.keep fun k hk => Below.heap_setCell _ _ _ _ (by have := hvb2 k hk; show k ≠ w.heap.size + 1; omega)
      have hBn : Below w.heap.size w (w1.setCell ⟨w.heap.size + 1, 0, none⟩ (.slice A1 (pre.length + 1) c1)) :=
        ((hB.drew.alloc hB.size _).grown hgr (by simp; omega) (fun k e => by have := hfr k e; omega)).setCell (p := ⟨w.heap.size + 1, 0, none⟩) (by simp) _
      have hfin : PfI w S g c s (pre ++ [q]).length (w1.setCell ⟨w.heap.size + 1, 0, none⟩ (.slice A1 (pre.length + 1) c1)) := by
        rw [List.length_append, List.length_singleton]
        refine ⟨by have := HQ.out; omega, obj_far ((hsame _ (by omega)).trans hb) (p := ⟨w.heap.size + 1, 0, none⟩) (by simp) _, obj_far ((hsame _ (by omega)).trans hb2) (p := ⟨w.heap.size + 1, 0, none⟩) (by simp) _,
          hN.keep fun k hk => (Below.heap_setCell _ _ _ _ (by have := hS k hk; show k ≠ w.heap.size + 1; omega)).trans (hsame k (by have := hS k hk; omega)), hBn, A1, c1, obj_set hbs1 0 _, ?_, hvb2⟩
        rw [prefT_succ, show pre.length + 1 = q by have := HQ.out; omega, hy]
        rw [show pre.length + 1 = q by have := HQ.out; omega] at hsv
        exact hsv
      have hkeep : KeepsFrom (((w.alloc (.cells #[.pointer (some ⟨g, 0, none⟩)] 24)).alloc (.cells #[.slice none 0 0] 37)).alloc (.cells #[.int .i64 0] 3)).heap.size W2 (w1.setCell ⟨w.heap.size + 1, 0, none⟩ (.slice A1 (pre.length + 1) c1)) :=
        (((keeps_drew (KeepsFrom.refl _ W2)).trans (keeps_below ((Below.refl _ W2.drew).alloc (Nat.le_refl _) _))).trans (keeps_row hR2 hgr)).trans (keeps_set _ ⟨w.heap.size + 1, 0, none⟩ _)
      have HF := Lib.hid hfin
      have HK := Lib.hid hkeep
      have hlf := learned_field y
      have q1' := cell_row (obj_alloc hbs (.cells #[.string y] 9)) 0
      simp only [List.getElem?_toArray, List.getElem?_cons_zero] at q1'
      have ha' : (appendSem #[37, 37] 37 #[.slice A pre.length cap, .slice (some ⟨W2.heap.size, 0, none⟩) 1 1]).run Try.prog (W2.alloc (.cells #[.string y] 9)).drew = .ok (.slice A1 (pre.length + 1) c1) w1 := ha
      clear ha
      clear hfin hkeep hBn hsv hbs1 hsame hvb2 hvb hgr hR3 hR2 hW hR hfr hbs hB hN hb2 hb hI2 hpl hy
      gi_wp2
      gi_region
      all_goals
        gi_wp2
        exact ⟨HK.out, HF.out⟩
  case hdone =>
    rintro D W hD hI hK
    rw [instL_len] at hI
    have hl2 : 10000 - 0 = s.len := by have := hI.1; omega
    rw [hl2] at hI
    obtain ⟨hpl, hb, hb2, hN, hB, A, cap, hbs, hR, hfr⟩ := hI
    have q1 := cell_row hbs 0
    simp only [List.getElem?_toArray, List.getElem?_cons_zero] at q1
    have HK := Lib.hid hK
    have HR := Lib.hid hR
    have HB := Lib.hid hB
    have HFR := Lib.hid (show (∀ a, A = some a → w.heap.size ≤ a.block) ∧ s.len ≤ cap from ⟨fun a ha => by subst ha; have := hfr a.block rfl; omega, row_cap HR.out⟩)
    clear hfr
    clear hK hR hB hN hb2 hb hbs hl2
    go_wp2
    rw [Exit.noGoto_ret]
    refine leaves_mark1 rfl HK.out ?_
    exact ⟨A, cap, rfl, ArgAt.of_row (row_put HR.out HK.out rfl _), HFR.out, below_put HB.out (by omega) (Nat.le_refl _)⟩
  case hstop =>
    rintro D co pre W hD hp ⟨rfl, hI⟩ hK
    obtain ⟨hpl, hb, hb2, hN, hB, A, cap, hbs, hR, hfr⟩ := hI
    have q1 := cell_row hbs 0
    simp only [List.getElem?_toArray, List.getElem?_cons_zero] at q1
    have HK := Lib.hid hK
    have HR := Lib.hid hR
    have HB := Lib.hid hB
    have HFR := Lib.hid (show (∀ a, A = some a → w.heap.size ≤ a.block) ∧ s.len ≤ cap from ⟨fun a ha => by subst ha; have := hfr a.block rfl; omega, row_cap HR.out⟩)
    clear hfr
    clear hK hR hB hN hb2 hb hbs
    go_wp2
    rw [Exit.noGoto_ret]
    refine leaves_mark1 rfl HK.out ?_
    exact ⟨A, cap, rfl, ArgAt.of_row (row_put HR.out HK.out rfl _), HFR.out, below_put HB.out (by omega) (Nat.le_refl _)⟩
end Go.Proofs.Ytlboeaapmfpipaa
namespace Ros
open Go Go.RowKit
def cellsP (x : Pa) : List Value := [.int .i64 x.d, .int .i64 x.i, .int .u64 (x.b : Int), .string x.s]
/-- A slice of acts, as an argument. -/
def PasAt (w : World) (A : Option Addr) (n : Nat) (xs : List Pa) : Prop :=
  xs.length = n ∧ (∀ x ∈ xs, x.ok) ∧ (0 < n → ∃ a, A = some a ∧ a.block < w.heap.size ∧ ∀ i (hi : i < xs.length), ∀ j u, (cellsP xs[i])[j]? = some u → w.cell? ((a.add (i * 4)).add j) = some u)
theorem PasAt.below {w w' : World} {A : Option Addr} {n : Nat} {xs : List Pa} (h : PasAt w A n xs) (hb : Below w.heap.size w w') : PasAt w' A n xs := by
  refine ⟨h.1, h.2.1, fun hn => ?_⟩
  obtain ⟨a, e, hl, hc⟩ := h.2.2 hn
  refine ⟨a, e, Nat.lt_of_lt_of_le hl hb.size, fun i hi j u hu => (hb.cell ?_).trans (hc i hi j u hu)⟩
  rw [add_block, add_block]; exact hl
theorem PasAt.act {w : World} {A : Option Addr} {n : Nat} {xs : List Pa} (h : PasAt w A n xs) (k : Nat) (hk : k < n) :
    ∃ (a : Addr) (x : Pa), A = some a ∧ a.block < w.heap.size ∧ x ∈ xs ∧ x.ok ∧ w.cell? (a.add (k * 4)) = some (.int .i64 x.d) ∧ w.cell? ((a.add (k * 4)).add 1) = some (.int .i64 x.i) ∧ w.cell? ((a.add (k * 4)).add 2) = some (.int .u64 (x.b : Int)) ∧ w.cell? ((a.add (k * 4)).add 3) = some (.string x.s) := by
  obtain ⟨a, e, hl, hc⟩ := h.2.2 (by omega)
  have hkl : k < xs.length := by rw [h.1]; exact hk
  refine ⟨a, xs[k], e, hl, List.getElem_mem hkl, h.2.1 _ (List.getElem_mem hkl), ?_, hc k hkl 1 _ rfl, hc k hkl 2 _ rfl, hc k hkl 3 _ rfl⟩
  have := hc k hkl 0 _ rfl
  exact this
end Ros
namespace Go.Proofs.Ytlboeaapmfpipaa
open Go.RowKit Go.Shelf Ros
attribute [local go_sem] Oper.semAt_some
section
open Go.Joins Go.ChangeShapes Go.WideShapes Go.Deep
variable {H : Type} {enc : TypeId × Value → H} {w : World} {base : Nat} {spare : Nat → Bool} {held : Bool}
theorem open_pacts {A : Option Addr} {l c : Nat} {d : DataW H} {p : List MemPlace} (h : DataW.Trod enc Try.prog w base (fun _ => true) held 40 (.slice A l c) d p) : ∃ xs, PasAt w A l xs := by
  obtain ⟨fuel, hf⟩ := h
  rcases open_slice_fields Try.underlying40 Try.underlying45 (by kernel_rfl) (by kernel_rfl) hf with ⟨h0, _⟩ | ⟨a, len, cap, m, D, Pl, hcs, hb, hl, hm, hmm, hx, hi⟩
  · cases h0
    exact ⟨[], rfl, fun x hx => by simp at hx, fun h => absurd h (by omega)⟩
  · cases hcs
    have hP : ∀ i, i < l → ∃ x : Pa, x.ok ∧ a.block < w.heap.size ∧ ∀ j u, (cellsP x)[j]? = some u → w.cell? ((a.add (i * 4)).add j) = some u := by
      intro i hil
      obtain ⟨ys, n, _, _, _, hf⟩ := hi i (by rw [hmm]; simp; omega)
      obtain ⟨v0, y0, c0, _, t0⟩ := hf 0 _ rfl
      obtain ⟨v1, y1, c1, _, t1⟩ := hf 1 _ rfl
      obtain ⟨v2, y2, c2, _, t2⟩ := hf 2 _ rfl
      obtain ⟨v3, y3, c3, _, t3⟩ := hf 3 _ rfl
      obtain ⟨n0, e0, _, w0⟩ := DataW.trod_int Try.underlying3 t0
      obtain ⟨n1, e1, _, w1⟩ := DataW.trod_int Try.underlying3 t1
      obtain ⟨n2, e2, _, w2⟩ := DataW.trod_int Try.underlying22 t2
      obtain ⟨s3, e3, _, w3⟩ := DataW.trod_string Try.underlying9 t3
      obtain ⟨m2, rfl, b2⟩ := rngu64 w2
      cases e0; cases e1; cases e2; cases e3
      refine ⟨⟨n0, n1, m2, s3⟩, ⟨rng64' w0, rng64' w1, b2, w3⟩, ?_, ?_⟩
      · have := World.block_lt_of_cell? w _ c0
        rwa [add_block] at this
      · intro j u hu
        match j, hu with
        | 0, hu => cases hu; exact (by rw [add_add]; exact c0)
        | 1, hu => cases hu; exact (by rw [add_add]; exact c1)
        | 2, hu => cases hu; exact (by rw [add_add]; exact c2)
        | 3, hu => cases hu; exact (by rw [add_add]; exact c3)
    obtain ⟨xs, hlen, hall⟩ := list_of l hP
    refine ⟨xs, hlen, fun x hx => ?_, fun hn => ⟨a, rfl, (hall 0 (by omega)).2.1, fun i hi => (hall i hi).2.2⟩⟩
    obtain ⟨i, hi, rfl⟩ := List.mem_iff_getElem.1 hx
    exact (hall i hi).1
end
theorem made_zeros9 (n : Nat) : madeCells #[Value.int .u8 0] n = cellsOf (List.replicate n 0) := by
  apply Array.ext_getElem?
  intro j
  by_cases hj : j < n
  · simp [madeCells, cellsOf, hj, Nat.mod_one]
  · simp [madeCells, cellsOf, hj]
theorem u8_info9 : (Try.prog.info? 5).map (fun i => (i.zero, i.size, i.bytes)) = some (some (.int .u8 0), 1, 1) := by kernel_rfl
theorem make_zeros9 (n : Nat) (hn : n ≤ 1000000) (W : World) :
    (Instr.makeSlice 75 (.int .i64 (n : Int)) (.int .i64 (n : Int))).run Try.prog W = .ok (.slice (some ⟨W.heap.size, 0, none⟩) n n) (W.alloc (.cells (cellsOf (List.replicate n 0)) 5)) := by
  obtain ⟨i0, hi0, hz0, hz1, hz2⟩ := info_parts u8_info9
  have h := run_make (P := Try.prog) W 75 5 i0 (.int .u8 0) Try.underlying75 hi0 hz0 .i64 .i64 (n : Int) (n : Int) (by omega) (Int.le_refl _) (by rw [hz2]; omega) (by omega)
  rw [hz1, Nat.mul_one, Int.toNat_natCast, show (Value.int .u8 0).cells = #[Value.int .u8 0] from rfl, made_zeros9] at h
  exact h
theorem conv_zeros9 (n : Nat) (W : World) :
    (convert 75 9 (.slice (some ⟨W.heap.size, 0, none⟩) n n)).run Try.prog (W.alloc (.cells (cellsOf (List.replicate n 0)) 5)) = .ok (.string (str (List.replicate n 0))) (W.alloc (.cells (cellsOf (List.replicate n 0)) 5)) := by
  have h := run_convert_bytes_back (P := Try.prog) (W.alloc (.cells (cellsOf (List.replicate n 0)) 5)) 75 9 5 ⟨W.heap.size, 0, none⟩ n (List.replicate n 0) Try.underlying75 Try.underlying5 Try.underlying9 (cells_new rfl)
  rw [List.length_replicate] at h
  exact h
set_option maxHeartbeats 1000000 in
theorem ptext_any (x : Pa) (w : World) (hs : x.s.size ≤ maxLen) :
    Calls Try.prog 21 #[.agg #[.int .i64 x.d, .int .i64 x.i, .int .u64 (x.b : Int), .string x.s]] w fun e w' => e = .returned (.string (textP x)) ∧ Below w.heap.size w w' := by
  unfold maxLen at hs
  by_cases h7 : x.i = 7 ∧ x.b = 7
  · have ht : textP x = str (List.replicate 4001 0) := if_pos h7
    rw [ht]
    obtain ⟨xd, xi, xb, xs⟩ := x
    obtain ⟨rfl, rfl⟩ := h7
    have hmk : ∀ W : World, (Instr.makeSlice 75 (.int .i64 4001) (.int .i64 4001)).run Try.prog W = .ok (.slice (some ⟨W.heap.size, 0, none⟩) 4001 4001) (W.alloc (.cells (cellsOf (List.replicate 4001 0)) 5)) := make_zeros9 4001 (by omega)
    have hcv := conv_zeros9 4001 (w.alloc (.cells #[.int .i64 xd, .int .i64 7, .int .u64 7, .string xs] 45))
    rw [World.size_alloc] at hcv
    clear ht
    generalize str (List.replicate 4001 0) = z at *
    generalize cellsOf (List.replicate 4001 0) = Z at *
    dsimp only
    go_enter Try.func21, Try.ntmps21
    go_wp2
    go_ret
    exact ⟨rfl, ((Below.refl _ w).alloc (Nat.le_refl _) _).alloc (by simp) _⟩
  · have ht : textP x = x.s.extract 0 (min x.s.size 100) := if_neg h7
    rw [ht]
    obtain ⟨xd, xi, xb, xs⟩ := x
    dsimp only at h7 hs ⊢
    by_cases h1 : xi = 7
    · have hb : ¬ xb = 7 := fun e => h7 ⟨h1, e⟩
      subst h1
      by_cases hl : 100 < xs.size
      · rw [Nat.min_eq_right (by omega)]
        go_enter Try.func21, Try.ntmps21
        go_wp2
        go_ret
        exact ⟨rfl, (Below.refl _ w).alloc (Nat.le_refl _) _⟩
      · rw [Nat.min_eq_left (by omega)]
        go_enter Try.func21, Try.ntmps21
        go_wp2
        go_ret
        exact ⟨rfl, (Below.refl _ w).alloc (Nat.le_refl _) _⟩
    · by_cases hl : 100 < xs.size
      · rw [Nat.min_eq_right (by omega)]
        go_enter Try.func21, Try.ntmps21
        go_wp2
        go_ret
        exact ⟨rfl, (Below.refl _ w).alloc (Nat.le_refl _) _⟩
      · rw [Nat.min_eq_left (by omega)]
        go_enter Try.func21, Try.ntmps21
        go_wp2
        go_ret
        exact ⟨rfl, (Below.refl _ w).alloc (Nat.le_refl _) _⟩
end Go.Proofs.Ytlboeaapmfpipaa
namespace Go.Proofs.Ytlboeaapmfpipaa
open Go.RowKit Go.Shelf Ros
/-- A node of the law's own, beside what lies in the blocks T. -/
structure NX (w0 W : World) (S : Nat → Prop) (g : Nat) (s : Nd) (c : Nat) (T : Nat → Prop) (F : World → Prop) : Prop where
  nd : NdA W S g s c
  below : Below w0.heap.size w0 W
  own : ∀ k, S k → w0.heap.size ≤ k
  apart : ∀ k, T k → k < W.heap.size ∧ ¬ S k ∧ w0.heap.size ≤ k
  frame : ∀ X Y : World, X.heap.size ≤ Y.heap.size → (∀ k, T k → Y.heap[k]? = X.heap[k]?) → F X → F Y
  rest : F W
section
variable {w0 W W' : World} {S : Nat → Prop} {g c c' : Nat} {s s' : Nd} {T T' : Nat → Prop} {F F' : World → Prop}
theorem NX.turn (h : NX w0 W S g s c T F) (hN : NdA W' S g s' c') (hT : Turn S S W W') : NX w0 W' S g s' c' T F :=
  ⟨hN, (Turn.below h.below h.below.size h.own hT).1, h.own, fun k hk => ⟨Nat.lt_of_lt_of_le (h.apart k hk).1 hT.size, (h.apart k hk).2⟩, h.frame, h.frame W W' hT.size (fun k hk => hT.block k (h.apart k hk).1 (h.apart k hk).2.1) h.rest⟩
theorem NX.on (h : NX w0 W S g s c T F) (hb : Below W.heap.size W W') : NX w0 W' S g s c T F := h.turn (h.nd.below hb) (.of_below hb h.nd.lt)
theorem NX.alloc (h : NX w0 W S g s c T F) (o : Obj) : NX w0 (W.alloc o) S g s c T F := h.on ((Below.refl _ W).alloc (Nat.le_refl _) o)
theorem NX.drew (h : NX w0 W S g s c T F) : NX w0 W.drew S g s c T F := h.on (Below.refl _ W).drew
theorem NX.drewN (h : NX w0 W S g s c T F) (n : Nat) : NX w0 (W.drewN n) S g s c T F := h.on (below_dN (Below.refl _ W) n)
theorem NX.up (h : NX w0 W S g s c T F) (hc : c ≤ c') : NX w0 W S g s c' T F := ⟨h.nd.up hc, h.below, h.own, h.apart, h.frame, h.rest⟩
/-- Less is kept. -/
theorem NX.less (h : NX w0 W S g s c T F) (hT : ∀ k, T' k → T k) (hf : ∀ X Y : World, X.heap.size ≤ Y.heap.size → (∀ k, T' k → Y.heap[k]? = X.heap[k]?) → F' X → F' Y) (hr : F W → F' W) : NX w0 W S g s c T' F' :=
  ⟨h.nd, h.below, h.own, fun k hk => h.apart k (hT k hk), hf, hr h.rest⟩
/-- More is kept. -/
theorem NX.more (h : NX w0 W S g s c T F) (hT : ∀ k, T' k → T k ∨ (k < W.heap.size ∧ ¬ S k ∧ w0.heap.size ≤ k)) (hf : ∀ X Y : World, X.heap.size ≤ Y.heap.size → (∀ k, T' k → Y.heap[k]? = X.heap[k]?) → F' X → F' Y) (hr : F W → F' W) : NX w0 W S g s c T' F' :=
  ⟨h.nd, h.below, h.own, fun k hk => (hT k hk).elim (h.apart k) id, hf, hr h.rest⟩
/-- A new block is no block of the node's. -/
theorem NX.new (h : NX w0 W S g s c T F) : ¬ S W.heap.size ∧ w0.heap.size ≤ W.heap.size := ⟨fun e => by have := h.nd.lt _ e; omega, h.below.size⟩
theorem decided_x (h : NX w0 W S g s c T F) (i : Int) (hi : -9223372036854775808 ≤ i ∧ i ≤ 9223372036854775807) :
    Calls Try.prog 20 #[.pointer (some ⟨g, 0, none⟩), .int .i64 i] W fun e W' => e = .returned (.tuple #[.string ((s.known i).getD ⟨#[]⟩), .bool (s.known i).isSome]) ∧ NX w0 W' S g s c T F :=
  (decidedN_any i hi W S g c s h.nd).mono fun _ _ ⟨e, b⟩ => ⟨e, h.on b⟩
theorem vote_x (h : NX w0 W S g s c T F) (i : Int) (hi : -9223372036854775808 ≤ i ∧ i ≤ 9223372036854775807) :
    Calls Try.prog 13 #[.pointer (some ⟨g, 0, none⟩), .int .i64 i] W fun e W' => e = .returned (encVt (s.vote i)) ∧ NX w0 W' S g s c T F :=
  (vote_any i hi W S g c s h.nd).mono fun _ _ ⟨e, b⟩ => ⟨e, h.on b⟩
theorem pref_x (h : NX w0 W S g s c T F) (hlen : s.len ≤ 10000) :
    Calls Try.prog 16 #[.pointer (some ⟨g, 0, none⟩)] W fun e W' => ∃ A cap, e = .returned (.slice A s.len cap) ∧ ArgAt W' 1 A s.len ((prefT s s.len).map Value.string) ∧ (∀ a, A = some a → W.heap.size ≤ a.block) ∧ s.len ≤ cap ∧ NX w0 W' S g s c T F :=
  (pref_own W S g c s h.nd hlen).mono fun _ _ ⟨A, cap, e, ha, hn, b⟩ => ⟨A, cap, e, ha, hn.1, hn.2, h.on b⟩
theorem prom_x (h : NX w0 W S g s c T F) (hc : c ≤ 1000000) (hs : s.good) (i : Int) (hi : -9223372036854775808 ≤ i ∧ i ≤ 9223372036854775807) (n : Nat) (hn : n < 18446744073709551616) :
    Calls Try.prog 11 #[.pointer (some ⟨g, 0, none⟩), .int .i64 i, .int .u64 (n : Int)] W fun e W' => e = .returned (.tuple #[encVt (nprom s i n).1.1.1, .string (str (nprom s i n).1.1.2), .int .i64 (nprom s i n).1.2]) ∧ NX w0 W' S g (nprom s i n).2 (c + 1) T F :=
  (promN_any i hi n hn W S g c s h.nd hc hs.1).mono fun _ _ ⟨e, hN, hT⟩ => ⟨e, h.turn hN hT⟩
theorem cast_x (h : NX w0 W S g s c T F) (hc : c ≤ 1000000) (hs : s.good) (i : Int) (hi : -9223372036854775808 ≤ i ∧ i ≤ 9223372036854775807) (n : Nat) (hn : n < 18446744073709551616) (x : ByteArray) (hx : x.size ≤ 4001) :
    Calls Try.prog 12 #[.pointer (some ⟨g, 0, none⟩), .int .i64 i, .int .u64 (n : Int), .string x] W fun e W' => e = .returned (.tuple #[.string (str (ncast s i n x).1.1), .int .i64 (ncast s i n x).1.2]) ∧ NX w0 W' S g (ncast s i n x).2 (c + 1) T F :=
  (castN_any i hi n hn x (by omega) W S g c s h.nd hc hs.1).mono fun _ _ ⟨e, hN, hT⟩ => ⟨e, h.turn hN hT⟩
theorem learn_x (h : NX w0 W S g s c T F) (hc : c ≤ 1000000) (hs : s.good) (i : Int) (x : ByteArray) (hx : x.size ≤ 4001) :
    Calls Try.prog 14 #[.pointer (some ⟨g, 0, none⟩), .int .i64 i, .string x] W fun e W' => e = .returned (.tuple #[.string (str (nlearn s i x).1.1), .int .i64 (nlearn s i x).1.2]) ∧ NX w0 W' S g (nlearn s i x).2 (c + 1) T F :=
  (learnN_any i x (by omega) W S g c s h.nd hc hs.1.2.1).mono fun _ _ ⟨e, hN, hT⟩ => ⟨e, h.turn hN hT⟩
theorem compact_x (h : NX w0 W S g s c T F) (hs : s.good) (i : Int) :
    Calls Try.prog 15 #[.pointer (some ⟨g, 0, none⟩), .int .i64 i] W fun e W' => e = .returned (.int .i64 (ncompact s i).1) ∧ NX w0 W' S g (ncompact s i).2 c T F :=
  (compactN_any i W S g c s h.nd hs.1.2.1).mono fun _ _ ⟨e, hN, hT⟩ => ⟨e, h.turn hN hT⟩
theorem replay_x (h : NX w0 W S g s c T F) (hc : c ≤ 1000000) (hs : s.good) (r : ByteArray) (hr : r.size ≤ 140737488355328) :
    Calls Try.prog 18 #[.pointer (some ⟨g, 0, none⟩), .string r] W fun e W' => e = .returned (.int .i64 (nreplay s r).1) ∧ NX w0 W' S g (nreplay s r).2 (c + 1) T F :=
  (replayN_any r hr W S g c s h.nd hc hs.1.2.1).mono fun _ _ ⟨e, hN, hT⟩ => ⟨e, h.turn hN hT⟩
end
theorem argAt_frame {A : Option Addr} {n : Nat} {l : List Value} {X Y : World} (hs : X.heap.size ≤ Y.heap.size) (hk : ∀ a, A = some a → Y.heap[a.block]? = X.heap[a.block]?) (h : ArgAt X 1 A n l) : ArgAt Y 1 A n l :=
  h.keep hs fun a ha _ => hk a ha
theorem do5 (d : Int) : (IntKind.u64.wrap d).tmod 5 = 0 ∨ (IntKind.u64.wrap d).tmod 5 = 1 ∨ (IntKind.u64.wrap d).tmod 5 = 2 ∨ (IntKind.u64.wrap d).tmod 5 = 3 ∨ (IntKind.u64.wrap d).tmod 5 = 4 := by
  have h : IntKind.u64.wrap d = d % 18446744073709551616 := by rw [IntKind.wrap_u64]
  have h0 : 0 ≤ IntKind.u64.wrap d := by rw [h]; omega
  rw [Int.tmod_eq_emod_of_nonneg h0]
  omega
end Go.Proofs.Ytlboeaapmfpipaa
