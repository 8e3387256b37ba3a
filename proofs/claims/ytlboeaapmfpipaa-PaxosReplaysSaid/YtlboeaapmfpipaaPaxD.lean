/-
  A node promises. Conditions: a million changes at most; ballots and instances are as the program's types allow.
-/
import Derived.Test.YtlboeaapmfpipaaPaxC
namespace Ros
open Go Go.RowKit Go.Maps Go.ChangeMaps
theorem nprom_no {s : Nd} {i : Int} {n : Nat} (h : openE s i ≠ 0) : nprom s i n = (((vt0, []), openE s i), s) := if_neg h
theorem nprom_bad {s : Nd} {i : Int} {n : Nat} (h : openE s i = 0) (h2 : (mprom (s.vote i) n).2 ≠ 0) : nprom s i n = (((vt0, []), (mprom (s.vote i) n).2), s) := by unfold nprom; rw [if_pos h, if_neg h2]
theorem nprom_yes {s : Nd} {i : Int} {n : Nat} (h : openE s i = 0) (h2 : (mprom (s.vote i) n).2 = 0) : nprom s i n = ((((mprom (s.vote i) n).1, recI 112 i (halvesL n)), 0), { s with votes := updI s.votes i (mprom (s.vote i) n).1 }) := by unfold nprom; rw [if_pos h, if_pos h2]
theorem box3 {W : World} {B : Nat} {t : TypeId} {a b c : Value} (h : W.heap[B]? = some (.cells #[a, b, c] t (0, 0))) (x y z : Value) : (((W.setCell ⟨B, 0, none⟩ x).setCell ⟨B, 1, none⟩ y).setCell ⟨B, 2, none⟩ z).heap[B]? = some (.cells #[x, y, z] t (0, 0)) := by
  have := obj_set (obj_set (obj_set h 0 x) 1 y) 2 z
  simpa using this
theorem below_fill {w W : World} {B : Nat} (h : Below w.heap.size w W) (hB : w.heap.size ≤ B) (x y z : Value) : Below w.heap.size w (((W.setCell ⟨B, 0, none⟩ x).setCell ⟨B, 1, none⟩ y).setCell ⟨B, 2, none⟩ z) :=
  ((h.setCell (p := ⟨B, 0, none⟩) hB _).setCell (p := ⟨B, 1, none⟩) hB _).setCell (p := ⟨B, 2, none⟩) hB _
theorem turn_fill {S S' : Nat → Prop} {w W : World} {B : Nat} (h : Turn S S' w W) (hB : w.heap.size ≤ B) (x y z : Value) : Turn S S' w (((W.setCell ⟨B, 0, none⟩ x).setCell ⟨B, 1, none⟩ y).setCell ⟨B, 2, none⟩ z) :=
  ((h.set_ (p := ⟨B, 0, none⟩) (.inr hB) _).set_ (p := ⟨B, 1, none⟩) (.inr hB) _).set_ (p := ⟨B, 2, none⟩) (.inr hB) _
theorem heap_fill {W : World} {B k : Nat} (h : k ≠ B) (x y z : Value) : (((W.setCell ⟨B, 0, none⟩ x).setCell ⟨B, 1, none⟩ y).setCell ⟨B, 2, none⟩ z).heap[k]? = W.heap[k]? :=
  (Below.heap_setCell _ ⟨B, 2, none⟩ z k h).trans ((Below.heap_setCell _ ⟨B, 1, none⟩ y k h).trans (Below.heap_setCell _ ⟨B, 0, none⟩ x k h))
theorem rec_halves (b : UInt8) (k n : Nat) : b :: (toB 4 k ++ [str (halvesL n)].flatMap bl) = recI b (k : Int) (halvesL n) := by
  simp [recI, List.flatMap_cons, bl_str]
theorem joinB_halves (n : Nat) : (joinB [str (halvesL n)]).size ≤ 100000 := by
  rw [size_bl, bl_joinB]
  simp only [List.flatMap_cons, List.flatMap_nil, List.append_nil, bl_str, halvesL_len]
  omega
theorem argTexts {w : World} {B : Nat} {t : TypeId} {fz : Nat × Nat} {l : List ByteArray} (h : w.heap[B]? = some (.cells (l.map Value.string).toArray t fz)) : ArgAt w 1 (some ⟨B, 0, none⟩) l.length (l.map Value.string) :=
  ⟨by simp, fun _ => ⟨_, rfl, obj_lt h, fun j u hu => by rw [addr_add, Nat.zero_add, cell_row h]; simpa using hu⟩⟩
end Ros
namespace Go.Proofs.Ytlboeaapmfpipaa
open Go.RowKit Go.Shelf Ros
attribute [local go_sem] Oper.semAt_some
/-- Behind a change of a node: S's blocks, and a box that the call made. -/
def KP (w : World) (S : Nat → Prop) (g : Nat) (s : Nd) (c B : Nat) (W : World) (x y z : Value) : Prop :=
  NdA W S g s c ∧ Turn S S w W ∧ W.heap[B]? = some (.cells #[x, y, z] 27 (0, 0))
section
variable {w W W' : World} {S : Nat → Prop} {g c B : Nat} {s : Nd} {x y z : Value}
theorem KP.below (h : KP w S g s c B W x y z) (hb : Below W.heap.size W W') : KP w S g s c B W' x y z := ⟨h.1.below hb, h.2.1.belowR hb, obj_below h.2.2 hb (obj_lt h.2.2)⟩
theorem KP.drew (h : KP w S g s c B W x y z) : KP w S g s c B W.drew x y z := ⟨h.1, h.2.1.drew, h.2.2⟩
theorem KP.fill (h : KP w S g s c B W x y z) (hB : w.heap.size ≤ B) (hS : ¬ S B) (x' y' z' : Value) : KP w S g s c B (((W.setCell ⟨B, 0, none⟩ x').setCell ⟨B, 1, none⟩ y').setCell ⟨B, 2, none⟩ z') x' y' z' :=
  ⟨h.1.keep fun k hk => heap_fill (fun e => hS (by subst e; exact hk)) _ _ _, turn_fill h.2.1 hB _ _ _, box3 h.2.2 _ _ _⟩
end

set_option maxRecDepth 100000 in
set_option maxHeartbeats 1000000 in
theorem promN_no (i : Int) (n : Nat) (w : World) (S : Nat → Prop) (g c : Nat) (s : Nd) (h : NdA w S g s c) (ho : openE s i ≠ 0) :
    Calls Try.prog 11 #[.pointer (some ⟨g, 0, none⟩), .int .i64 i, .int .u64 (n : Int)] w fun e w' => e = .returned (.tuple #[.agg #[.int .u64 0, .int .u64 0, .string ⟨#[]⟩], .string ⟨#[]⟩, .int .i64 (openE s i)]) ∧ Below w.heap.size w w' := by
  have HO := Lib.hid (nopen_any i (w.alloc (.cells #[.int .u64 0, .int .u64 0, .string ⟨#[]⟩] 27)) S g c s (h.below ((Below.refl _ w).alloc (Nat.le_refl _) _)))
  generalize openE s i = q at *
  clear h
  go_enter Try.func11, Try.ntmps11
  go_wp2_with (go_at_call 22; refine HO.out.mono ?_; rintro e w1 ⟨rfl, b1⟩; obtain ⟨p0, p1, p2, f0, f1, f2, z0⟩ := cells3 (obj_below (World.alloc_heap_new w (.cells #[.int .u64 0, .int .u64 0, .string ⟨#[]⟩] 27)) b1 (by simp)); have B1 := Lib.hid (below1 b1); clear b1)
  refine bodyPost_ret (v := .tuple #[.agg #[.int .u64 0, .int .u64 0, .string ⟨#[]⟩], .string ⟨#[]⟩, .int .i64 q]) ?_ rfl ⟨rfl, ?_⟩
  · rw [results_cell2 rfl]
    go_simp
  · exact below_fill B1.out (Nat.le_refl _) _ _ _

set_option maxRecDepth 100000 in
set_option maxHeartbeats 1000000 in
theorem promN_bad (i : Int) (hi : -9223372036854775808 ≤ i ∧ i ≤ 9223372036854775807) (n : Nat) (hn : n < 18446744073709551616) (w : World) (S : Nat → Prop) (g c : Nat) (s : Nd) (h : NdA w S g s c) (hok : s.ok) (ho : openE s i = 0) (hm : (mprom (s.vote i) n).2 ≠ 0) :
    Calls Try.prog 11 #[.pointer (some ⟨g, 0, none⟩), .int .i64 i, .int .u64 (n : Int)] w fun e w' => e = .returned (.tuple #[.agg #[.int .u64 0, .int .u64 0, .string ⟨#[]⟩], .string ⟨#[]⟩, .int .i64 (mprom (s.vote i) n).2]) ∧ Below w.heap.size w w' := by
  have HO := Lib.hid (nopen_any i (w.alloc (.cells #[.int .u64 0, .int .u64 0, .string ⟨#[]⟩] 27)) S g c s (h.below ((Below.refl _ w).alloc (Nat.le_refl _) _)))
  rw [ho] at HO
  have HL := Lib.hid (fun (w1 : World) (b1 : Below w.heap.size w w1) => (show ∃ bv, w1.cell? ⟨g, 0, none⟩ = some (.map (some bv)) ∧ (Instr.lookup 54 (.map (some bv)) (.int .i64 i) false).run Try.prog w1 = .ok (.agg #[.int .u64 ((s.vote i).p : Int), .int .u64 ((s.vote i).b : Int), .string (s.vote i).s]) w1 from by
    obtain ⟨bv, bk, nv, nk, hg, hv, _⟩ := h.below b1
    obtain ⟨kl, hkey⟩ := int_key hi
    have hlk := (hv.look_ (e := 27) (t := 54) (z := encVt vt0) (Maps.int_keyed Try.underlying3) Try.underlying54 (by rfl) hkey).1
    unfold votesV at hlk
    rw [encVt_or] at hlk
    exact ⟨bv, cell_row hg 0, hlk⟩))
  have HP := Lib.hid (fun W => prom_any (s.vote i) n W (s.ok_vote hok i) hn)
  generalize s.vote i = v at *
  generalize mprom v n = r at *
  obtain ⟨vp, vb, vs⟩ := v
  clear h ho hok
  go_enter Try.func11, Try.ntmps11
  go_wp2_with (first
    | (go_at_call 22; refine HO.out.mono ?_; rintro e w1 ⟨rfl, b1⟩; have B1 := Lib.hid (below1 b1); obtain ⟨bv, c0, hlk⟩ := HL.out w1 B1.out; have O1 := Lib.hid (obj_below (World.alloc_heap_new w (.cells #[.int .u64 0, .int .u64 0, .string ⟨#[]⟩] 27)) b1 (by simp)); clear b1)
    | (go_at_call 23; refine (HP.out _).mono ?_; rintro e w2 ⟨rfl, b2⟩; have B2 := Lib.hid (bt B1.out b2); obtain ⟨p0, p1, p2, f0, f1, f2, z0⟩ := cells3 (obj_below O1.out b2 (obj_lt O1.out)); clear c0 hlk b2))
  refine bodyPost_ret (v := .tuple #[.agg #[.int .u64 0, .int .u64 0, .string ⟨#[]⟩], .string ⟨#[]⟩, .int .i64 r.2]) ?_ rfl ⟨rfl, ?_⟩
  · rw [results_cell2 rfl]
    go_simp
  · have hb := below_fill B2.out (Nat.le_refl _) (.int .u64 0) (.int .u64 0) (.string ⟨#[]⟩)
    exact hb.alloc hb.size _

set_option maxRecDepth 100000 in
set_option maxHeartbeats 4000000 in
theorem promN_yes (k : Nat) (n : Nat) (hn : n < 18446744073709551616) (w : World) (S : Nat → Prop) (g c : Nat) (s : Nd) (h : NdA w S g s c) (hc : c ≤ 1000000) (hok : s.ok) (hk : k ≤ 10000) (ho : openE s (k : Int) = 0) (hm : (mprom (s.vote (k : Int)) n).2 = 0) :
    Calls Try.prog 11 #[.pointer (some ⟨g, 0, none⟩), .int .i64 (k : Int), .int .u64 (n : Int)] w fun e w' => e = .returned (.tuple #[encVt (mprom (s.vote (k : Int)) n).1, .string (str (recI 112 (k : Int) (halvesL n))), .int .i64 0]) ∧ NdA w' S g { s with votes := updI s.votes (k : Int) (mprom (s.vote (k : Int)) n).1 } (c + 1) ∧ Turn S S w w' := by
  have hi : -9223372036854775808 ≤ (k : Int) ∧ (k : Int) ≤ 9223372036854775807 := by omega
  have HO := Lib.hid (nopen_any (k : Int) (w.alloc (.cells #[.int .u64 0, .int .u64 0, .string ⟨#[]⟩] 27)) S g c s (h.below ((Below.refl _ w).alloc (Nat.le_refl _) _)))
  rw [ho] at HO
  have HL := Lib.hid (fun (w1 : World) (b1 : Below w.heap.size w w1) => (show ∃ bv, w1.cell? ⟨g, 0, none⟩ = some (.map (some bv)) ∧ (Instr.lookup 54 (.map (some bv)) (.int .i64 (k : Int)) false).run Try.prog w1 = .ok (.agg #[.int .u64 ((s.vote (k : Int)).p : Int), .int .u64 ((s.vote (k : Int)).b : Int), .string (s.vote (k : Int)).s]) w1 from by
    obtain ⟨bv, bk, nv, nk, hg, hv, _⟩ := h.below b1
    obtain ⟨kl, hkey⟩ := int_key hi
    have hlk := (hv.look_ (e := 27) (t := 54) (z := encVt vt0) (Maps.int_keyed Try.underlying3) Try.underlying54 (by rfl) hkey).1
    unfold votesV at hlk
    rw [encVt_or] at hlk
    exact ⟨bv, cell_row hg 0, hlk⟩))
  have HP := Lib.hid (fun W => prom_any (s.vote (k : Int)) n W (s.ok_vote hok k) hn)
  have HK := Lib.hid (fun (x : Vt) (w2 : World) (b2 : Below w.heap.size w w2) => keep_any (k : Int) hi x w2 S g c s (h.below b2) hc)
  have HT := Lib.hid (fun (w2 : World) (b2 : Below w.heap.size w w2) => Turn.of_below b2 h.lt)
  have HS := Lib.hid h.lt
  generalize s.vote (k : Int) = v at *
  generalize mprom v n = r at *
  obtain ⟨⟨rp, rb, rs⟩, re⟩ := r
  obtain rfl : re = 0 := hm
  obtain ⟨vp, vb, vs⟩ := v
  have HV := Lib.hid (fun W => halves_any n W hn)
  have HR := Lib.hid (fun W : World => record_any 112 112 rfl k hk (some ⟨W.heap.size, 0, none⟩) 1 [str (halvesL n)] (W.alloc (.cells #[.string (str (halvesL n))] 9)) (argTexts (World.alloc_heap_new W _)) (by simp) (joinB_halves n))
  rw [rec_halves] at HR
  generalize str (recI 112 (k : Int) (halvesL n)) = R at *
  generalize str (halvesL n) = H at *
  dsimp only [List.length_cons, List.length_nil, Nat.reduceAdd] at HR
  dsimp only at HP
  unfold encVt
  clear h ho hok
  go_enter Try.func11, Try.ntmps11
  go_wp2_with (first
    | (go_at_call 22; refine HO.out.mono ?_; rintro e w1 ⟨rfl, b1⟩; have B1 := Lib.hid (below1 b1); obtain ⟨bv, c0, hlk⟩ := HL.out w1 B1.out; have O1 := Lib.hid (obj_below (World.alloc_heap_new w (.cells #[.int .u64 0, .int .u64 0, .string ⟨#[]⟩] 27)) b1 (by simp)); clear b1)
    | (go_at_call 23; refine (HP.out _).mono ?_; rintro e w2 ⟨rfl, b2⟩; have B2 := Lib.hid ((bt B1.out b2).alloc (bt B1.out b2).size (.cells #[.int .u64 (rp : Int), .int .u64 (rb : Int), .string rs] 27)); have O2 := Lib.hid (obj_alloc (obj_below O1.out b2 (obj_lt O1.out)) (.cells #[.int .u64 (rp : Int), .int .u64 (rb : Int), .string rs] 27)); clear c0 hlk b2)
    | (go_at_call 24; refine (HK.out ⟨rp, rb, rs⟩ _ B2.out).mono ?_; rintro e w3 ⟨rfl, n3, t3⟩))
  have hz : w.heap.size ≤ w2.heap.size := by have := obj_lt O2.out; rw [World.size_alloc] at this; omega
  have hSb : ¬ S w.heap.size := fun h => by have := HS.out _ h; omega
  have L3 := Lib.hid (show w3.drew.heap[w2.heap.size]? = some (.cells #[.int .u64 (rp : Int), .int .u64 (rb : Int), .string rs] 27 (0, 0)) from (t3.block _ (by simp) (fun h => by have := HS.out _ h; omega)).trans (World.alloc_heap_new _ _))
  have K3 := Lib.hid (KP.drew ⟨n3, (HT.out _ B2.out).trans t3, (t3.block _ (obj_lt O2.out) hSb).trans O2.out⟩)
  obtain ⟨p0, p1, p2, _, _, _, z0⟩ := cells3 (w := w3) L3.out
  obtain ⟨p0', p1', p2', _, _, _, z0'⟩ := cells3 L3.out
  clear n3 t3 B2 O2 O1 B1 HT HS HO HK HP HL hi
  go_cut [7, 8] (fun v e wx => v = .string R ∧ e = .int .i64 0 ∧ KP w S g { s with votes := updI s.votes (k : Int) ⟨rp, rb, rs⟩ } (c + 1) w.heap.size wx (.int .u64 (rp : Int)) (.int .u64 (rb : Int)) (.string rs))
  case first =>
    go_region_law ((first
      | (go_simp; go_at_call 26; refine (HV.out _).mono ?_; rintro e w4 ⟨rfl, b4⟩; obtain ⟨r0, r1, r2, _, _, _, y0⟩ := cells3 (obj_below L3.out b4 (obj_lt L3.out)); have L4 := Lib.hid (obj_below L3.out b4 (obj_lt L3.out)); have K4 := Lib.hid (K3.out.below b4); clear b4)
      | (go_simp; go_at_call 25; refine (HR.out w4).mono ?_; rintro e w5 ⟨rfl, b5⟩; obtain ⟨s0, s1, s2, _, _, _, x0⟩ := cells3 (obj_below L4.out (below1 b5) (obj_lt L4.out)); have K5 := Lib.hid (K4.out.below (below1 b5)); obtain ⟨_, _, _, f0, f1, f2, z5⟩ := cells3 K5.out.2.2; clear b5)))
    all_goals
      go_wp2_with fail
      go_meet
      exact ⟨rfl, rfl, K5.out.fill (Nat.le_refl _) hSb _ _ _⟩
  case rest =>
    obtain ⟨rfl, rfl, hK⟩ := hcut
    obtain ⟨p0, p1, p2, _, _, _, z0⟩ := cells3 hK.2.2
    have K := Lib.hid hK
    clear hK
    go_wp2
    refine bodyPost_ret (v := .tuple #[.agg #[.int .u64 (rp : Int), .int .u64 (rb : Int), .string rs], .string R, .int .i64 0]) ?_ rfl ⟨rfl, K.out.1, K.out.2.1⟩
    rw [results_cell2 rfl]
    go_simp
end Go.Proofs.Ytlboeaapmfpipaa
