/-
  What is shown of a node. Conditions: none.
-/
import Derived.Test.YtlboeaapmfpipaaPaxH
import Derived.Test.YtlboeaapmfpipaaPaxF
import Derived.Test.YtlboeaapmfpipaaSame
namespace Ros
open Go
theorem shw1 : nprom nd0 1 17 = (((⟨17, 0, ⟨#[]⟩⟩, recI 112 1 (halvesL 17)), 0), sh1) := fresh1 (i := 1) (b := 17) (by decide) (by decide) (by decide)
theorem shw_rec : str (recI 112 1 (halvesL 17)) = ⟨#[112, 1, 0, 0, 0, 17, 0, 0, 0, 0, 0, 0, 0]⟩ := by decide
theorem shw_pref : (prefT sh3 2).map Value.string = [.string ⟨#[97]⟩, .string ⟨#[98]⟩] := by
  have h1 : sh3.known 1 = some pA := show updI sh2.known 1 pA 1 = some pA from updI_same _ _ _
  have h2 : sh3.known 2 = some pB := by show updI sh2.known 1 pA 2 = _; rw [updI_other _ _ (by decide)]; exact (show updI sh1.known 2 pB 2 = some pB from updI_same _ _ _)
  show [Value.string ((sh3.known 1).getD ⟨#[]⟩), Value.string ((sh3.known 2).getD ⟨#[]⟩)] = _
  rw [h1, h2]; rfl
theorem nd0_ok : nd0.ok := ⟨fun i v h => (by cases h), Nat.zero_le _, Nat.zero_le _⟩
end Ros
namespace Go.Proofs.Ytlboeaapmfpipaa
open Go.RowKit Go.Shelf Ros
attribute [local go_sem] Oper.semAt_some
theorem learnN_any (i : Int) (v : ByteArray) (hv : v.size ≤ 140737488355328) (w : World) (S : Nat → Prop) (g c : Nat) (s : Nd) (h : NdA w S g s c) (hc : c ≤ 1000000) (hlen : s.len ≤ 10000) :
    Calls Try.prog 14 #[.pointer (some ⟨g, 0, none⟩), .int .i64 i, .string v] w fun e w' => e = .returned (.tuple #[.string (str (nlearn s i v).1.1), .int .i64 (nlearn s i v).1.2]) ∧ NdA w' S g (nlearn s i v).2 (c + 1) ∧ Turn S S w w' := by
  by_cases hb : isI i = true ∧ v.size ≤ 4000
  · cases hk : s.known i with
    | none =>
      rw [nlearn_new hb hk]
      have hi2 := isI_iff.1 hb.1
      obtain ⟨k, rfl⟩ : ∃ k : Nat, i = (k : Int) := ⟨i.toNat, by omega⟩
      exact learn_new k v w S g c s h hc hlen hb.1 hb.2 hk
    | some old =>
      rw [nlearn_old hb hk]
      refine (learn_old i v old w S g c s h hb.1 hb.2 hk).mono ?_
      rintro e w1 ⟨rfl, b⟩
      exact ⟨rfl, (h.below b).up (by omega), .of_below b h.lt⟩
  · rw [nlearn_bad hb]
    refine (learn_bad i v hv w g hb).mono ?_
    rintro e w1 ⟨rfl, b⟩
    exact ⟨rfl, (h.below b).up (by omega), .of_below b h.lt⟩
section
variable (W : World) (S : Nat → Prop) (g : Nat)
theorem shown1 (h : NdA W S g nd0 0) : Calls Try.prog 11 #[.pointer (some ⟨g, 0, none⟩), .int .i64 1, .int .u64 17] W fun e w' => e = .returned (.tuple #[.agg #[.int .u64 17, .int .u64 0, .string ⟨#[]⟩], .string ⟨#[112, 1, 0, 0, 0, 17, 0, 0, 0, 0, 0, 0, 0]⟩, .int .i64 0]) ∧ NdA w' S g sh1 1 ∧ Turn S S W w' := by
  have h1 := promN_any 1 (by omega) 17 (by omega) W S g 0 nd0 h (by omega) nd0_ok
  rw [shw1] at h1
  dsimp only at h1
  rw [shw_rec] at h1
  exact h1
theorem shown2 (h : NdA W S g sh1 1) : Calls Try.prog 14 #[.pointer (some ⟨g, 0, none⟩), .int .i64 2, .string ⟨#[98]⟩] W fun e w' => (∃ R, e = .returned (.tuple #[.string R, .int .i64 0])) ∧ NdA w' S g sh2 2 ∧ Turn S S W w' := by
  have h1 := learnN_any 2 pB (by decide) W S g 1 sh1 h (by omega) (by decide)
  rw [shw2] at h1
  exact h1.mono fun e w' ⟨e1, e2⟩ => ⟨⟨_, e1⟩, e2⟩
theorem shown3 (h : NdA W S g sh2 2) : Calls Try.prog 16 #[.pointer (some ⟨g, 0, none⟩)] W fun e w' => (∃ A cap, e = .returned (.slice A 0 cap)) ∧ Below W.heap.size W w' :=
  (pref_any W S g 2 sh2 h (by decide)).mono fun e w' ⟨A, cap, e1, _, e2⟩ => ⟨⟨A, cap, e1⟩, e2⟩
theorem shown4 (h : NdA W S g sh2 2) : Calls Try.prog 14 #[.pointer (some ⟨g, 0, none⟩), .int .i64 1, .string ⟨#[97]⟩] W fun e w' => (∃ R, e = .returned (.tuple #[.string R, .int .i64 0])) ∧ NdA w' S g sh3 3 ∧ Turn S S W w' := by
  have h1 := learnN_any 1 pA (by decide) W S g 2 sh2 h (by omega) (by decide)
  rw [shw3] at h1
  exact h1.mono fun e w' ⟨e1, e2⟩ => ⟨⟨_, e1⟩, e2⟩
theorem shown5 (h : NdA W S g sh3 3) : Calls Try.prog 14 #[.pointer (some ⟨g, 0, none⟩), .int .i64 1, .string ⟨#[99]⟩] W fun e w' => (∃ R, e = .returned (.tuple #[.string R, .int .i64 91])) ∧ NdA w' S g sh3 4 ∧ Turn S S W w' := by
  have h1 := learnN_any 1 pC (by decide) W S g 3 sh3 h (by omega) (by decide)
  rw [shw4] at h1
  exact h1.mono fun e w' ⟨e1, e2⟩ => ⟨⟨_, e1⟩, e2⟩
theorem shown6 (h : NdA W S g sh3 4) : Calls Try.prog 16 #[.pointer (some ⟨g, 0, none⟩)] W fun e w' => (∃ A cap, e = .returned (.slice A 2 cap) ∧ ArgAt w' 1 A 2 [.string ⟨#[97]⟩, .string ⟨#[98]⟩]) ∧ Below W.heap.size W w' := by
  have h1 := pref_any W S g 4 sh3 h (by decide)
  refine h1.mono fun e w' ⟨A, cap, e1, e2, e3⟩ => ⟨⟨A, cap, e1, ?_⟩, e3⟩
  rw [show sh3.len = 2 from rfl, shw_pref] at e2
  exact e2
end
set_option maxRecDepth 100000 in
set_option maxHeartbeats 4000000 in
theorem showP_any (w : World) :
    Calls Try.prog 9 #[] w fun e w' => e = .returned (.bool true) ∧ Below w.heap.size w w' := by
  have HS := Lib.hid (fun (A : Option Addr) (ca : Nat) (W W0 : World) (ha : ArgAt W 1 A 2 [.string ⟨#[97]⟩, .string ⟨#[98]⟩]) => strSame_any A (some ⟨W.heap.size, 0, none⟩) ca 2 [⟨#[97]⟩, ⟨#[98]⟩] [⟨#[97]⟩, ⟨#[98]⟩] (W.alloc (.cells #[.string ⟨#[97]⟩, .string ⟨#[98]⟩] 9)) (ha.alloc _) (argTexts (World.alloc_heap_new W _)) (by decide) (by decide))
  dsimp only [List.length_cons, List.length_nil, Nat.reduceAdd] at HS
  have hd : decide (([⟨#[97]⟩, ⟨#[98]⟩] : List ByteArray) = [⟨#[97]⟩, ⟨#[98]⟩]) = true := by simp
  rw [hd] at HS
  clear hd
  go_enter Try.func9, Try.ntmps9
  go_wp2_with (first
    | (go_at_call 10; refine (nnew_any _).mono ?_; rintro e w1 ⟨g, S, rfl, hg, hS, n1, b1⟩; have N1 := Lib.hid n1; have B1 := Lib.hid b1; have HG := Lib.hid hS; clear n1 b1 hS)
    | (go_at_call 11; refine (shown1 _ S g N1.out).mono ?_; rintro e w2 ⟨rfl, n2, t2⟩; have B2 := Lib.hid (Turn.below B1.out B1.out.size HG.out t2).1; have N2 := Lib.hid (n2.below ((Below.refl _ w2).alloc (Nat.le_refl _) (.cells #[.int .u64 17, .int .u64 0, .string ⟨#[]⟩] 27))); have B2' := Lib.hid (B2.out.alloc B2.out.size (.cells #[.int .u64 17, .int .u64 0, .string ⟨#[]⟩] 27)); have hx2 := n2.lt; have O2 := Lib.hid (World.alloc_heap_new w2 (.cells #[.int .u64 17, .int .u64 0, .string ⟨#[]⟩] 27)); have X2 := Lib.hid hx2; clear n2 t2 hx2)
    | (go_at_call 14; with_reducible refine (shown2 _ S g N2.out).mono ?_; rintro e w3 ⟨⟨R3, rfl⟩, n3, t3⟩; have N3 := Lib.hid n3; have B3 := Lib.hid (Turn.below B2'.out B2'.out.size HG.out t3).1; have O3 := Lib.hid ((t3.block _ (obj_lt O2.out) (fun e => by have := X2.out _ e; omega)).trans O2.out); clear n3 t3)
    | (go_at_call 14; with_reducible refine (shown4 _ S g N4.out).mono ?_; rintro e w5 ⟨⟨R5, rfl⟩, n5, t5⟩; have N5 := Lib.hid n5; have B5 := Lib.hid (Turn.below B4.out B4.out.size HG.out t5).1; have O5 := Lib.hid ((t5.block _ (obj_lt O4.out) (fun e => by have := X2.out _ e; have := obj_lt O4.out; omega)).trans O4.out); clear n5 t5)
    | (go_at_call 14; with_reducible refine (shown5 _ S g N5.out).mono ?_; rintro e w6 ⟨⟨R6, rfl⟩, n6, t6⟩; have N6 := Lib.hid n6; have B6 := Lib.hid (Turn.below B5.out B5.out.size HG.out t6).1; have O6 := Lib.hid ((t6.block _ (obj_lt O5.out) (fun e => by have := X2.out _ e; have := obj_lt O5.out; omega)).trans O5.out); obtain ⟨p0, p1, p2, _, _, _, z6⟩ := cells3 O6.out; clear n6 t6)
    | (go_at_call 16; with_reducible refine (shown3 _ S g N3.out).mono ?_; rintro e w4 ⟨⟨A4, c4, rfl⟩, b4⟩; have N4 := Lib.hid (N3.out.below b4); have B4 := Lib.hid (bt B3.out b4); have O4 := Lib.hid (obj_below O3.out b4 (obj_lt O3.out)); clear b4)
    | (go_at_call 16; with_reducible refine (shown6 _ S g N6.out).mono ?_; rintro e w7 ⟨⟨A7, c7, rfl, a7⟩, b7⟩; have R7 := Lib.hid a7; have B7 := Lib.hid (bt B6.out b7); clear a7 b7)
    | (go_at_call 19; refine (HS.out A7 c7 w7 w7 R7.out).mono ?_; rintro e w8 ⟨rfl, b8⟩; have B8 := Lib.hid (bt B7.out (below1 b8)); clear b8))
  go_ret
  exact ⟨rfl, B8.out⟩
end Go.Proofs.Ytlboeaapmfpipaa
