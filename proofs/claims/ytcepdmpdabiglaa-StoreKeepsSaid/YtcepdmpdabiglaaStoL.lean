/-
  The laws of store, walked: what stands in all of them, StoreNone. Conditions: none but the arguments' own.
-/
import Derived.Test.YtcepdmpdabiglaaStoF
import Derived.Test.YtcepdmpdabiglaaJouN
namespace Ros
open Go Go.RowKit
def sA : ByteArray := ⟨#[97]⟩
def sB : ByteArray := ⟨#[98]⟩
def sC : ByteArray := ⟨#[99]⟩
def st0 : St := ⟨[], ⟨#[]⟩, 100, false, 0, false⟩
def st1 : St := { st0 with log := recL (bl sA) }
def st2 : St := { st1 with cut := true, keep := 3 }
def st3 : St := { st2 with log := recL (bl sA) ++ (recL (bl sB)).take 3, cut := false, keep := 0, down := true }
theorem lenA : (recL (bl sA)).length = 10 := by rw [recL_length]; rfl
theorem lenB : (recL (bl sB)).length = 10 := by rw [recL_length]; rfl
theorem shA : swrite st0 sA = (0, st1) := swrite_yes (s := st0) (d := sA) rfl (by decide) rfl
theorem shC : swrite st2 sB = (31, st3) := swrite_cut (s := st2) (d := sB) rfl (by
  refine ⟨by decide, ?_⟩
  show (((recL (bl sA)).length + 0 : Nat) : Int) + ((1 : Int) + 9) ≤ 100
  rw [lenA]; decide) rfl
theorem shD : swrite st3 sC = (31, st3) := swrite_down sC rfl
theorem shE : (readL st3.log).1 = [bl sA] := by
  have h1 := read_recs [bl sA] ((recL (bl sB)).take 3) (by simp; decide)
  have h2 := one_cut (bl sB) [] 3 (by decide) (by decide)
  rw [List.append_nil] at h2
  rw [readL_zero h2, recs_one] at h1
  show (readL (recL (bl sA) ++ (recL (bl sB)).take 3)).1 = _
  rw [h1]; rfl
theorem len3 : st3.log.length = 13 := by show (recL (bl sA) ++ (recL (bl sB)).take 3).length = 13; rw [List.length_append, List.length_take, lenA, lenB]; rfl
end Ros
namespace Go.Proofs.Ytcepdmpdabiglaa
open Go.RowKit Go.Shelf Ros
attribute [local go_sem] Oper.semAt_some
set_option linter.unusedVariables false
theorem shB : scut st1 3 = (0, st2) := scut_yes (s := st1) (k := 3) rfl

/-- A store that the call has made, in a world behind the call's. -/
def StAt (w0 W : World) (S : Nat → Prop) (g : Nat) (s : St) : Prop := StA W S g s ∧ Below w0.heap.size w0 W ∧ ∀ k, S k → w0.heap.size ≤ k
/-- A list of strings of the call's own beside it. -/
def Beside (w0 W : World) (S : Nat → Prop) (v : Value) (n : Nat) (xs : List Value) : Prop := Row W 9 1 v n xs ∧ ∀ k, v.ownBlock = some k → ¬ S k ∧ w0.heap.size ≤ k
section
variable {w0 W W' : World} {S S' : Nat → Prop} {g n : Nat} {s s' : St} {v : Value} {xs : List Value}
theorem StAt.turn (h : StAt w0 W S g s) (hf : StA W' S' g s') (ht : Turn S S' W W') : StAt w0 W' S' g s' := by
  obtain ⟨h1, h2⟩ := ht.below h.2.1 h.2.1.size h.2.2
  exact ⟨hf, h1, h2⟩
theorem StAt.below (h : StAt w0 W S g s) (hb : Below W.heap.size W W') : StAt w0 W' S g s := h.turn (h.1.below hb) (.of_below hb h.1.lt)
theorem StAt.alloc (h : StAt w0 W S g s) (o : Obj) : StAt w0 (W.alloc o) S g s := h.below ((Below.refl _ W).alloc (Nat.le_refl _) o)
theorem Beside.turn (h : Beside w0 W S v n xs) (ht : Turn S S' W W') : Beside w0 W' S' v n xs :=
  ⟨h.1.keep fun k hk => ht.block k (h.1.lt hk) (h.2 k hk).1, fun k hk => ⟨fun hs => (ht.foot k hs).elim (h.2 k hk).1 (fun h2 => by have := h.1.lt hk; omega), (h.2 k hk).2⟩⟩
theorem Beside.below (h : Beside w0 W S v n xs) (hb : Below W.heap.size W W') : Beside w0 W' S v n xs := ⟨h.1.below hb (Nat.le_refl _), h.2⟩
theorem Beside.arg {A : Option Addr} {c : Nat} (h : Beside w0 W S (.slice A n c) n xs) : ArgAt W 1 A n xs := ArgAt.of_row h.1

theorem wr_law (h : StAt w0 W S g s) (d : ByteArray) (hd : d.size ≤ maxLen) (hl : s.log.length ≤ 1990000) (hn : s.snap.size ≤ 1990000) (hc1 : 64 ≤ s.cap) (hc2 : s.cap ≤ 1048576) :
    Calls Try.prog 9 #[.pointer (some ⟨g, 0, none⟩), .string d] W fun e W' => e = .returned (.int .i64 (swrite s d).1) ∧ ∃ S', StAt w0 W' S' g (swrite s d).2 ∧ Turn S S' W W' :=
  (Write_any S g s d W h.1 hd hl hn hc1 hc2).mono fun _ _ ⟨he, S', hf, ht⟩ => ⟨he, S', h.turn hf ht, ht⟩
theorem sn_law (h : StAt w0 W S g s) (d : ByteArray) (hd : d.size ≤ maxLen) (hc1 : 64 ≤ s.cap) (hc2 : s.cap ≤ 1048576) :
    Calls Try.prog 15 #[.pointer (some ⟨g, 0, none⟩), .string d] W fun e W' => e = .returned (.int .i64 (ssnap s d).1) ∧ ∃ S', StAt w0 W' S' g (ssnap s d).2 ∧ Turn S S' W W' :=
  (Snapshot_any S g s d W h.1 hd hc1 hc2).mono fun _ _ ⟨he, S', hf, ht⟩ => ⟨he, S', h.turn hf ht, ht⟩
theorem cu_law (h : StAt w0 W S g s) (k : Int) :
    Calls Try.prog 11 #[.pointer (some ⟨g, 0, none⟩), .int .i64 k] W fun e W' => e = .returned (.int .i64 (scut s k).1) ∧ StAt w0 W' S g (scut s k).2 ∧ Turn S S W W' :=
  (Cut_any S g s k W h.1).mono fun _ _ ⟨he, hf, ht⟩ => ⟨he, h.turn hf ht, ht⟩
theorem ho_law (h : StAt w0 W S g s) (hl : s.log.length ≤ 2000000) (hs : s.snap.size ≤ 2000000) :
    Calls Try.prog 10 #[.pointer (some ⟨g, 0, none⟩)] W fun e W' => e = .returned (.int .i64 (s.holds : Int)) ∧ StAt w0 W' S g s ∧ Below W.heap.size W W' :=
  (Holds_any S g s W h.1 hl hs).mono fun _ _ ⟨he, hb⟩ => ⟨he, h.below hb, hb⟩
theorem re_law (h : StAt w0 W S g s) (hl : s.log.length ≤ 2000000) (hn : s.snap.size ≤ 2000000) :
    Calls Try.prog 12 #[.pointer (some ⟨g, 0, none⟩)] W fun e W' => ∃ A c, e = .returned (.tuple #[.string (snapD s.snap), .slice A (readL s.log).1.length c, .int .i64 0]) ∧
      Beside w0 W' S (.slice A (readL s.log).1.length c) (readL s.log).1.length (cellsS (readL s.log).1) ∧ StAt w0 W' S g (srec s) ∧ Turn S S W W' :=
  (recover_any S g s W h.1 hl hn).mono fun _ _ ⟨A, c, he, hr, ho, hf, ht⟩ => ⟨A, c, he, ⟨hr, fun k hk => ⟨fun hs => by have h1 := ho k hk; have h2 := h.1.lt k hs; omega, Nat.le_trans h.2.1.size (ho k hk)⟩⟩, h.turn hf ht, ht⟩
end
theorem ne_law {w0 W : World} (h0 : Below w0.heap.size w0 W) (c : Int) (h1 : 64 ≤ c) (h2 : c ≤ 1048576) :
    Calls Try.prog 8 #[.int .i64 c] W fun e W' => e = .returned (.tuple #[.pointer (some ⟨W.heap.size, 0, none⟩), .int .i64 0]) ∧ StAt w0 W' (fun k => k = W.heap.size) W.heap.size ⟨[], ⟨#[]⟩, c, false, 0, false⟩ ∧ Below W.heap.size W W' :=
  (snew_any c W h1 h2).mono fun _ _ ⟨he, hf, hb⟩ => ⟨he, ⟨hf, h0.trans (hb.mono h0.size), fun k hk => by have := h0.size; omega⟩, hb⟩

set_option maxRecDepth 100000 in
set_option maxHeartbeats 1000000 in
theorem sshown_any (w : World) :
    Calls Try.prog 7 #[] w fun e w' => e = .returned (.bool true) ∧ Below w.heap.size w w' := by
  have HS := Lib.hid (fun (A B : Option Addr) (ca cb : Nat) (W : World) ha hb => same_any A B ca cb [bl sA] [bl sA] W ha hb (by unfold maxLen; decide) (by unfold maxLen; decide))
  simp only [decide_true] at HS
  have HF := Lib.hid (fun W : World => (show ArgAt (W.alloc (.cells #[.string sA] 9)) 1 (some ⟨W.heap.size, 0, none⟩) [bl sA].length (cellsS [bl sA]) from ArgAt.fresh [.string sA]))
  go_enter Try.func7, Try.ntmps7
  go_wp2_with fail
  refine (ne_law (Below.refl _ w) 100 (by decide) (by decide)).mono ?_
  rintro e W1 ⟨rfl, h1, _⟩
  replace h1 : StAt w W1 (fun k => k = w.heap.size) w.heap.size st0 := h1
  generalize w.heap.size = g at h1 ⊢
  go_wp2_with fail
  have c1 := wr_law h1 sA (by decide) (by decide) (by decide) (by decide) (by decide)
  rw [shA] at c1
  refine c1.mono ?_
  rintro e W2 ⟨rfl, S2, h2, _⟩
  go_wp2_with fail
  have c2 := cu_law h2 3
  (try dsimp only at c2)
  rw [shB] at c2
  refine c2.mono ?_
  rintro e W3 ⟨rfl, h3, _⟩
  go_wp2_with fail
  have c3 := wr_law h3 sB (by decide) (by show (recL (bl sA)).length ≤ _; rw [lenA]; decide) (by decide) (by decide) (by decide)
  (try dsimp only at c3)
  rw [shC] at c3
  refine c3.mono ?_
  rintro e W4 ⟨rfl, S4, h4, _⟩
  go_wp2_with fail
  have c4 := wr_law h4 sC (by decide) (by rw [len3]; decide) (by decide) (by decide) (by decide)
  (try dsimp only at c4)
  rw [shD] at c4
  refine c4.mono ?_
  rintro e W5 ⟨rfl, S5, h5, _⟩
  go_wp2_with fail
  have c5 := re_law h5 (by rw [len3]; decide) (by decide)
  rw [shE] at c5
  refine c5.mono ?_
  rintro e W6 ⟨A, c, rfl, r6, h6, _⟩
  clear c1 c2 c3 c4 c5 h1 h2 h3 h4 h5
  have HR := Lib.hid r6
  have HH := Lib.hid h6
  clear r6 h6
  generalize snapD st3.snap = sd at *
  go_wp2_with (first
    | (go_at_call 8; refine (snew_no 63 _ (by decide)).mono ?_; rintro e w7 ⟨rfl, rfl⟩)
    | (go_at_call 13; refine (HS.out _ _ _ _ _ (HR.out.arg.alloc _) (HF.out _)).mono ?_; rintro e w8 ⟨rfl, b8⟩))
  go_ret
  exact ⟨rfl, bt (bal HH.out.2.1 _) b8⟩

set_option maxHeartbeats 400000 in
theorem storeNone_walk (x : ByteArray) (n : Int) (w : World) :
    Calls Try.prog 6 #[.string x, .int .i64 n] w fun e w' => e = .returned (.bool true) ∧ Below w.heap.size w w' := by
  have n1 : ∀ W : World, Calls Try.prog 12 #[.pointer none] W fun e W' => e = .returned (.tuple #[.string ⟨#[]⟩, .slice none 0 0, .int .i64 1]) ∧ W = W' := by
    intro W
    go_enter Try.func12, Try.ntmps12
    go_wp2
    exact bodyPost_ret (results_tmp3 rfl _ _ _) rfl ⟨rfl, rfl⟩
  have n2 : ∀ W : World, Calls Try.prog 9 #[.pointer none, .string x] W fun e W' => e = .returned (.int .i64 1) ∧ W = W' := by
    intro W
    go_enter Try.func9, Try.ntmps9
    go_wp2
    go_ret
    exact ⟨rfl, rfl⟩
  have n3 : ∀ W : World, Calls Try.prog 15 #[.pointer none, .string x] W fun e W' => e = .returned (.int .i64 1) ∧ W = W' := by
    intro W
    go_enter Try.func15, Try.ntmps15
    go_wp2
    go_ret
    exact ⟨rfl, rfl⟩
  have n4 : ∀ W : World, Calls Try.prog 11 #[.pointer none, .int .i64 n] W fun e W' => e = .returned (.int .i64 1) ∧ W = W' := by
    intro W
    go_enter Try.func11, Try.ntmps11
    go_wp2
    go_ret
    exact ⟨rfl, rfl⟩
  have n5 : ∀ W : World, Calls Try.prog 10 #[.pointer none] W fun e W' => e = .returned (.int .i64 0) ∧ W = W' := by
    intro W
    go_enter Try.func10, Try.ntmps10
    go_wp2
    go_ret
    exact ⟨rfl, rfl⟩
  have n6 : ∀ W : World, Calls Try.prog 16 #[.pointer none] W fun e W' => e = .returned (.slice none 0 0) ∧ W = W' := by
    intro W
    go_enter Try.func16, Try.ntmps16
    go_wp2
    go_ret
    exact ⟨rfl, rfl⟩
  go_enter Try.func6, Try.ntmps6
  go_wp2_with (first
    | (go_at_call 7; refine (sshown_any _).mono ?_; rintro e w1 ⟨rfl, b1⟩)
    | (go_at_call 12; refine (n1 _).mono ?_; rintro e w2 ⟨rfl, rfl⟩)
    | (go_at_call 9; refine (n2 _).mono ?_; rintro e w2 ⟨rfl, rfl⟩)
    | (go_at_call 15; refine (n3 _).mono ?_; rintro e w2 ⟨rfl, rfl⟩)
    | (go_at_call 11; refine (n4 _).mono ?_; rintro e w2 ⟨rfl, rfl⟩)
    | (go_at_call 10; refine (n5 _).mono ?_; rintro e w2 ⟨rfl, rfl⟩)
    | (go_at_call 16; refine (n6 _).mono ?_; rintro e w2 ⟨rfl, rfl⟩))
  go_ret
  exact ⟨rfl, b1⟩
end Go.Proofs.Ytcepdmpdabiglaa
