/-
  The laws of store, walked: StoreKeeps. Conditions: none but the arguments' own.
-/
import Derived.Test.YtcepdmpdabiglaaStoQ
namespace Ros
open Go Go.RowKit
structure Ak where
  d : Int
  s : ByteArray
  n : Int
def cellsK (x : Ak) : List Value := [.int .i64 x.d, .string x.s, .int .i64 x.n]
theorem cellsK_length (x : Ak) : (cellsK x).length = 3 := rfl
def okK (x : Ak) : Prop := (-9223372036854775808 ≤ x.d ∧ x.d ≤ 9223372036854775807) ∧ x.s.size ≤ maxLen ∧ (-9223372036854775808 ≤ x.n ∧ x.n ≤ 9223372036854775807)
def cellsKs (l : List Ak) : List Value := l.flatMap cellsK
theorem act_at {w : World} {A : Option Addr} {l : List Ak} (h : ArgAt w 3 A l.length (cellsKs l)) (k : Nat) (hk : k < l.length) :
    ∃ a : Addr, A = some a ∧ w.cell? (a.add (k * 3)) = some (.int .i64 l[k].d) ∧ w.cell? ⟨(a.add (k * 3)).block, (a.add (k * 3)).off + 1, none⟩ = some (.string l[k].s) ∧ w.cell? ⟨(a.add (k * 3)).block, (a.add (k * 3)).off + 2, none⟩ = some (.int .i64 l[k].n) := by
  obtain ⟨a, hl, e, hb, hc⟩ := h.at_ cellsK_length (by omega) k hk
  refine ⟨a, e, ?_, add_pos' _ 1 (by omega) ▸ hc 1 _ (by omega) rfl, add_pos' _ 2 (by omega) ▸ hc 2 _ (by omega) rfl⟩
  have := hc 0 _ (by omega) rfl
  simpa [Addr.add] using this
/-- An act's data. -/
@[irreducible] def dataB (x : Ak) : ByteArray := if x.n = 99 then str (List.replicate 5000 0) else cutB 100 x.s
theorem dataB_big {x : Ak} (h : x.n = 99) : dataB x = str (List.replicate 5000 0) := by unfold dataB; rw [if_pos h]
theorem dataB_small {x : Ak} (h : x.n ≠ 99) : dataB x = cutB 100 x.s := by unfold dataB; rw [if_neg h]
theorem dataB_size (x : Ak) : (dataB x).size = 5000 ∨ (dataB x).size ≤ 100 := by
  by_cases h : x.n = 99
  · rw [dataB_big h, size_str, List.length_replicate]; exact .inl rfl
  · rw [dataB_small h]; exact .inr (cutB_size _ _)
theorem do5 (d : Int) : (IntKind.u64.wrap d).tmod 5 = 0 ∨ (IntKind.u64.wrap d).tmod 5 = 1 ∨ (IntKind.u64.wrap d).tmod 5 = 2 ∨ (IntKind.u64.wrap d).tmod 5 = 3 ∨ (IntKind.u64.wrap d).tmod 5 = 4 := by
  have h : IntKind.u64.wrap d = d % 18446744073709551616 := by rw [IntKind.wrap_u64]
  have h0 : 0 ≤ IntKind.u64.wrap d := by rw [h]; omega
  rw [Int.tmod_eq_emod_of_nonneg h0]
  omega
/-- What a store has kept behind k acts. -/
structure Kept (k : Nat) (ds : List (List UInt8)) (b sd : ByteArray) : Prop where
  len : ds.length ≤ k
  le : ∀ d ∈ ds, d.length ≤ 100
  bs : b.size ≤ 109
  snap : snapD b = sd
theorem Kept.recs {k : Nat} {ds : List (List UInt8)} {b sd : ByteArray} (h : Kept k ds b sd) (hk : k ≤ 60) : (Ros.recs ds).length ≤ 6540 := by
  have h1 := recs_length_le ds 100 h.le
  have h3 : ds.length * (100 + 9) ≤ 60 * (100 + 9) := Nat.mul_le_mul_right _ (Nat.le_trans h.len hk)
  omega
theorem Kept.more {k : Nat} {ds : List (List UInt8)} {b sd : ByteArray} (h : Kept k ds b sd) : Kept (k + 1) ds b sd := ⟨by have := h.len; omega, h.le, h.bs, h.snap⟩
theorem Kept.write {k : Nat} {ds : List (List UInt8)} {b sd d : ByteArray} (h : Kept k ds b sd) (hd : d.size ≤ 100) : Kept (k + 1) (ds ++ [bl d]) b sd :=
  ⟨by rw [List.length_append, List.length_singleton]; have := h.len; omega, fun x hx => by
    rcases List.mem_append.1 hx with h1 | h1
    · exact h.le x h1
    · rw [List.mem_singleton.1 h1, ← size_bl]; exact hd, h.bs, h.snap⟩
theorem Kept.take {k : Nat} {d : ByteArray} (hd : d.size ≤ 100) : Kept (k + 1) [] (str (recL (bl d))) d :=
  ⟨by simp, fun x hx => by simp at hx, by rw [rec_size]; omega, snapD_rec d (by omega)⟩
theorem Kept.none_ : Kept 0 [] ⟨#[]⟩ ⟨#[]⟩ := ⟨by simp, fun x hx => by simp at hx, by decide, snapD_none⟩
end Ros
namespace Go.Proofs.Ytcepdmpdabiglaa
open Go.RowKit Go.Shelf Ros
attribute [local go_sem] Oper.semAt_some
attribute [local go_sem ↓] Go.wp_at_zero Go.wp_at_succ
set_option linter.unusedVariables false

set_option maxRecDepth 100000 in
set_option maxHeartbeats 400000 in
theorem data_any (x : Ak) (w : World) (hs : x.s.size ≤ maxLen) :
    Calls Try.prog 14 #[.agg #[.int .i64 x.d, .string x.s, .int .i64 x.n]] w fun e w' => e = .returned (.string (dataB x)) ∧ Below w.heap.size w w' := by
  unfold maxLen at hs
  have HB := Lib.hid ((Below.refl _ w).alloc (Nat.le_refl _) (.cells #[.int .i64 x.d, .string x.s, .int .i64 x.n] 38))
  by_cases h : x.n = 99
  · rw [dataB_big h]
    have hmk := make_zeros 5000 (by decide)
    rw [show ((5000 : Nat) : Int) = 5000 from rfl] at hmk
    have hcv := conv_zeros 5000
    have hq : (x.n == 99) = true := by simpa using h
    generalize str (List.replicate 5000 0) = z at *
    generalize cellsOf (List.replicate 5000 0) = Z at *
    have H := Lib.hid h
    clear h
    obtain ⟨xd, xs, xn⟩ := x
    dsimp only at *
    have hcv2 := hcv (w.alloc (.cells #[.int .i64 xd, .string xs, .int .i64 xn] 38))
    rw [World.size_alloc] at hcv2
    clear hcv
    go_enter Try.func14, Try.ntmps14
    go_wp2
    go_ret
    exact ⟨rfl, bal HB.out _⟩
  · rw [dataB_small h]
    have hq : (x.n == 99) = false := by simpa using h
    obtain ⟨xd, xs, xn⟩ := x
    dsimp only at *
    rcases slice100 (P := Try.prog) Try.underlying9 xs with ⟨hno, hslx⟩ | ⟨hno, hslx⟩
    all_goals
      generalize cutB 100 xs = X at *
      go_enter Try.func14, Try.ntmps14
      go_wp2
      go_ret
      exact ⟨rfl, HB.out⟩

set_option maxRecDepth 100000 in
set_option maxHeartbeats 8000000 in
theorem storeKeeps_walk (A : Option Addr) (n c : Nat) (xs : List Ak) (w : World) (ha : ArgAt w 3 A n (cellsKs xs)) (hx : ∀ x ∈ xs, okK x) (hn : xs.length = n) :
    Calls Try.prog 4 #[.slice A n c] w fun e w' => e = .returned (.bool true) ∧ Below w.heap.size w w' := by
  obtain ⟨i0, hi0, hz0, hz1, hz2⟩ := info_parts str_info
  subst hn
  have HA := Lib.hid ha
  clear ha
  go_enter Try.func4, Try.ntmps4
  go_wp2_with (first
    | (go_at_call 7; refine (sshown_any _).mono ?_; rintro e W1 ⟨rfl, h1⟩)
    | (go_at_call 8; refine (ne_law h1 1048576 (by decide) (by decide)).mono ?_; rintro e W2 ⟨rfl, h2, _⟩; replace h2 : StAt w W2 (fun k => k = W1.heap.size) W1.heap.size (St.of [] ⟨#[]⟩) := h2; generalize W1.heap.size = g at h2 ⊢))
  go_loopw [6, 7, 8] (fun sn o i wr => ∃ (k : Nat) (S : Nat → Prop) (A1 : Option Addr) (c1 : Nat) (ds : List (List UInt8)) (b sd : ByteArray), k ≤ 60 ∧ k ≤ xs.length ∧ i = .int .i64 k ∧ sn = .string sd ∧ o = .slice A1 ds.length c1 ∧ Kept k ds b sd ∧ StAt w wr S g (St.of ds b) ∧
    Beside w wr S (.slice A1 ds.length c1) ds.length (cellsS ds)) (fun _ _ i _ => 60 - (intOf i).toNat)
  case atStart => exact ⟨0, _, none, 0, [], ⟨#[]⟩, ⟨#[]⟩, by omega, by omega, rfl, rfl, rfl, Kept.none_, h2, Row.nil _ _ _, fun k hk => by simp [Value.ownBlock] at hk⟩
  case round =>
    obtain ⟨k, S, A1, c1, ds, b, sd, hk, hkn, rfl, rfl, rfl, hK, hL, hB⟩ := hrel
    clear h2
    by_cases hlt : k < xs.length ∧ k < 60
    · obtain ⟨hl1, hl2⟩ := hlt
      obtain ⟨a, rfl, c0, c1', c2'⟩ := act_at (HA.out.below hL.2.1) k hl1
      have HCE := Lib.hid (fun (W : World) (hb : Below w.heap.size w W) => show W.cell? (a.add (k * 3)) = some (.int .i64 xs[k].d) from by
        obtain ⟨a', e, h, _⟩ := act_at (HA.out.below hb) k hl1
        cases e
        exact h)
      have hox := hx xs[k] (List.getElem_mem hl1)
      have HD := Lib.hid (fun W : World => data_any xs[k] W hox.2.1)
      have hsz := dataB_size xs[k]
      have hrl := hK.recs (by omega)
      have hbs := hK.bs
      have hm1 : ds.length + 1 ≤ maxLen := by have := hK.len; unfold maxLen; omega
      have hm2 : (ds.length + 1) * 16 ≤ 140737488355328 := by have := hK.len; omega
      have HW := Lib.hid (fun (W : World) (h : StAt w W S g (St.of ds b)) => wr_law h (dataB xs[k]) (by unfold maxLen; omega) (by rw [of_log]; omega) (by show b.size ≤ _; omega) cap64 cap20)
      have HN := Lib.hid (fun (W : World) (h : StAt w W S g (St.of ds b)) => sn_law h (dataB xs[k]) (by unfold maxLen; omega) cap64 cap20)
      have HL := Lib.hid hL
      have HB := Lib.hid hB
      have HK := Lib.hid hK
      have HCS := Lib.hid (cellsS_snoc ds (bl (dataB xs[k])))
      rw [str_bl] at HCS
      have HLN := Lib.hid (show (ds ++ [bl (dataB xs[k])]).length = ds.length + 1 by simp)
      have hsw : (dataB xs[k]).size ≤ 100 → swrite (St.of ds b) (dataB xs[k]) = (0, St.of (ds ++ [bl (dataB xs[k])]) b) := fun h => swrite_of ds b _ h (by omega)
      have hsn : (dataB xs[k]).size ≤ 100 → ssnap (St.of ds b) (dataB xs[k]) = (0, St.of [] (str (recL (bl (dataB xs[k]))))) := fun h => ssnap_of ds b _ h
      have hswb : (dataB xs[k]).size = 5000 → swrite (St.of ds b) (dataB xs[k]) = (30, St.of ds b) := fun h => swrite_big ds b _ (by omega)
      have hsnb : (dataB xs[k]).size = 5000 → ssnap (St.of ds b) (dataB xs[k]) = (30, St.of ds b) := fun h => ssnap_big ds b _ (by omega)
      have HKW := Lib.hid (fun h : (dataB xs[k]).size ≤ 100 => hK.write (d := dataB xs[k]) h)
      have HKT := Lib.hid (fun h : (dataB xs[k]).size ≤ 100 => Kept.take (k := k) (d := dataB xs[k]) h)
      have hdo := do5 xs[k].d
      clear hL hB hK hox hrl hbs
      generalize dataB xs[k] = d at *
      generalize xs[k].d = xd at *
      generalize xs[k].s = xs' at *
      generalize xs[k].n = xn at *
      rcases hdo with hm | hm | hm | hm | hm
      all_goals
        rcases hsz with hz | hz
      · rw [hswb hz] at HW
        dsimp only at HW
        clear hsw hsn hswb hsnb hm1 hm2
        go_wp2_with (first
          | (go_at_call 14; refine (HD.out _).mono ?_; rintro e w3 ⟨rfl, b3⟩; have H3 := Lib.hid (HL.out.below b3); have B3 := Lib.hid (HB.out.below b3); have cc := HCE.out _ H3.out.2.1)
          | (go_at_call 9; refine (HW.out _ H3.out).mono ?_; rintro e w4 ⟨rfl, S4, h4, t4⟩; have H4 := Lib.hid (h4.alloc (.cells #[.string d] 9)); have B4 := Lib.hid ((B3.out.turn t4).alloc (.cells #[.string d] 9)); have H5 := Lib.hid h4; have B5 := Lib.hid (B3.out.turn t4))
          | (go_at_call 15; refine (HN.out _ H3.out).mono ?_; rintro e w4 ⟨rfl, S4, h4, t4⟩; have H5 := Lib.hid h4; have B5 := Lib.hid (B3.out.turn t4))
          | (at_builtin; generalize hG : wpList _ _ _ _ _ _ = G))
        go_roundw
        case rel => exact ⟨k + 1, S4, A1, c1, ds, b, sd, by omega, by omega, by go_num, rfl, rfl, HK.out.more, H5.out, B5.out⟩
        case measure => simp [intOf]; omega
      · rw [hsw hz] at HW
        dsimp only at HW
        clear hsw hsn hswb hsnb
        go_wp2_with (first
          | (go_at_call 14; refine (HD.out _).mono ?_; rintro e w3 ⟨rfl, b3⟩; have H3 := Lib.hid (HL.out.below b3); have B3 := Lib.hid (HB.out.below b3); have cc := HCE.out _ H3.out.2.1)
          | (go_at_call 9; refine (HW.out _ H3.out).mono ?_; rintro e w4 ⟨rfl, S4, h4, t4⟩; have H4 := Lib.hid (h4.alloc (.cells #[.string d] 9)); have B4 := Lib.hid ((B3.out.turn t4).alloc (.cells #[.string d] 9)); have H5 := Lib.hid h4; have B5 := Lib.hid (B3.out.turn t4))
          | (go_at_call 15; refine (HN.out _ H3.out).mono ?_; rintro e w4 ⟨rfl, S4, h4, t4⟩; have H5 := Lib.hid h4; have B5 := Lib.hid (B3.out.turn t4))
          | (at_builtin; generalize hG : wpList _ _ _ _ _ _ = G))
        subst hG
        refine wpList_append_row _ rfl _ _ 22 22 rfl 9 i0 _ 1 16 Try.underlying22 hi0 hz0 hz1 hz2 rfl _ ds.length _ rfl B4.out.1 _ 1 [.string d] rfl (Src.ofSlice _ Try.underlying22 _ 1 1 _ rfl (cell_one_new _ _ _) (by simp [Value.oneCell'])) hm1 hm2 ?_
        intro A2 c2 w5 hr2 hg2 hat2
        rw [← HCS.out] at hr2
        have HBG := Lib.hid (both_grown H4.out B4.out hr2 hg2 hat2)
        clear hr2 hg2 hat2
        go_wp2
        go_roundw
        case rel => exact ⟨k + 1, S4, A2, c2, ds ++ [bl d], b, sd, by omega, by omega, by go_num, rfl, by rw [HLN.out], HKW.out hz, HBG.out.1, by rw [HLN.out]; exact HBG.out.2⟩
        case measure => simp [intOf]; omega
      · rw [hswb hz] at HW
        dsimp only at HW
        clear hsw hsn hswb hsnb hm1 hm2
        go_wp2_with (first
          | (go_at_call 14; refine (HD.out _).mono ?_; rintro e w3 ⟨rfl, b3⟩; have H3 := Lib.hid (HL.out.below b3); have B3 := Lib.hid (HB.out.below b3); have cc := HCE.out _ H3.out.2.1)
          | (go_at_call 9; refine (HW.out _ H3.out).mono ?_; rintro e w4 ⟨rfl, S4, h4, t4⟩; have H4 := Lib.hid (h4.alloc (.cells #[.string d] 9)); have B4 := Lib.hid ((B3.out.turn t4).alloc (.cells #[.string d] 9)); have H5 := Lib.hid h4; have B5 := Lib.hid (B3.out.turn t4))
          | (go_at_call 15; refine (HN.out _ H3.out).mono ?_; rintro e w4 ⟨rfl, S4, h4, t4⟩; have H5 := Lib.hid h4; have B5 := Lib.hid (B3.out.turn t4))
          | (at_builtin; generalize hG : wpList _ _ _ _ _ _ = G))
        go_roundw
        case rel => exact ⟨k + 1, S4, A1, c1, ds, b, sd, by omega, by omega, by go_num, rfl, rfl, HK.out.more, H5.out, B5.out⟩
        case measure => simp [intOf]; omega
      · rw [hsw hz] at HW
        dsimp only at HW
        clear hsw hsn hswb hsnb
        go_wp2_with (first
          | (go_at_call 14; refine (HD.out _).mono ?_; rintro e w3 ⟨rfl, b3⟩; have H3 := Lib.hid (HL.out.below b3); have B3 := Lib.hid (HB.out.below b3); have cc := HCE.out _ H3.out.2.1)
          | (go_at_call 9; refine (HW.out _ H3.out).mono ?_; rintro e w4 ⟨rfl, S4, h4, t4⟩; have H4 := Lib.hid (h4.alloc (.cells #[.string d] 9)); have B4 := Lib.hid ((B3.out.turn t4).alloc (.cells #[.string d] 9)); have H5 := Lib.hid h4; have B5 := Lib.hid (B3.out.turn t4))
          | (go_at_call 15; refine (HN.out _ H3.out).mono ?_; rintro e w4 ⟨rfl, S4, h4, t4⟩; have H5 := Lib.hid h4; have B5 := Lib.hid (B3.out.turn t4))
          | (at_builtin; generalize hG : wpList _ _ _ _ _ _ = G))
        subst hG
        refine wpList_append_row _ rfl _ _ 22 22 rfl 9 i0 _ 1 16 Try.underlying22 hi0 hz0 hz1 hz2 rfl _ ds.length _ rfl B4.out.1 _ 1 [.string d] rfl (Src.ofSlice _ Try.underlying22 _ 1 1 _ rfl (cell_one_new _ _ _) (by simp [Value.oneCell'])) hm1 hm2 ?_
        intro A2 c2 w5 hr2 hg2 hat2
        rw [← HCS.out] at hr2
        have HBG := Lib.hid (both_grown H4.out B4.out hr2 hg2 hat2)
        clear hr2 hg2 hat2
        go_wp2
        go_roundw
        case rel => exact ⟨k + 1, S4, A2, c2, ds ++ [bl d], b, sd, by omega, by omega, by go_num, rfl, by rw [HLN.out], HKW.out hz, HBG.out.1, by rw [HLN.out]; exact HBG.out.2⟩
        case measure => simp [intOf]; omega
      · rw [hsnb hz] at HN
        dsimp only at HN
        clear hsw hsn hswb hsnb hm1 hm2
        go_wp2_with (first
          | (go_at_call 14; refine (HD.out _).mono ?_; rintro e w3 ⟨rfl, b3⟩; have H3 := Lib.hid (HL.out.below b3); have B3 := Lib.hid (HB.out.below b3); have cc := HCE.out _ H3.out.2.1)
          | (go_at_call 9; refine (HW.out _ H3.out).mono ?_; rintro e w4 ⟨rfl, S4, h4, t4⟩; have H4 := Lib.hid (h4.alloc (.cells #[.string d] 9)); have B4 := Lib.hid ((B3.out.turn t4).alloc (.cells #[.string d] 9)); have H5 := Lib.hid h4; have B5 := Lib.hid (B3.out.turn t4))
          | (go_at_call 15; refine (HN.out _ H3.out).mono ?_; rintro e w4 ⟨rfl, S4, h4, t4⟩; have H5 := Lib.hid h4; have B5 := Lib.hid (B3.out.turn t4))
          | (at_builtin; generalize hG : wpList _ _ _ _ _ _ = G))
        go_roundw
        case rel => exact ⟨k + 1, S4, A1, c1, ds, b, sd, by omega, by omega, by go_num, rfl, rfl, HK.out.more, H5.out, B5.out⟩
        case measure => simp [intOf]; omega
      · rw [hsn hz] at HN
        dsimp only at HN
        clear hsw hsn hswb hsnb hm1 hm2
        go_wp2_with (first
          | (go_at_call 14; refine (HD.out _).mono ?_; rintro e w3 ⟨rfl, b3⟩; have H3 := Lib.hid (HL.out.below b3); have B3 := Lib.hid (HB.out.below b3); have cc := HCE.out _ H3.out.2.1)
          | (go_at_call 9; refine (HW.out _ H3.out).mono ?_; rintro e w4 ⟨rfl, S4, h4, t4⟩; have H4 := Lib.hid (h4.alloc (.cells #[.string d] 9)); have B4 := Lib.hid ((B3.out.turn t4).alloc (.cells #[.string d] 9)); have H5 := Lib.hid h4; have B5 := Lib.hid (B3.out.turn t4))
          | (go_at_call 15; refine (HN.out _ H3.out).mono ?_; rintro e w4 ⟨rfl, S4, h4, t4⟩; have H5 := Lib.hid h4; have B5 := Lib.hid (B3.out.turn t4))
          | (at_builtin; generalize hG : wpList _ _ _ _ _ _ = G))
        go_roundw
        case rel => exact ⟨k + 1, S4, none, 0, [], str (recL (bl d)), d, by omega, by omega, by go_num, rfl, rfl, HKT.out hz, H5.out, Row.nil _ _ _, fun k hk => by simp [Value.ownBlock] at hk⟩
        case measure => simp [intOf]; omega
      · clear hsw hsn hswb hsnb hm1 hm2
        go_wp2_with (first
          | (go_at_call 14; refine (HD.out _).mono ?_; rintro e w3 ⟨rfl, b3⟩; have H3 := Lib.hid (HL.out.below b3); have B3 := Lib.hid (HB.out.below b3); have cc := HCE.out _ H3.out.2.1)
          | (go_at_call 9; refine (HW.out _ H3.out).mono ?_; rintro e w4 ⟨rfl, S4, h4, t4⟩; have H4 := Lib.hid (h4.alloc (.cells #[.string d] 9)); have B4 := Lib.hid ((B3.out.turn t4).alloc (.cells #[.string d] 9)); have H5 := Lib.hid h4; have B5 := Lib.hid (B3.out.turn t4))
          | (go_at_call 15; refine (HN.out _ H3.out).mono ?_; rintro e w4 ⟨rfl, S4, h4, t4⟩; have H5 := Lib.hid h4; have B5 := Lib.hid (B3.out.turn t4))
          | (at_builtin; generalize hG : wpList _ _ _ _ _ _ = G))
        go_roundw
        case rel => exact ⟨k + 1, S, A1, c1, ds, b, sd, by omega, by omega, by go_num, rfl, rfl, HK.out.more, H3.out, B3.out⟩
        case measure => simp [intOf]; omega
      · clear hsw hsn hswb hsnb hm1 hm2
        go_wp2_with (first
          | (go_at_call 14; refine (HD.out _).mono ?_; rintro e w3 ⟨rfl, b3⟩; have H3 := Lib.hid (HL.out.below b3); have B3 := Lib.hid (HB.out.below b3); have cc := HCE.out _ H3.out.2.1)
          | (go_at_call 9; refine (HW.out _ H3.out).mono ?_; rintro e w4 ⟨rfl, S4, h4, t4⟩; have H4 := Lib.hid (h4.alloc (.cells #[.string d] 9)); have B4 := Lib.hid ((B3.out.turn t4).alloc (.cells #[.string d] 9)); have H5 := Lib.hid h4; have B5 := Lib.hid (B3.out.turn t4))
          | (go_at_call 15; refine (HN.out _ H3.out).mono ?_; rintro e w4 ⟨rfl, S4, h4, t4⟩; have H5 := Lib.hid h4; have B5 := Lib.hid (B3.out.turn t4))
          | (at_builtin; generalize hG : wpList _ _ _ _ _ _ = G))
        go_roundw
        case rel => exact ⟨k + 1, S, A1, c1, ds, b, sd, by omega, by omega, by go_num, rfl, rfl, HK.out.more, H3.out, B3.out⟩
        case measure => simp [intOf]; omega
      · clear hsw hsn hswb hsnb hm1 hm2
        go_wp2_with (first
          | (go_at_call 14; refine (HD.out _).mono ?_; rintro e w3 ⟨rfl, b3⟩; have H3 := Lib.hid (HL.out.below b3); have B3 := Lib.hid (HB.out.below b3); have cc := HCE.out _ H3.out.2.1)
          | (go_at_call 9; refine (HW.out _ H3.out).mono ?_; rintro e w4 ⟨rfl, S4, h4, t4⟩; have H4 := Lib.hid (h4.alloc (.cells #[.string d] 9)); have B4 := Lib.hid ((B3.out.turn t4).alloc (.cells #[.string d] 9)); have H5 := Lib.hid h4; have B5 := Lib.hid (B3.out.turn t4))
          | (go_at_call 15; refine (HN.out _ H3.out).mono ?_; rintro e w4 ⟨rfl, S4, h4, t4⟩; have H5 := Lib.hid h4; have B5 := Lib.hid (B3.out.turn t4))
          | (at_builtin; generalize hG : wpList _ _ _ _ _ _ = G))
        go_roundw
        case rel => exact ⟨k + 1, S, A1, c1, ds, b, sd, by omega, by omega, by go_num, rfl, rfl, HK.out.more, H3.out, B3.out⟩
        case measure => simp [intOf]; omega
      · clear hsw hsn hswb hsnb hm1 hm2
        go_wp2_with (first
          | (go_at_call 14; refine (HD.out _).mono ?_; rintro e w3 ⟨rfl, b3⟩; have H3 := Lib.hid (HL.out.below b3); have B3 := Lib.hid (HB.out.below b3); have cc := HCE.out _ H3.out.2.1)
          | (go_at_call 9; refine (HW.out _ H3.out).mono ?_; rintro e w4 ⟨rfl, S4, h4, t4⟩; have H4 := Lib.hid (h4.alloc (.cells #[.string d] 9)); have B4 := Lib.hid ((B3.out.turn t4).alloc (.cells #[.string d] 9)); have H5 := Lib.hid h4; have B5 := Lib.hid (B3.out.turn t4))
          | (go_at_call 15; refine (HN.out _ H3.out).mono ?_; rintro e w4 ⟨rfl, S4, h4, t4⟩; have H5 := Lib.hid h4; have B5 := Lib.hid (B3.out.turn t4))
          | (at_builtin; generalize hG : wpList _ _ _ _ _ _ = G))
        go_roundw
        case rel => exact ⟨k + 1, S, A1, c1, ds, b, sd, by omega, by omega, by go_num, rfl, rfl, HK.out.more, H3.out, B3.out⟩
        case measure => simp [intOf]; omega
    · have hrl := hK.recs hk
      have hdl := hK.len
      have h4 : ∀ d ∈ ds, d.length ≤ 4096 := fun d hd => Nat.le_trans (hK.le d hd) (by omega)
      have hb9 := hK.bs
      have HR := Lib.hid (fun (W : World) (h : StAt w W S g (St.of ds b)) => re_law h (by rw [of_log]; omega) (by show b.size ≤ _; omega))
      have hsr : srec (St.of ds b) = St.of ds b := srec_of ds b 0 false h4
      rw [hsr, of_log, read_recs' ds h4, show (St.of ds b).snap = b from rfl, hK.snap] at HR
      dsimp only at HR
      have HS := Lib.hid (fun (A B : Option Addr) (ca cb : Nat) (W : World) ha hb => same_any A B ca cb ds ds W ha hb (by unfold maxLen; omega) (by unfold maxLen; omega))
      simp only [decide_true] at HS
      have HL := Lib.hid hL
      have HB := Lib.hid hB
      have HF : Hid (∀ W S' v n' xs', Beside w W S' v n' xs' → True) := Lib.hid fun _ _ _ _ _ _ => trivial
      clear h4 hsr hrl hL hB hK hdl hb9
      generalize St.of ds b = s1 at *
      generalize cellsS ds = cs at *
      generalize ds.length = nd at *
      go_wp2_with (first
        | (go_at_call 12; (with_reducible refine (HR.out _ HL.out).mono ?_); rintro e W5 ⟨A5, c5, rfl, r5, h5, t5⟩; have B5 := Lib.hid (HB.out.turn t5); clear HL)
        | (go_at_call 12; (with_reducible refine (HR.out _ h5).mono ?_); rintro e W6 ⟨A6, c6, rfl, r6, h6, t6⟩; have B6 := Lib.hid (B5.out.turn t6); have R6 := Lib.hid (r5.turn t6))
        | (go_at_call 13; (with_reducible refine (HS.out _ _ _ _ _ R6.out.arg B6.out.arg).mono ?_); rintro e W7 ⟨rfl, b7⟩)
        | (go_at_call 13; (with_reducible refine (HS.out _ _ _ _ _ (r6.below b7).arg (B6.out.below b7).arg).mono ?_); rintro e W8 ⟨rfl, b8⟩))
      all_goals
        go_ret
        exact ⟨rfl, bt (bt h6.2.1 b7) b8⟩
section
open Go.Joins Go.ChangeShapes Go.WideShapes Go.Deep
variable {H : Type} {enc : TypeId × Value → H} {w : World} {base : Nat} {spare : Nat → Bool} {held : Bool}
theorem open_keeps {A : Option Addr} {l c : Nat} {d : DataW H} {p : List MemPlace} (h : DataW.Trod enc Try.prog w base (fun _ => true) held 35 (.slice A l c) d p) : ∃ xs : List Ak, ArgAt w 3 A l (cellsKs xs) ∧ (∀ x ∈ xs, okK x) ∧ xs.length = l := by
  obtain ⟨xs, h0, h1, h2, _⟩ := open_argN cellsK okK Try.underlying35 Try.underlying38 (by kernel_rfl) (by kernel_rfl) cellsK_length (fun vs hvs hf => by
    match vs, hvs with
    | [v0, v1, v2], _ =>
      obtain ⟨k0, y0, t0⟩ := hf 0 _ v0 rfl rfl
      obtain ⟨k1, y1, t1⟩ := hf 1 _ v1 rfl rfl
      obtain ⟨k2, y2, t2⟩ := hf 2 _ v2 rfl rfl
      obtain ⟨n0, e0, _, w0⟩ := DataW.trod_int Try.underlying3 t0
      obtain ⟨s1, e1, _, w1⟩ := DataW.trod_string Try.underlying9 t1
      obtain ⟨n2, e2, _, w2⟩ := DataW.trod_int Try.underlying3 t2
      cases e0; cases e1; cases e2
      exact ⟨⟨n0, s1, n2⟩, rfl, rng64' w0, w1, rng64' w2⟩) (by show 0 < 3; omega) h
  exact ⟨xs, h1, h2, h0⟩
end
end Go.Proofs.Ytcepdmpdabiglaa
