/-
  BallotMost, walked. Conditions: none but the arguments' own.
-/
import Derived.Test.YtcfaeddjohpohaaBalS
import Derived.Laws.MakeOwn
set_option linter.unusedVariables false
namespace Ros
open Go Go.RowKit
/-- The first k votes are w. -/
def fillL (l : List Vt) (x : Vt) (k : Nat) : List Vt := List.replicate k x ++ l.drop k
theorem fillL_zero (l : List Vt) (x : Vt) : fillL l x 0 = l := by simp [fillL]
theorem fillL_length {l : List Vt} {x : Vt} {k : Nat} (h : k ≤ l.length) : (fillL l x k).length = l.length := by simp [fillL]; omega
theorem fillL_set {l : List Vt} {x : Vt} {k : Nat} (h : k < l.length) : (fillL l x k).set k x = fillL l x (k + 1) := by
  unfold fillL
  rw [List.set_append_right _ _ (by simp), List.length_replicate, Nat.sub_self, List.replicate_succ', List.append_assoc]
  congr 1
  rw [← List.getElem_cons_drop h]; rfl
theorem cells_set3 (l : List Vt) (i : Nat) (x : Vt) (hi : i < l.length) : ((((cellsVs l).set (i * 3) (.int .u64 (x.p : Int))).set (i * 3 + 1) (.int .u64 (x.b : Int))).set (i * 3 + 2) (.string x.s)) = cellsVs (l.set i x) := by
  induction l generalizing i with
  | nil => simp at hi
  | cons a t ih =>
    cases i with
    | zero => simp [cellsVs, cellsV]
    | succ i =>
      have := ih i (by simpa using hi)
      simp only [cellsVs, cellsV, List.flatMap_cons, List.set_cons_succ, List.cons_append, List.nil_append] at this ⊢
      rw [show (i + 1) * 3 = i * 3 + 2 + 1 by omega, show i * 3 + 2 + 1 + 1 = i * 3 + 1 + 1 + 1 + 1 by omega, show i * 3 + 2 + 1 + 2 = i * 3 + 2 + 1 + 1 + 1 by omega]
      simp only [List.set_cons_succ]
      rw [this]
theorem most_dec {l : List Vt} {x : Vt} {k : Nat} (hk : l.length < 2 * k) (hkl : k ≤ l.length) (h0 : 1 ≤ l.length) (h16 : l.length ≤ 16) (hb : 0 < x.b) (hxr : rightB x = true) :
    (mdec (fillL l x k)).2 = 0 → (mdec (fillL l x k)).1 = (x.s, true) := by
  intro h
  have hl := fillL_length (x := x) hkl
  by_cases hr : (fillL l x k).all rightB = true
  · rw [mdec_maj (v := x) (by omega) (by omega) hr (by unfold fillL; simp; omega) ?_]
    rw [majB_iff]
    refine ⟨hb, ?_⟩
    rw [hl]
    have : k ≤ cntV x.b x.s (fillL l x k) := by
      unfold cntV fillL
      rw [List.countP_append, List.countP_replicate]
      simp
    omega
  · rw [mdec_bad (by omega) (by omega) (by simpa using hr)] at h
    cases h
theorem Row.vote_ {w : World} {e : TypeId} {g n c k : Nat} {l : List Vt} (h : Row w e 3 (.slice (some ⟨g, 0, none⟩) n c) n (cellsVs l)) (hk : k < n) (hl : l.length = n) :
    ∃ u0 u1 u2, w.cell? ⟨g, k * 3, none⟩ = some u0 ∧ w.cell? ⟨g, k * 3 + 1, none⟩ = some u1 ∧ w.cell? ⟨g, k * 3 + 2, none⟩ = some u2 ∧ w.frozen? ⟨g, k * 3, none⟩ = false ∧ w.frozen? ⟨g, k * 3 + 1, none⟩ = false ∧ w.frozen? ⟨g, k * 3 + 2, none⟩ = false ∧ g < w.heap.size := by
  obtain ⟨g', c', hv, _, _, hg, hcs, hf⟩ := h.some_ (by omega)
  cases hv
  have hkl : k < l.length := by omega
  exact ⟨_, _, _, hcs (k * 3) _ (by have := flat_at cellsV_length l k 0 hkl (by omega); exact this), hcs (k * 3 + 1) _ (flat_at cellsV_length l k 1 hkl (by omega)), hcs (k * 3 + 2) _ (flat_at cellsV_length l k 2 hkl (by omega)), hf _, hf _, hf _, hg⟩
theorem Row.vset_ {w : World} {e : TypeId} {g n c k : Nat} {l : List Vt} (h : Row w e 3 (.slice (some ⟨g, 0, none⟩) n c) n (cellsVs l)) (hk : k < n) (hl : l.length = n) (x : Vt) :
    Row (((w.setCell ⟨g, k * 3, none⟩ (.int .u64 (x.p : Int))).setCell ⟨g, k * 3 + 1, none⟩ (.int .u64 (x.b : Int))).setCell ⟨g, k * 3 + 2, none⟩ (.string x.s)) e 3 (.slice (some ⟨g, 0, none⟩) n c) n (cellsVs (l.set k x)) := by
  have := ((h.set_ (j := k * 3) (by omega) (.int .u64 (x.p : Int))).set_ (j := k * 3 + 1) (by omega) (.int .u64 (x.b : Int))).set_ (j := k * 3 + 2) (by omega) (.string x.s)
  rwa [cells_set3 l k x (by omega)] at this
end Ros
namespace Go.Proofs.Ytcfaeddjohpohaa
open Go.RowKit Go.Shelf Ros
attribute [local go_sem] Oper.semAt_some
set_option linter.unusedVariables false

theorem made_votes : ∃ Z, (∀ w : World, (Instr.makeSlice 36 (.int .i64 0) (.int .i64 16)).run Try.prog w = .ok (.slice (some ⟨w.heap.size, 0, none⟩) 0 16) (w.alloc (.cells Z 24))) ∧ Z.size = 48 := by
  obtain ⟨i0, hi0, hz0, hz1, hz2⟩ := info_parts vote_info
  have h := fun w => run_makeSlice (P := Try.prog) w 36 24 i0 _ Try.underlying36 hi0 hz0 .i64 .i64 0 16 (by omega) (by omega) (by rw [hz1]; decide) (by rw [hz2]; decide) (by omega)
  refine ⟨madeCells _ (Int.toNat 16 * i0.size), fun w => h w, ?_⟩
  rw [hz1]
  simp [madeCells, Value.cells]

set_option maxRecDepth 100000 in
set_option maxHeartbeats 4000000 in
theorem ballotMost_walk (A : Option Addr) (m c : Nat) (xs : List Vt) (s : ByteArray) (b : Nat) (w : World) (ha : ArgAt w 3 A m (cellsVs xs)) (hx : ∀ x ∈ xs, okV x) (hm : xs.length = m) (hmc : m ≤ c) (hc : c ≤ maxLen) (hs : s.size ≤ maxLen) (hb : b < 18446744073709551616) :
    Calls Try.prog 5 #[.slice A m c, .string s, .int .u64 (b : Int)] w fun e w' => e = .returned (.bool true) ∧ Below w.heap.size w w' := by
  obtain ⟨i0, hi0, hz0, hz1, hz2⟩ := info_parts vote_info
  obtain ⟨Z, hmk, hZ⟩ := made_votes
  unfold maxLen at hc
  have hxs : ∀ x ∈ xs.take 16, okV x := fun x h => hx x (List.mem_of_mem_take h)
  have HS := Lib.hid (fun (W : World) (n' : Nat) (hn : n' = min m 16) (h : ArgAt W 3 A n' (cellsVs (xs.take 16))) => some_any A n' c (xs.take 16) W h hxs (by rw [List.length_take]; omega))
  have HA := Lib.hid (fun (W : World) (hW : Below w.heap.size w W) (n' : Nat) (hn : n' = min m 16) => show ArgAt W 3 A n' (cellsVs (xs.take 16)) from by
    have := (ha.below hW).take_ (k := n') (by omega)
    unfold cellsVs at this ⊢
    rw [flat_take cellsV_length] at this
    have e : xs.take n' = xs.take 16 := by
      by_cases h : m ≤ 16
      · rw [List.take_of_length_le (by omega), List.take_of_length_le (by omega)]
      · rw [show n' = 16 by omega]
    rwa [e] at this)
  have hsl : ∀ W : World, (Instr.slice 36 (.slice A m c) none (some (.int .i64 (m : Int))) none).run Try.prog W = .ok (.slice A m c) W := fun W => slice_h (P := Try.prog) Try.underlying36 hi0 A m c m hmc W
  have hsl2 : m ≤ 16 ∨ ∀ W : World, (Instr.slice 36 (.slice A m c) none (some (.int .i64 16)) none).run Try.prog W = .ok (.slice A 16 c) W := by
    by_cases h : m ≤ 16
    · exact .inl h
    · exact .inr fun W => slice_h (P := Try.prog) Try.underlying36 hi0 A m c 16 (by omega) W
  have hok := someL_ok (l := xs.take 16) fun x h => ⟨(hxs x h).1, (hxs x h).2.1⟩
  have hll : (someL (xs.take 16)).length ≤ 16 := by unfold someL; simp; omega
  have HCT := Lib.hid (fun w => cut_any s w hs)
  have hct := (cutV_size 4100 s).1
  clear hx hxs hm ha hs
  generalize cutV 4100 s = t at *
  generalize someL (xs.take 16) = l at *
  have HC := Lib.hid (fun w => cast_any vt0 b t w vt0_ok hb (by omega))
  have HOK := Lib.hid hok
  clear hok
  by_cases hcast : 1 ≤ b ∧ t.size ≤ 4000
  · rw [mcast_yes ⟨right_vt0, hcast.1, hcast.2⟩ (by show 0 ≤ b; omega)] at HC
    have HRX := Lib.hid (right_cast (n := b) (s := t) hcast.1 hcast.2)
    obtain ⟨hb1, ht1⟩ := hcast
    dsimp only [vt0] at HC
    by_cases h0 : l.length = 0
    · have hq0 : ((l.length : Int) == 0) = true := by rw [h0]; rfl
      clear h0 hll
      rcases Nat.lt_or_ge 16 m with h16 | h16
      · have hsl3 : ∀ W : World, (Instr.slice 36 (.slice A m c) none (some (.int .i64 16)) none).run Try.prog W = .ok (.slice A 16 c) W := by
          rcases hsl2 with h | h
          · omega
          · exact h
        have HE := Lib.hid (show 16 = min m 16 by omega)
        clear hsl2 hsl
        go_enter Try.func5, Try.ntmps5
        go_wp2_with (first
          | (go_at_call 10; refine (shown_any _).mono ?_; rintro e w1 ⟨rfl, b1⟩; have B1 := Lib.hid b1; clear b1)
          | (go_at_call 18; refine (HS.out _ _ HE.out (HA.out _ B1.out _ HE.out)).mono ?_; rintro e w2 ⟨A2, c2, rfl, hr2, ho2, b2⟩; have B2 := Lib.hid (bt' B1.out b2); clear hr2 b2 ho2)
          | (go_at_call 11; refine (HCT.out _).mono ?_; rintro e w3 ⟨rfl, rfl⟩)
          | (go_at_call 14; refine (HC.out _).mono ?_; rintro e w4 ⟨rfl, b4⟩; have B4 := Lib.hid (bt' B2.out b4); clear b4))
        all_goals
          go_ret
          exact ⟨rfl, B4.out.alloc B4.out.size _⟩
      · have HE := Lib.hid (show m = min m 16 by omega)
        clear hsl2
        go_enter Try.func5, Try.ntmps5
        go_wp2_with (first
          | (go_at_call 10; refine (shown_any _).mono ?_; rintro e w1 ⟨rfl, b1⟩; have B1 := Lib.hid b1; clear b1)
          | (go_at_call 18; refine (HS.out _ _ HE.out (HA.out _ B1.out _ HE.out)).mono ?_; rintro e w2 ⟨A2, c2, rfl, hr2, ho2, b2⟩; have B2 := Lib.hid (bt' B1.out b2); clear hr2 b2 ho2)
          | (go_at_call 11; refine (HCT.out _).mono ?_; rintro e w3 ⟨rfl, rfl⟩)
          | (go_at_call 14; refine (HC.out _).mono ?_; rintro e w4 ⟨rfl, b4⟩; have B4 := Lib.hid (bt' B2.out b4); clear b4))
        all_goals
          go_ret
          exact ⟨rfl, B4.out.alloc B4.out.size _⟩
    · have hq0 : ((l.length : Int) == 0) = false := beq_eq_false_iff_ne.2 (by omega)
      have HMD := Lib.hid (fun k h1 h2 => most_dec (l := l) (x := ⟨b, b, t⟩) (k := k) h1 h2 (by omega) hll (by show 0 < b; omega) HRX.out)
      have hb1' := Lib.hid (show 0 + l.length ≤ maxLen by unfold maxLen; omega)
      have hb2' := Lib.hid (show (0 + l.length) * 32 ≤ 140737488355328 by omega)
      have HMK := Lib.hid (fun (W : World) (o : Obj) => show Row ((W.alloc o).alloc (.cells Z 24)) 24 3 (.slice (some ⟨W.heap.size + 1, 0, none⟩) 0 16) 0 [] from ⟨by simp, .inr ⟨W.heap.size + 1, 16, Z, rfl, new2 W _ _, by omega, by unfold maxLen; omega, by omega, by simp⟩⟩)
      have HLP := Lib.hid (show 0 < l.length by omega)
      clear hZ
      rcases Nat.lt_or_ge 16 m with h16 | h16
      · have hsl3 : ∀ W : World, (Instr.slice 36 (.slice A m c) none (some (.int .i64 16)) none).run Try.prog W = .ok (.slice A 16 c) W := by
          rcases hsl2 with h | h
          · omega
          · exact h
        have HE := Lib.hid (show 16 = min m 16 by omega)
        clear hsl2 hsl
        go_enter Try.func5, Try.ntmps5
        go_wp2_with (first
          | (go_at_call 10; refine (shown_any _).mono ?_; rintro e w1 ⟨rfl, b1⟩; have B1 := Lib.hid b1; clear b1)
          | (go_at_call 18; refine (HS.out _ _ HE.out (HA.out _ B1.out _ HE.out)).mono ?_; rintro e w2 ⟨A2, c2, rfl, hr2, ho2, b2⟩; have B2 := Lib.hid (bt' B1.out b2); have R2 := Lib.hid (ArgAt.of_row hr2); clear hr2 b2 ho2)
          | (go_at_call 11; refine (HCT.out _).mono ?_; rintro e w3 ⟨rfl, rfl⟩)
          | (go_at_call 14; refine (HC.out _).mono ?_; rintro e w4 ⟨rfl, b4⟩; have B4 := Lib.hid (bt' B2.out b4); have R4 := Lib.hid (ArgAt.src (c := c2) Try.underlying36 (((R2.out.below b4).alloc (.cells #[.int .u64 (b : Int), .int .u64 (b : Int), .string t] 24)).alloc (.cells Z 24)) HLP.out (cellsVs_one l)); clear b4)
          | (at_builtin; refine wpList_append_row _ rfl (.tmp 39) (.tmp 40) _ _ rfl 24 i0 _ 3 32 Try.underlying36 hi0 hz0 hz1 hz2 rfl (.slice (some ⟨w4.heap.size + 1, 0, none⟩) 0 16) 0 [] rfl (HMK.out _ _) _ l.length _ rfl R4.out hb1'.out hb2'.out ?_; intro A5 c5 w5 hr5 hg5 hat5))
        simp only [Nat.zero_add, List.nil_append] at hr5
        obtain ⟨g5, c5', hv5, _, _, hg5l, _, _⟩ := hr5.some_ HLP.out
        cases hv5
        have hne5 : w4.heap.size < g5 := by
          rcases hat5 with e | e
          · simp [Value.ownBlock] at e; omega
          · simp [Value.ownBlock] at e; omega
        have hx5 := obj_grown (obj_alloc (World.alloc_heap_new w4 (.cells #[.int .u64 (b : Int), .int .u64 (b : Int), .string t] 24)) (.cells Z 24)) hg5 (fun e => by simp [Value.ownBlock] at e)
        have hb5 : Below w.heap.size w w5 := ((B4.out.alloc B4.out.size (.cells #[.int .u64 (b : Int), .int .u64 (b : Int), .string t] 24)).alloc (by have := B4.out.size; simp; omega) (.cells Z 24)).grown hg5 (by have := B4.out.size; simp; omega) (fun k e => by have := B4.out.size; simp [Value.ownBlock] at e; omega)
        have R5 := Lib.hid hr5
        have X5 := Lib.hid hx5
        have B5 := Lib.hid hb5
        clear hr5 hx5 hb5 hat5 hg5 hg5l hmk
        have hneq : w4.heap.size ≠ g5 := by omega
        go_loopw [11] (fun i wr => ∃ k : Nat, k ≤ l.length ∧ i = .int .i64 k ∧ Row wr 24 3 (.slice (some ⟨g5, 0, none⟩) l.length c5) l.length (cellsVs (fillL l ⟨b, b, t⟩ k)) ∧ wr.heap[w4.heap.size]? = some (.cells #[.int .u64 (b : Int), .int .u64 (b : Int), .string t] 24 (0, 0)) ∧ Below w.heap.size w wr) (fun i _ => l.length - (intOf i).toNat)
        case atStart => exact ⟨0, by omega, rfl, by rw [fillL_zero]; exact R5.out, X5.out, B5.out⟩
        case round =>
          obtain ⟨k, hk, rfl, hR, hX, hB⟩ := hrel
          by_cases hlt : 2 * k ≤ l.length
          · have hkl : k < l.length := by omega
            have hfl := fillL_length (x := ⟨b, b, t⟩) hk
            obtain ⟨u0, u1, u2, q0, q1, q2, f0, f1, f2, z⟩ := Row.vote_ hR hkl hfl
            obtain ⟨p0, p1, p2, _, _, _, zz⟩ := cells3 hX
            have HR2 := Lib.hid (fillL_set (x := ⟨b, b, t⟩) hkl ▸ Row.vset_ hR hkl hfl ⟨b, b, t⟩)
            have HX2 := Lib.hid (fun j u => obj_far (p := ⟨g5, j, none⟩) hX hneq u)
            have HX3 := Lib.hid hX
            have HB := Lib.hid hB
            have hwg : w.heap.size ≤ g5 := by have := B4.out.size; omega
            have hlt' : 2 * (k : Int) ≤ (l.length : Int) := by omega
            clear hR hX hB hfl
            go_wp2
            go_roundw
            case rel => exact ⟨k + 1, by omega, by go_num, HR2.out, obj_far (p := ⟨g5, _, none⟩) (obj_far (p := ⟨g5, _, none⟩) (obj_far (p := ⟨g5, _, none⟩) HX3.out hneq _) hneq _) hneq _, ((HB.out.setCell (p := ⟨g5, _, none⟩) hwg _).setCell (p := ⟨g5, _, none⟩) hwg _).setCell (p := ⟨g5, _, none⟩) hwg _⟩
            case measure => simp [intOf]; omega
          · have hfl := fillL_length (x := ⟨b, b, t⟩) hk
            have hlt' : ¬ 2 * (k : Int) ≤ (l.length : Int) := by omega
            have hokf : ∀ x ∈ fillL l ⟨b, b, t⟩ k, x.ok := fun x hx => by
              rcases List.mem_append.1 hx with h | h
              · rw [(List.mem_replicate.1 h).2]; exact ⟨hb, hb, by show t.size ≤ _; omega⟩
              · exact HOK.out x (List.mem_of_mem_drop h)
            have hD := decided_any (some ⟨g5, 0, none⟩) c5 (fillL l ⟨b, b, t⟩ k) wr (by rw [hfl]; exact ArgAt.of_row hR) (by rw [hfl]; unfold maxLen; omega) hokf
            rw [hfl] at hD
            have HM := Lib.hid (HMD.out k (by omega) hk)
            have HD := Lib.hid hD
            have HB := Lib.hid hB
            clear hR hX hB hfl hokf hD
            generalize mdec (fillL l ⟨b, b, t⟩ k) = q at *
            obtain ⟨⟨q1, q2⟩, q3⟩ := q
            dsimp only at HM HD
            by_cases h3 : q3 = 0
            · have hm := HM.out h3
              subst h3
              cases hm
              go_wp2_with (go_at_call 19; refine HD.out.mono ?_; rintro e w6 ⟨rfl, b6⟩; have B6 := Lib.hid (bt' HB.out b6); clear b6)
              go_ret
              exact ⟨by simp, B6.out⟩
            · have h3' : (q3 != 0) = true := by simpa using h3
              clear h3
              go_wp2_with (go_at_call 19; refine HD.out.mono ?_; rintro e w6 ⟨rfl, b6⟩; have B6 := Lib.hid (bt' HB.out b6); clear b6)
              go_ret
              exact ⟨by simp, B6.out⟩
      · have HE := Lib.hid (show m = min m 16 by omega)
        clear hsl2
        go_enter Try.func5, Try.ntmps5
        go_wp2_with (first
          | (go_at_call 10; refine (shown_any _).mono ?_; rintro e w1 ⟨rfl, b1⟩; have B1 := Lib.hid b1; clear b1)
          | (go_at_call 18; refine (HS.out _ _ HE.out (HA.out _ B1.out _ HE.out)).mono ?_; rintro e w2 ⟨A2, c2, rfl, hr2, ho2, b2⟩; have B2 := Lib.hid (bt' B1.out b2); have R2 := Lib.hid (ArgAt.of_row hr2); clear hr2 b2 ho2)
          | (go_at_call 11; refine (HCT.out _).mono ?_; rintro e w3 ⟨rfl, rfl⟩)
          | (go_at_call 14; refine (HC.out _).mono ?_; rintro e w4 ⟨rfl, b4⟩; have B4 := Lib.hid (bt' B2.out b4); have R4 := Lib.hid (ArgAt.src (c := c2) Try.underlying36 (((R2.out.below b4).alloc (.cells #[.int .u64 (b : Int), .int .u64 (b : Int), .string t] 24)).alloc (.cells Z 24)) HLP.out (cellsVs_one l)); clear b4)
          | (at_builtin; refine wpList_append_row _ rfl (.tmp 39) (.tmp 40) _ _ rfl 24 i0 _ 3 32 Try.underlying36 hi0 hz0 hz1 hz2 rfl (.slice (some ⟨w4.heap.size + 1, 0, none⟩) 0 16) 0 [] rfl (HMK.out _ _) _ l.length _ rfl R4.out hb1'.out hb2'.out ?_; intro A5 c5 w5 hr5 hg5 hat5))
        simp only [Nat.zero_add, List.nil_append] at hr5
        obtain ⟨g5, c5', hv5, _, _, hg5l, _, _⟩ := hr5.some_ HLP.out
        cases hv5
        have hne5 : w4.heap.size < g5 := by
          rcases hat5 with e | e
          · simp [Value.ownBlock] at e; omega
          · simp [Value.ownBlock] at e; omega
        have hx5 := obj_grown (obj_alloc (World.alloc_heap_new w4 (.cells #[.int .u64 (b : Int), .int .u64 (b : Int), .string t] 24)) (.cells Z 24)) hg5 (fun e => by simp [Value.ownBlock] at e)
        have hb5 : Below w.heap.size w w5 := ((B4.out.alloc B4.out.size (.cells #[.int .u64 (b : Int), .int .u64 (b : Int), .string t] 24)).alloc (by have := B4.out.size; simp; omega) (.cells Z 24)).grown hg5 (by have := B4.out.size; simp; omega) (fun k e => by have := B4.out.size; simp [Value.ownBlock] at e; omega)
        have R5 := Lib.hid hr5
        have X5 := Lib.hid hx5
        have B5 := Lib.hid hb5
        clear hr5 hx5 hb5 hat5 hg5 hg5l hmk
        have hneq : w4.heap.size ≠ g5 := by omega
        go_loopw [11] (fun i wr => ∃ k : Nat, k ≤ l.length ∧ i = .int .i64 k ∧ Row wr 24 3 (.slice (some ⟨g5, 0, none⟩) l.length c5) l.length (cellsVs (fillL l ⟨b, b, t⟩ k)) ∧ wr.heap[w4.heap.size]? = some (.cells #[.int .u64 (b : Int), .int .u64 (b : Int), .string t] 24 (0, 0)) ∧ Below w.heap.size w wr) (fun i _ => l.length - (intOf i).toNat)
        case atStart => exact ⟨0, by omega, rfl, by rw [fillL_zero]; exact R5.out, X5.out, B5.out⟩
        case round =>
          obtain ⟨k, hk, rfl, hR, hX, hB⟩ := hrel
          by_cases hlt : 2 * k ≤ l.length
          · have hkl : k < l.length := by omega
            have hfl := fillL_length (x := ⟨b, b, t⟩) hk
            obtain ⟨u0, u1, u2, q0, q1, q2, f0, f1, f2, z⟩ := Row.vote_ hR hkl hfl
            obtain ⟨p0, p1, p2, _, _, _, zz⟩ := cells3 hX
            have HR2 := Lib.hid (fillL_set (x := ⟨b, b, t⟩) hkl ▸ Row.vset_ hR hkl hfl ⟨b, b, t⟩)
            have HX2 := Lib.hid (fun j u => obj_far (p := ⟨g5, j, none⟩) hX hneq u)
            have HX3 := Lib.hid hX
            have HB := Lib.hid hB
            have hwg : w.heap.size ≤ g5 := by have := B4.out.size; omega
            have hlt' : 2 * (k : Int) ≤ (l.length : Int) := by omega
            clear hR hX hB hfl
            go_wp2
            go_roundw
            case rel => exact ⟨k + 1, by omega, by go_num, HR2.out, obj_far (p := ⟨g5, _, none⟩) (obj_far (p := ⟨g5, _, none⟩) (obj_far (p := ⟨g5, _, none⟩) HX3.out hneq _) hneq _) hneq _, ((HB.out.setCell (p := ⟨g5, _, none⟩) hwg _).setCell (p := ⟨g5, _, none⟩) hwg _).setCell (p := ⟨g5, _, none⟩) hwg _⟩
            case measure => simp [intOf]; omega
          · have hfl := fillL_length (x := ⟨b, b, t⟩) hk
            have hlt' : ¬ 2 * (k : Int) ≤ (l.length : Int) := by omega
            have hokf : ∀ x ∈ fillL l ⟨b, b, t⟩ k, x.ok := fun x hx => by
              rcases List.mem_append.1 hx with h | h
              · rw [(List.mem_replicate.1 h).2]; exact ⟨hb, hb, by show t.size ≤ _; omega⟩
              · exact HOK.out x (List.mem_of_mem_drop h)
            have hD := decided_any (some ⟨g5, 0, none⟩) c5 (fillL l ⟨b, b, t⟩ k) wr (by rw [hfl]; exact ArgAt.of_row hR) (by rw [hfl]; unfold maxLen; omega) hokf
            rw [hfl] at hD
            have HM := Lib.hid (HMD.out k (by omega) hk)
            have HD := Lib.hid hD
            have HB := Lib.hid hB
            clear hR hX hB hfl hokf hD
            generalize mdec (fillL l ⟨b, b, t⟩ k) = q at *
            obtain ⟨⟨q1, q2⟩, q3⟩ := q
            dsimp only at HM HD
            by_cases h3 : q3 = 0
            · have hm := HM.out h3
              subst h3
              cases hm
              go_wp2_with (go_at_call 19; refine HD.out.mono ?_; rintro e w6 ⟨rfl, b6⟩; have B6 := Lib.hid (bt' HB.out b6); clear b6)
              go_ret
              exact ⟨by simp, B6.out⟩
            · have h3' : (q3 != 0) = true := by simpa using h3
              clear h3
              go_wp2_with (go_at_call 19; refine HD.out.mono ?_; rintro e w6 ⟨rfl, b6⟩; have B6 := Lib.hid (bt' HB.out b6); clear b6)
              go_ret
              exact ⟨by simp, B6.out⟩
  · rw [mcast_bad (fun h => hcast h.2)] at HC
    clear hcast hll
    dsimp only [vt0] at HC
    rcases Nat.lt_or_ge 16 m with h16 | h16
    · have hsl3 : ∀ W : World, (Instr.slice 36 (.slice A m c) none (some (.int .i64 16)) none).run Try.prog W = .ok (.slice A 16 c) W := by
        rcases hsl2 with h | h
        · omega
        · exact h
      have HE := Lib.hid (show 16 = min m 16 by omega)
      clear hsl2 hsl
      go_enter Try.func5, Try.ntmps5
      go_wp2_with (first
        | (go_at_call 10; refine (shown_any _).mono ?_; rintro e w1 ⟨rfl, b1⟩; have B1 := Lib.hid b1; clear b1)
        | (go_at_call 18; refine (HS.out _ _ HE.out (HA.out _ B1.out _ HE.out)).mono ?_; rintro e w2 ⟨A2, c2, rfl, hr2, ho2, b2⟩; have B2 := Lib.hid (bt' B1.out b2); clear hr2 b2 ho2)
        | (go_at_call 11; refine (HCT.out _).mono ?_; rintro e w3 ⟨rfl, rfl⟩)
        | (go_at_call 14; refine (HC.out _).mono ?_; rintro e w4 ⟨rfl, b4⟩; have B4 := Lib.hid (bt' B2.out b4); clear b4))
      all_goals
        go_ret
        exact ⟨rfl, B4.out.alloc B4.out.size _⟩
    · have HE := Lib.hid (show m = min m 16 by omega)
      clear hsl2
      go_enter Try.func5, Try.ntmps5
      go_wp2_with (first
        | (go_at_call 10; refine (shown_any _).mono ?_; rintro e w1 ⟨rfl, b1⟩; have B1 := Lib.hid b1; clear b1)
        | (go_at_call 18; refine (HS.out _ _ HE.out (HA.out _ B1.out _ HE.out)).mono ?_; rintro e w2 ⟨A2, c2, rfl, hr2, ho2, b2⟩; have B2 := Lib.hid (bt' B1.out b2); clear hr2 b2 ho2)
        | (go_at_call 11; refine (HCT.out _).mono ?_; rintro e w3 ⟨rfl, rfl⟩)
        | (go_at_call 14; refine (HC.out _).mono ?_; rintro e w4 ⟨rfl, b4⟩; have B4 := Lib.hid (bt' B2.out b4); clear b4))
      all_goals
        go_ret
        exact ⟨rfl, B4.out.alloc B4.out.size _⟩
end Go.Proofs.Ytcfaeddjohpohaa
