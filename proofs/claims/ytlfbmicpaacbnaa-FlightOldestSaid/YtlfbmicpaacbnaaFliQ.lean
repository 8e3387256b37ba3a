/-
  FlightOldest, walked. Conditions: none but the arguments' own.
-/
import Derived.Test.YtlfbmicpaacbnaaFliW
import Derived.BigQuiet
import Derived.Deep.QuietTactic
namespace Ros
open Go Go.RowKit
def isTo (to : Int) (x : Nt) : Bool := x.to == to
def toIds (l : List Nt) : List Nat := (l.filter (isTo 3)).map (·.id)
theorem toIds_snoc (l : List Nt) (x : Nt) : toIds (l ++ [x]) = if x.to = 3 then toIds l ++ [x.id] else toIds l := by
  unfold toIds isTo
  by_cases h : x.to = 3 <;> simp [List.filter_append, h]
theorem mold_first (l : List Nt) (to : Int) (h : l.filter (isTo to) ≠ []) : ∃ (k : Nat) (hk : k < l.length), mold l to = (k : Int) ∧ l[k].to = to ∧ l.filter (isTo to) = l[k] :: (l.eraseIdx k).filter (isTo to) := by
  induction l with
  | nil => simp at h
  | cons a t ih =>
    by_cases ha : a.to = to
    · refine ⟨0, by simp, ?_, by simpa using ha, by simp [isTo, ha]⟩
      unfold mold; simp [List.findIdx?_cons, ha]
    · have hf : (a :: t).filter (isTo to) = t.filter (isTo to) := by simp [isTo, ha]
      rw [hf] at h
      obtain ⟨k, hk, h1, h2, h3⟩ := ih h
      refine ⟨k + 1, by simpa using hk, ?_, by simpa using h2, ?_⟩
      · unfold mold at h1 ⊢
        rw [List.findIdx?_cons]
        have hb : (a.to == to) = false := by simpa using ha
        rw [hb]
        cases hfi : t.findIdx? (fun x => x.to == to) with
        | none => rw [hfi] at h1; simp only [] at h1; omega
        | some i => rw [hfi] at h1; simp only [] at h1; simp; omega
      · rw [hf, h3]; simp [isTo, ha]
theorem mold_none' (l : List Nt) (to : Int) (h : l.filter (isTo to) = []) : mold l to = -1 := mold_none fun j hj e => by
  have : l[j] ∈ l.filter (isTo to) := List.mem_filter.2 ⟨List.getElem_mem hj, by simp [isTo, e]⟩
  rw [h] at this; simp at this
theorem send_ok {f : Fs} {c : Int} {k : Nat} (hl : f.l.length = k) (hn : f.n = k) (hk : k < 60) (h0 : 0 ≤ c) (h1 : c < 16) (s : ByteArray) : msend f c s = ((k + 1, 0), ⟨k + 1, f.l ++ [⟨k + 1, c, s⟩]⟩) := by
  unfold msend mlaunch
  rw [if_neg (by omega), if_neg (by omega), hn, Nat.mod_eq_of_lt (by omega)]
theorem take_ok {f : Fs} {ids : List Nat} {j : Nat} (h : toIds f.l = ids.drop j) (hj : j < ids.length) : ∃ x : Nt, (mtake f (mold f.l 3)).1 = (x, 0) ∧ x.id = ids[j] ∧ x.to = 3 ∧ toIds (mtake f (mold f.l 3)).2.l = ids.drop (j + 1) ∧ (mtake f (mold f.l 3)).2.l.length ≤ f.l.length := by
  have hne : f.l.filter (isTo 3) ≠ [] := by
    intro e
    unfold toIds at h
    rw [e] at h
    have := congrArg List.length h
    simp at this; omega
  obtain ⟨k, hk, h1, h2, h3⟩ := mold_first f.l 3 hne
  have hd : ids.drop j = ids[j] :: ids.drop (j + 1) := (List.getElem_cons_drop hj).symm
  unfold toIds at h
  rw [h3, hd, List.map_cons] at h
  have hg : f.l.getD ((k : Int).toNat) nt0 = f.l[k] := by simp [hk]
  have hi : isB f.l (k : Int) = true := isB_iff.2 (by omega)
  refine ⟨f.l[k], ?_, (List.cons.inj h).1, h2, ?_, ?_⟩
  · unfold mtake; rw [h1, if_pos hi, hg]
  · unfold mtake; rw [h1, if_pos hi]; exact (List.cons.inj h).2
  · unfold mtake; rw [h1, if_pos hi]; exact (List.eraseIdx_sublist _ _).length_le
theorem and15 (x : Int) : ∃ c : Int, bits .and .i64 x 15 = c ∧ 0 ≤ c ∧ c < 16 := by
  refine ⟨_, rfl, ?_⟩
  have h : (BitVec.ofInt 64 x &&& BitVec.ofInt 64 15).toNat ≤ 15 := by
    rw [BitVec.toNat_and]
    exact Nat.and_le_right
  show 0 ≤ IntKind.i64.wrap ((BitVec.ofInt 64 x &&& BitVec.ofInt 64 15).toNat : Int) ∧ IntKind.i64.wrap ((BitVec.ofInt 64 x &&& BitVec.ofInt 64 15).toNat : Int) < 16
  rw [IntWalk.i64_in _ (by omega)]
  omega
def cellsU (l : List Nat) : List Value := l.map fun n : Nat => Value.int .u32 (n : Int)
theorem cellsU_snoc (l : List Nat) (n : Nat) : cellsU (l ++ [n]) = cellsU l ++ [.int .u32 (n : Int)] := by simp [cellsU]
theorem cellsU_one (l : List Nat) : ∀ u ∈ cellsU l, u.oneCell' = true := by
  intro u hu
  obtain ⟨n, _, rfl⟩ := List.mem_map.1 hu
  rfl
end Ros
namespace Go.Proofs.Ytlfbmicpaacbnaa
open Go.RowKit Go.Shelf Ros
attribute [local go_sem] Oper.semAt_some
attribute [local go_sem ↓] Go.wp_at_zero Go.wp_at_succ

theorem u32_info : (Try.prog.info? 26).map (fun i => (i.zero, i.size, i.bytes)) = some (some (.int .u32 0), 1, 4) := by kernel_rfl

set_option maxRecDepth 100000 in
set_option maxHeartbeats 4000000 in
theorem flightOldest_walk (A : Option Addr) (n c : Nat) (xs : List Int) (w : World) (ha : ArgAt w 1 A n (xs.map (Value.int .i64))) :
    Calls Try.prog 6 #[.slice A n c] w fun e w' => e = .returned (.bool true) ∧ Below w.heap.size w w' := by
  obtain ⟨i0, hi0, hz0, hz1, hz2⟩ := info_parts u32_info
  have HA := Lib.hid ha
  clear ha
  go_enter Try.func6, Try.ntmps6
  go_wp2_with (first | (go_at_call 10; refine (shown_any _).mono ?_; rintro e W1 ⟨rfl, h1⟩) | (go_at_call 11; refine (new_law h1).mono ?_; rintro e W2 ⟨rfl, h2, _⟩; generalize W1.heap.size = g at h2 ⊢))
  go_loopw [5, 6] (fun want i wr => ∃ (k : Nat) (S : Nat → Prop) (f : Fs) (A1 : Option Addr) (c1 : Nat), k ≤ 60 ∧ k ≤ n ∧ i = .int .i64 k ∧ want = .slice A1 (toIds f.l).length c1 ∧ f.l.length = k ∧ f.n = k ∧ (toIds f.l).length ≤ k ∧
    ByRow w wr S g f 26 1 (.slice A1 (toIds f.l).length c1) (toIds f.l).length (cellsU (toIds f.l))) (fun _ i _ => 60 - (intOf i).toNat)
  case atStart => exact ⟨0, _, ⟨0, []⟩, none, 0, by omega, by omega, rfl, rfl, rfl, rfl, Nat.le_refl _, h2, Row.nil W2 26 1, fun k hk => by simp [Value.ownBlock] at hk⟩
  case round =>
    obtain ⟨k, S, f, A1, c1, hk, hkn, rfl, rfl, hfl, hfn, hti, hL⟩ := hrel
    clear h2
    by_cases hlt : k < n ∧ k < 60
    · obtain ⟨hl1, hl2⟩ := hlt
      obtain ⟨a, hlx, rfl, _, c0⟩ := (HA.out.below hL.1.2.1).one k hl1
      have HC3 := Lib.hid (fun (W : World) (hb : Below w.heap.size w W) => show W.cell? (a.add k) = some (.int .i64 xs[k]) from by
        obtain ⟨a', _, e, _, h⟩ := (HA.out.below hb).one k hl1
        cases e
        exact h)
      generalize xs[k] = x at *
      obtain ⟨cc, hcc, hc0, hc1⟩ := and15 x
      have hs := send_ok hfl hfn hl2 hc0 hc1 ⟨#[]⟩
      have HS := Lib.hid (send_by hL (by omega) cc ⟨#[]⟩)
      rw [hs] at HS
      have hsn := toIds_snoc f.l ⟨k + 1, cc, ⟨#[]⟩⟩
      have HF := Lib.hid (show (f.l ++ [(⟨k + 1, cc, ⟨#[]⟩⟩ : Nt)]).length = k + 1 by simp [hfl])
      clear hL hs hfl hfn
      dsimp only at HS hsn
      obtain ⟨N, hN⟩ : ∃ N, N = k + 1 := ⟨_, rfl⟩
      rw [← hN] at HS hsn HF
      have HN := Lib.hid hN
      clear hN
      generalize f.l ++ [(⟨N, cc, ⟨#[]⟩⟩ : Nt)] = l2 at *
      by_cases h3 : cc = 3
      · rw [if_pos h3] at hsn
        subst h3
        have HSN := Lib.hid hsn
        have ht1 := Lib.hid (show (toIds f.l).length + 1 ≤ maxLen by unfold maxLen; omega)
        have ht2 := Lib.hid (show ((toIds f.l).length + 1) * 4 ≤ 140737488355328 by omega)
        have hsrc := Lib.hid (fun (W : World) => Src.ofSlice (P := Try.prog) (size := 1) (W.alloc (.cells #[.int .u32 (N : Int)] 26)) Try.underlying48 ⟨W.heap.size, 0, none⟩ 1 1 [.int .u32 (N : Int)] rfl (World.news_of_block (World.alloc_heap_new W _)) (by intro u hu; simp at hu; subst hu; rfl))
        clear hsn
        go_wp2_with (first
          | (go_at_call 12; refine HS.out.mono ?_; rintro e W3 ⟨rfl, S3, h3⟩; have c3 := HC3.out W3 h3.1.2.1; have H3 := Lib.hid h3; clear h3)
          | (at_builtin; refine wpList_append_row _ rfl (.tmp 42) (.tmp 44) _ _ rfl 26 i0 _ 1 4 Try.underlying48 hi0 hz0 hz1 hz2 rfl (.slice A1 (toIds f.l).length c1) (toIds f.l).length _ rfl (H3.out.2.1.alloc _) _ 1 _ rfl (hsrc.out _) ht1.out ht2.out ?_; intro A2 c2 w2 hr2 hg2 hat2))
        have HY := (H3.out.alloc (.cells #[.int .u32 (N : Int)] 26)).grown hr2 hg2 hat2
        rw [← cellsU_snoc, ← HSN.out] at HY
        have HLn := Lib.hid (show (toIds f.l).length + 1 = (toIds l2).length by rw [HSN.out]; simp)
        have HYY := Lib.hid HY
        clear HY hr2 hg2 hat2
        go_roundw
        case rel => exact ⟨N, S3, ⟨N, l2⟩, A2, c2, by have := HN.out; omega, by have := HN.out; omega, by rw [HN.out]; go_num, by rw [HLn.out], by rw [HN.out]; exact HF.out.trans HN.out, rfl, by rw [← HLn.out]; have := HN.out; omega, by rw [HLn.out] at HYY; exact HYY.out⟩
        case measure => simp [intOf]; omega
      · rw [if_neg h3] at hsn
        have h3' : (cc == 3) = false := by simpa using h3
        have HSN := Lib.hid hsn
        clear hsn h3
        go_wp2_with (go_at_call 12; refine HS.out.mono ?_; rintro e W3 ⟨rfl, S3, h3⟩; have c3 := HC3.out W3 h3.1.2.1; have H3 := Lib.hid h3; clear h3)
        go_roundw
        case rel => exact ⟨N, S3, ⟨N, l2⟩, A1, c1, by have := HN.out; omega, by have := HN.out; omega, by rw [HN.out]; go_num, by rw [HSN.out], by rw [HN.out]; exact HF.out.trans HN.out, rfl, by rw [HSN.out]; have := HN.out; omega, by simp only []; rw [HSN.out]; exact H3.out⟩
        case measure => simp [intOf]; omega
    · have hlen := hti
      have HIds := Lib.hid (show toIds f.l = (toIds f.l).drop 0 by simp)
      have HLf := Lib.hid (show f.l.length ≤ 60 by omega)
      generalize hids : toIds f.l = ids at hL hti HIds ⊢
      have HI := Lib.hid (hids.symm ▸ HIds.out : toIds f.l = ids.drop 0)
      clear hids HIds
      have HL := Lib.hid hL
      clear hL hfl hfn
      have hil : ids.length ≤ 60 := by omega
      go_wp2
      all_goals
        go_loopw [9] (fun i wr => ∃ (j : Nat) (S : Nat → Prop) (f : Fs), j ≤ ids.length ∧ i = .int .i64 j ∧ f.l.length ≤ 60 ∧ toIds f.l = ids.drop j ∧ ByRow w wr S g f 26 1 (.slice A1 ids.length c1) ids.length (cellsU ids)) (fun i _ => ids.length - (intOf i).toNat)
        case atStart => exact ⟨0, S, f, by omega, rfl, HLf.out, HI.out, HL.out⟩
        case round =>
          obtain ⟨j, S4, f4, hj, rfl, hl4, hid4, hB4⟩ := hrel
          have HO := Lib.hid (oldest_by hB4 (by omega) 3)
          by_cases hjl : j < ids.length
          · obtain ⟨x, t1, t2, t3, t4, t5⟩ := take_ok hid4 hjl
            have HT := Lib.hid (fun (W : World) (h : ByRow w W S4 g f4 26 1 (.slice A1 ids.length c1) ids.length (cellsU ids)) => take_by h (by omega) (mold f4.l 3))
            rw [t1] at HT
            dsimp only at HT
            rw [t2, t3] at HT
            have HT4 := Lib.hid t4
            have HT5 := Lib.hid (Nat.le_trans t5 hl4)
            clear t1 t2 t3 t4 t5 hid4 hB4
            generalize (mtake f4 (mold f4.l 3)).2 = f5 at *
            generalize mold f4.l 3 = mo at *
            have HD := Lib.hid (show (cellsU ids)[j]? = some (.int .u32 (ids[j] : Int)) by simp [cellsU, hjl])
            generalize ids[j] = d at *
            go_wp2_with (first
              | (go_at_call 19; refine HO.out.mono ?_; rintro e W5 ⟨rfl, h5⟩; have H5 := Lib.hid h5; clear h5)
              | (go_at_call 17; refine (HT.out _ H5.out).mono ?_; rintro e W6 ⟨rfl, S6, h6⟩; obtain ⟨gb, cb, hv, _, _, hgb, hcs, _⟩ := h6.2.1.some_ (Nat.lt_of_le_of_lt (Nat.zero_le _) hjl); cases hv; have hcd := hcs _ _ HD.out; have H6 := Lib.hid (h6.alloc (.cells #[.int .u32 (d : Int), .int .i64 3, .string x.s] 35)); clear h6 hcs))
            go_quiet (fail)
            go_wp2
            go_roundw
            case rel => exact ⟨j + 1, S6, f5, by omega, by go_num, HT5.out, HT4.out, by repeat first | exact H6.out | apply ByRow.drewN⟩
            case measure => simp [intOf]; omega
          · have hmo : mold f4.l 3 = -1 := mold_none' _ _ (by
              rw [List.drop_of_length_le (by omega)] at hid4
              unfold toIds at hid4
              exact List.map_eq_nil_iff.1 hid4)
            rw [hmo] at HO
            clear hmo hid4 hB4
            go_wp2_with (go_at_call 19; refine HO.out.mono ?_; rintro e W5 ⟨rfl, h5⟩; have H5 := Lib.hid h5; clear h5)
            go_ret
            exact ⟨rfl, H5.out.1.2.1⟩
theorem open_intsO {H : Type} {enc : TypeId × Value → H} {w : World} {base : Nat} {held : Bool} {A : Option Addr} {l c : Nat} {d : DataW H} {p : List MemPlace} (h : DataW.Trod enc Try.prog w base (fun _ => true) held 47 (.slice A l c) d p) : ∃ xs : List Int, ArgAt w 1 A l (xs.map (Value.int .i64)) := by
  obtain ⟨xs, _, h1, _⟩ := open_argI Try.underlying47 Try.underlying3 (by kernel_rfl) h
  exact ⟨xs, h1⟩
end Go.Proofs.Ytlfbmicpaacbnaa
