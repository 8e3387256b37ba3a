/-
  What is read of bytes, by journal: the iterator over the places, and the list. Conditions: strings are at most 2^26 bytes long.
-/
import Derived.Test.YtcepdmpdabiglaaJouB
import Derived.Test.YtcepdmpdabiglaaRound
import Derived.BigQuiet
import Derived.Deep.QuietTactic
import Derived.Maps.AppendAt
import Derived.RangeFuncBox
namespace Ros
open Go Go.RowKit
def encR (x : List UInt8 × Nat) : Array Value := #[.string (str x.1), .int .i64 (x.2 : Int)]
def szOf : Value → Nat
  | .string s => s.size
  | _ => 0
@[simp] theorem szOf_str (s : ByteArray) : szOf (.string s) = s.size := rfl
theorem bl_from (s : ByteArray) (n : Nat) : bl (s.extract n s.size) = (bl s).drop n := by rw [bl_extract, size_bl, List.take_length]
theorem row_of_owns {W : World} {b : Nat} {e : TypeId} {size n : Nat} {v : Value} {xs : List Value} (h : W.ownsRow b e size v n xs) : Row W e size v n xs := by
  refine ⟨h.1, ?_⟩
  rcases h.2 with h1 | ⟨g, cap, cur, e1, _, e2, e3, e4, e5, e6⟩
  · exact .inl h1
  · exact .inr ⟨g, cap, cur, e1, e2, e3, e4, by omega, e6⟩
theorem owns_down {W : World} {b b' : Nat} {e : TypeId} {size n : Nat} {v : Value} {xs : List Value} (h : W.ownsRow b e size v n xs) (hb : b' ≤ b) : W.ownsRow b' e size v n xs := by
  refine ⟨h.1, ?_⟩
  rcases h.2 with h1 | ⟨g, cap, cur, e1, e0, e2, e3, e4, e5, e6⟩
  · exact .inl h1
  · exact .inr ⟨g, cap, cur, e1, by omega, e2, e3, e4, e5, e6⟩
/-- 'out = append(out, ..)', the row's base beyond the boxes' own. -/
theorem appended2 {W w1 : World} {n₀ n₁ B : Nat} {t e : TypeId} {size : Nat} {v v' : Value} {k m : Nat} {xs ys : List Value} {tmp : Obj}
    (hv : Boxed W B t v) (hte : t ≠ e) (hrow : W.ownsRow n₁ e size v k xs) (hn₀ : n₀ ≤ W.heap.size) (h01 : n₀ ≤ n₁) (hB : n₀ ≤ B)
    (hown' : w1.ownsRow n₁ e size v' m ys) (hgrow : (W.alloc tmp).grownBy w1 v.ownBlock) :
    Boxed w1 B t v ∧ Boxed (w1.setCell ⟨B, 0, none⟩ v') B t v' ∧ (w1.setCell ⟨B, 0, none⟩ v').ownsRow n₁ e size v' m ys ∧ KeepsOthers W (w1.setCell ⟨B, 0, none⟩ v') ∧ Below n₀ W (w1.setCell ⟨B, 0, none⟩ v') := by
  obtain ⟨h1, h2, _, h4, h5⟩ := hv.appended hte (owns_down hrow h01) hn₀ hB (owns_down hown' h01) hgrow
  exact ⟨h1, h2, hown'.kept (grownBy_setCell' w1 B v') (.inr (h1.not_row hte hown').symm), h4, h5⟩
/-- A box below the row's base. -/
theorem boxed_under {W w1 : World} {n₁ B : Nat} {t e : TypeId} {size : Nat} {u v : Value} {k : Nat} {xs : List Value} {tmp : Obj} (hb : Boxed W B t u) (hB : B < n₁) (hrow : W.ownsRow n₁ e size v k xs) (hgrow : (W.alloc tmp).grownBy w1 v.ownBlock) : Boxed w1 B t u :=
  (hb.alloc tmp).kept hgrow fun e => by have := (hrow.lt _ e.symm).1; omega
theorem box_far {W : World} {B g : Nat} {t : TypeId} {v : Value} (h : Boxed W B t v) (hne : B ≠ g) (j : Nat) (u : Value) : Boxed (W.setCell ⟨g, j, none⟩ u) B t v := obj_far (p := ⟨g, j, none⟩) h hne u
theorem row_put {W : World} {e : TypeId} {size n D : Nat} {v : Value} {xs : List Value} {o : Obj} (h : Row W e size v n xs) (hD : W.heap[D]? = some o) (hc : o.isCells = false) (o' : Obj) : Row (W.putObj D o') e size v n xs := by
  refine h.keep fun k hk => World.putObj_heap_other fun he => ?_
  subst he
  rcases h.2 with ⟨rfl, _⟩ | ⟨g, cap, cur, rfl, hg, _⟩
  · simp [Value.ownBlock] at hk
  · simp [Value.ownBlock] at hk
    subst hk
    rw [hg] at hD; cases hD; cases hc
theorem row_self {W : World} {e : TypeId} {n c : Nat} {A : Option Addr} {xs : List Value} (h : Row W e 1 (.slice A n c) n xs) : Row W e 1 (.slice A n n) n xs := by
  have h1 := h.cut3 (Nat.le_refl n)
  rwa [List.take_of_length_le (by rw [h.1]; exact Nat.le_refl _)] at h1
theorem row_dN {W : World} {e : TypeId} {size n : Nat} {v : Value} {xs : List Value} (h : Row W e size v n xs) (k : Nat) : Row (W.drewN k) e size v n xs := h
theorem below_dn {B : Nat} {a w : World} (h : Below B a w) (n : Nat) : Below B a (w.drewN n) := ⟨h.os, h.tape, h.output, h.size, h.block⟩
end Ros
namespace Go.Proofs.Ytcepdmpdabiglaa
open Go.RowKit Go.Shelf Ros
attribute [local go_sem] Oper.semAt_some

theorem places_any (s : ByteArray) (w : World) :
    Calls Try.prog 26 #[.string s] w fun e w' => e = .returned (.func (.func 31) #[] #[.pointer (some ⟨w.heap.size, 0, none⟩)]) ∧ w.alloc (.cells #[.string s] 9) = w' := by
  go_enter Try.func26, Try.ntmps26
  go_wp2
  go_ret
  exact ⟨rfl, rfl⟩

set_option maxRecDepth 100000 in
set_option maxHeartbeats 1000000 in
theorem places1_iter (Bs : Nat) (s : ByteArray) (hs : s.size ≤ 67108864) :
    IterOn Try.prog 31 #[.pointer (some ⟨Bs, 0, none⟩)] encR (fun _ W => W.cell? ⟨Bs, 0, none⟩ = some (.string s)) (plS (bl s)) := by
  intro L J Jx W gJ gJx hRd hY h0
  have hc0 := hRd _ _ h0
  refine callsIn_of_wp Try.func31 rfl trivial ?_ rfl
  simp only [Try.ntmps31, List.size_toArray, List.length_cons, List.length_nil, Nat.reduceAdd, Nat.reduceSub, Array.replicate_succ, Array.replicate_zero, List.push_toArray, List.append_toArray, List.nil_append, List.cons_append]
  gi_wp2
  gi_loopw [3] (fun r wr => ∃ (u : ByteArray) (pre : List (List UInt8 × Nat)), r = .string u ∧ plS (bl s) = pre ++ plS (bl u) ∧ J pre wr ∧ u.size ≤ 67108864) (fun r _ => szOf r)
  case atStart => exact ⟨s, [], rfl, rfl, h0, hs⟩
  case round =>
    obtain ⟨u, pre, rfl, hsp, hj, hu⟩ := hrel
    have HF := Lib.hid (fun W : World => first_any u W (by omega))
    have hle := oneN_le (bl u)
    rw [← size_bl] at hle
    by_cases h0 : oneN (bl u) = 0
    · rw [plS_zero h0] at hsp
      have HY := Lib.hid (fun w1 (b1 : Below wr.heap.size wr w1) => hY _ _ _ w1 hsp (grows_below gJ hj b1))
      have HSP := Lib.hid hsp
      unfold encR at HY
      dsimp only at HY
      rw [show ((0 : Nat) : Int) = 0 from rfl] at HY
      rw [show oneD (bl u) = [] from (one_no (by cases h : okOne (bl u) with | false => rfl | true => rw [(one_yes h).2] at h0; omega)).1, h0] at HF
      clear hsp hle h0
      gi_wp2_with (gi_at_call 32; refine (in_wide _ (HF.out _)).mono ?_; rintro e w1 ⟨rfl, b1⟩; obtain ⟨fn, tmps, assign, body, hy, hR⟩ := HY.out w1 b1)
      refine hR.mono ?_
      rintro e W3 (⟨rfl, hJ3⟩ | ⟨rfl, hJx3⟩)
      · gi_wp2
        refine bodyPost_ret (results_none rfl _ _ _) rfl ?_
        exact ⟨⟨_, rfl⟩, .inl (by rw [HSP.out]; exact hJ3)⟩
      · gi_wp2
        refine bodyPost_ret (results_none rfl _ _ _) rfl ?_
        exact ⟨⟨_, rfl⟩, .inr ⟨_, ⟨[], by rw [HSP.out, List.append_nil]⟩, hJx3⟩⟩
    · rw [plS_step h0] at hsp
      have HY := Lib.hid (fun w1 (b1 : Below wr.heap.size wr w1) => hY _ _ _ w1 hsp (grows_below gJ hj b1))
      have HSP := Lib.hid hsp
      unfold encR at HY
      dsimp only at HY
      have HD := Lib.hid (bl_from u (oneN (bl u)))
      have hsl := sl_l (P := Try.prog) Try.underlying9 u (oneN (bl u)) hle.1 (oneN (bl u) : Int) rfl
      have hz : ((oneN (bl u) : Int) == 0) = false := by simpa using h0
      have HZ := Lib.hid (show (u.extract (oneN (bl u)) u.size).size < u.size from by rw [size_bl, bl_from, List.length_drop, ← size_bl]; omega)
      have HL := Lib.hid (show plS (bl s) = (pre ++ [(oneD (bl u), oneN (bl u))]) ++ plS ((bl u).drop (oneN (bl u))) by rw [hsp]; simp)
      rw [← HD.out] at HL
      clear hsp hle HD
      generalize u.extract (oneN (bl u)) u.size = u2 at *
      have HPF := Lib.hid (show pre ++ [(oneD (bl u), oneN (bl u))] <+: plS (bl s) from ⟨_, HL.out.symm⟩)
      generalize pre ++ [(oneD (bl u), oneN (bl u))] = pre2 at *
      clear HSP
      generalize str (oneD (bl u)) = d at *
      generalize oneN (bl u) = n at *
      gi_wp2_with (gi_at_call 32; refine (in_wide _ (HF.out _)).mono ?_; rintro e w1 ⟨rfl, b1⟩; obtain ⟨fn, tmps, assign, body, hy, hR⟩ := HY.out w1 b1)
      refine hR.mono ?_
      rintro e W3 (⟨rfl, hJ3⟩ | ⟨rfl, hJx3⟩)
      · gi_wp2
        go_roundw
        case rel => exact ⟨u2, pre2, rfl, HL.out, hJ3, by have := HZ.out; omega⟩
        case measure => simpa using HZ.out
      · gi_wp2
        refine bodyPost_ret (results_none rfl _ _ _) rfl ?_
        exact ⟨⟨_, rfl⟩, .inr ⟨_, HPF.out, hJx3⟩⟩
theorem str_info : (Try.prog.info? 9).map (fun i => (i.zero, i.size, i.bytes)) = some (some (.string ⟨#[]⟩), 1, 16) := by kernel_rfl

set_option maxRecDepth 100000 in
set_option maxHeartbeats 1000000 in
theorem read_own (s : ByteArray) (w : World) (hs : s.size ≤ 67108864) :
    Calls Try.prog 20 #[.string s] w fun e w' => ∃ A c, e = .returned (.tuple #[.slice A (readL (bl s)).1.length c, .int .i64 ((readL (bl s)).2 : Int)]) ∧
      Row w' 9 1 (.slice A (readL (bl s)).1.length c) (readL (bl s)).1.length (cellsS (readL (bl s)).1) ∧ (∀ k, (Value.slice A (readL (bl s)).1.length c).ownBlock = some k → w.heap.size ≤ k) ∧ Below w.heap.size w w' := by
  obtain ⟨i0, hi0, hz0, hz1, hz2⟩ := info_parts str_info
  refine calls_marksP Try.func20 rfl ?_
  simp only [Try.ntmps20, List.size_toArray, List.length_cons, List.length_nil, Nat.reduceAdd, Nat.reduceSub, Array.replicate_succ, Array.replicate_zero, List.push_toArray, List.append_toArray, List.nil_append, List.cons_append]
  go_wp2
  go_step3
  go_wp2
  go_step3
  go_wp2_with (go_at_call 26; refine (places_any _ _).mono ?_; rintro e w' ⟨rfl, rfl⟩)
  refine range_lawP (gf := 31) (lb := #[.pointer (some ⟨w.heap.size + 1 + 1, 0, none⟩)]) rfl (enters_of Try.func31 (by kernel_rfl) rfl) (places1_iter (w.heap.size + 1 + 1) s hs) (fun _ => rfl)
    (fun pre W => ((∃ v, Boxed W w.heap.size 22 v ∧ W.ownsRow (w.heap.size + 1 + 1 + 1) 9 1 v (pre : List (List UInt8 × Nat)).length (cellsS (dataP pre)) ∧ True) ∧ Boxed W (w.heap.size + 1) 3 (.int .i64 (goodP pre : Int)) ∧ Boxed W (w.heap.size + 1 + 1) 9 (.string s) ∧ Below w.heap.size w W) ∧ ∀ x ∈ pre, x.2 ≠ 0)
    (fun e pre W => e = .exit 0 ∧ (∃ v, Boxed W w.heap.size 22 v ∧ W.ownsRow (w.heap.size + 1 + 1 + 1) 9 1 v (readL (bl s)).1.length (cellsS (readL (bl s)).1) ∧ True) ∧ Boxed W (w.heap.size + 1) 3 (.int .i64 ((readL (bl s)).2 : Int)) ∧ Below w.heap.size w W)
    (OwnFrom.and (OwnFrom.and (Own.from (holdsRow_own (w.heap.size + 1 + 1 + 1) w.heap.size 22 9 1 (fun pre => pre.length) (fun pre => cellsS (dataP pre)) (fun _ _ => True)) _) ((own_box _ _ _ _).and ((own_box _ _ _ _).and (own_below (Nat.le_refl _) (by simp; omega))))) (own_pure _ _))
    (fun _ => (own_pure _ _).and (OwnFrom.and (Own.from (holdsRow_own (w.heap.size + 1 + 1 + 1) w.heap.size 22 9 1 (fun _ => (readL (bl s)).1.length) (fun _ => cellsS (readL (bl s)).1) (fun _ _ => True)) _) ((own_box _ _ _ _).and (own_below (Nat.le_refl _) (by simp; omega)))))
    (fun _ _ h => h.1.2.2.1.cell) ?h0 ?hround ?hdone ?hstop
  case h0 =>
    refine ⟨⟨⟨_, ((Boxed.new w _ _).alloc _).alloc _, World.ownsRow_nil _ _ _ _, trivial⟩, (Boxed.alloc ?_ _), ?_, ((((Below.refl _ w).alloc (Nat.le_refl _) _).alloc (by simp) _).alloc (by simp; omega) _)⟩, fun x hx => by simp at hx⟩
    · have h := Boxed.new (w.alloc (.cells #[.slice none 0 0] 22)) 3 (.int .i64 0)
      rw [World.size_alloc] at h
      exact h
    · have h := Boxed.new ((w.alloc (.cells #[.slice none 0 0] 22)).alloc (.cells #[.int .i64 0] 3)) 9 (.string s)
      rw [World.size_alloc, World.size_alloc] at h
      exact h
  case hround =>
    rintro L pre x post W hxs hlL hlW ⟨⟨⟨v, hv, hrow, _⟩, hb2, hb3, hB⟩, hN⟩
    have hmid := pl_mid hxs
    rw [← size_bl] at hmid
    clear hxs
    dsimp only [encR]
    have HN := Lib.hid hN
    have HM := Lib.hid hmid
    clear hN hmid
    gi_wp2
    refine ⟨KeepsFrom.refl _ _, ⟨⟨⟨v, hv, hrow, trivial⟩, hb2, hb3, hB⟩, HN.out⟩, ?_⟩
    clear hv hrow hb2 hb3 hB
    rintro W2 hg hsz ⟨⟨⟨v, hv, hrow, _⟩, hb2, hb3, hB⟩, _⟩
    have hc := hv.cell
    have hf := hv.frozen
    have hc2 := hb2.cell
    have hf2 := hb2.frozen
    rcases HM.out with ⟨hx0, _, hpre⟩ | ⟨hx0, hx1, hx2, hx3, hx4⟩
    · have hz : ((x.2 : Int) == 0) = true := by simp [hx0]
      have HP := Lib.hid hpre
      clear hpre
      gi_wp2
      refine ⟨KeepsFrom.refl _ _, rfl, ⟨v, hv, ?_, trivial⟩, ?_, hB⟩
      · rw [HP.out, dataP_rd] at hrow
        simpa using hrow
      · rw [HP.out, ← readL_sum] at hb2
        exact hb2
    · have hz : ((x.2 : Int) == 0) = false := by simpa using hx0
      have HX := Lib.hid hx0
      rw [goodP_snoc] at hx3
      rw [List.length_append, List.length_singleton] at hx4
      have HG := Lib.hid (goodP_snoc pre x)
      have HD := Lib.hid (show cellsS (dataP (pre ++ [x])) = cellsS (dataP pre) ++ [.string (str x.1)] by rw [dataP_snoc, cellsS_snoc])
      have hsz3 : w.heap.size + 1 + 1 + 1 ≤ W2.heap.size := hb3.lt
      have hszA : ∀ o : Obj, w.heap.size + 1 + 1 + 1 ≤ (W2.alloc o).heap.size := fun o => by rw [World.size_alloc]; omega
      have h013 : w.heap.size ≤ w.heap.size + 1 + 1 + 1 := by omega
      have hl23 : w.heap.size + 1 < w.heap.size + 1 + 1 + 1 := by omega
      have hl33 : w.heap.size + 1 + 1 < w.heap.size + 1 + 1 + 1 := by omega
      clear hx0 hx1 hx2
      generalize str x.1 = d at *
      gi_wp2_with (gi_at_builtin; generalize hG : wpListIn _ _ _ _ _ _ _ _ = G)
      subst hG
      refine wpListIn_append_own _ rfl _ _ 22 rfl (w.heap.size + 1 + 1 + 1) 9 i0 (.string ⟨#[]⟩) 1 16 Try.underlying22 hi0 hz0 hz1 hz2 rfl (by decide) _ _ _ rfl (hrow.alloc _) ⟨W2.heap.size, 0, none⟩ 1 1 [.string d] rfl rfl (cell_one_new _ _ _) (by simp [Value.oneCell']) (by unfold maxLen; omega) (by omega) (hszA _) ?_
      intro v' w1 hown' hgrow _
      obtain ⟨g', cap', rfl⟩ := ownsRow_succ hown'
      obtain ⟨hv1, hv2, hr2, hk2, hbb2⟩ := appended2 hv (by decide) hrow hB.size h013 (Nat.le_refl _) hown' hgrow
      have hc1 := hv1.cell
      have hf1 := hv1.frozen
      have hb2' := boxed_under hb2 hl23 hrow hgrow
      have hb3' := boxed_under hb3 hl33 hrow hgrow
      have hc3 := hb2'.cell
      have hf3 := hb2'.frozen
      have hn1 : ¬ w.heap.size + 1 = w.heap.size := by omega
      gi_wp2
      have hr3 := hr2.kept (grownBy_setCell' _ (w.heap.size + 1) (.int .i64 ((goodP pre : Int) + (x.2 : Int)))) (.inr (fun e => by have := (hr2.lt _ e).1; omega))
      rw [← HD.out] at hr3
      refine ⟨(hk2.trans (KeepsOthers.setCell _ _ _)).from _, ⟨⟨⟨_, box_far hv2 (by omega) 0 _, ?_, trivial⟩, ?_, box_far (box_far hb3' (by omega) 0 _) (by omega) 0 _, (hB.trans hbb2).setCell (p := ⟨w.heap.size + 1, 0, none⟩) (by simp) _⟩, ?_⟩⟩
      · rw [List.length_append, List.length_singleton]; exact hr3
      · rw [HG.out, Int.natCast_add]
        exact (box_far hb2' (by omega) 0 _).set _
      · intro y hy
        rcases List.mem_append.1 hy with h | h
        · exact HN.out y h
        · rw [List.mem_singleton.1 h]; exact HX.out
  case hdone =>
    rintro D W hD ⟨_, hN⟩ hK
    exact (pl_all hN).elim
  case hstop =>
    rintro D c pre W hD hp ⟨rfl, ⟨v, hv, hrow, _⟩, hb2, hB⟩ hK
    have hcs := hb2.cell
    have hc := hv.cell
    have hR := row_of_owns hrow
    obtain ⟨A, cap, rfl, hle, hcap⟩ := hR.form
    generalize hn : (readL (bl s)).1.length = n at *
    have hsl := fun w' : World => slice_hm (P := Try.prog) Try.underlying22 hi0 A n cap n hle w'
    go_wp2
    go_quiet (fail)
    go_wp2
    rw [Exit.noGoto_ret]
    have hK' : (W.drewN nq).heap[D]? = some (.deferred (some [])) := hK
    refine leaves_mark2 rfl hK' ?_
    rw [hn]
    exact ⟨A, n, rfl, row_put (row_dN (row_self hR) _) hK' rfl _, fun k hk => by have := (hrow.lt k (by cases A with | none => simp [Value.ownBlock] at hk | some a => simpa [Value.ownBlock] using hk)).1; omega, below_put (below_dn hB _) (by simp at hD; omega) (Nat.le_refl _)⟩
theorem read_any (s : ByteArray) (w : World) (hs : s.size ≤ 67108864) :
    Calls Try.prog 20 #[.string s] w fun e w' => ∃ A c, e = .returned (.tuple #[.slice A (readL (bl s)).1.length c, .int .i64 ((readL (bl s)).2 : Int)]) ∧
      Row w' 9 1 (.slice A (readL (bl s)).1.length c) (readL (bl s)).1.length (cellsS (readL (bl s)).1) ∧ Below w.heap.size w w' :=
  (read_own s w hs).mono fun _ _ ⟨A, c, he, hr, _, hb⟩ => ⟨A, c, he, hr, hb⟩
end Go.Proofs.Ytcepdmpdabiglaa
