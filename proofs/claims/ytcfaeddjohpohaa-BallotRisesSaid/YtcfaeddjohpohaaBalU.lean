/-
  BallotRises, walked. Conditions: none but the arguments' own.
-/
import Derived.Test.YtcfaeddjohpohaaBalP
set_option linter.unusedVariables false
namespace Ros
open Go Go.RowKit
/-- What a step of BallotRises tells. -/
def Rise (v : Vt) (x : Nat) (r : Vt × Int) : Prop := (r.2 = 0 ∧ r.1.p = x ∧ v.p ≤ x ∧ v.b ≤ r.1.b ∧ r.1.b ≤ x ∧ rightB r.1 = true ∧ r.1.ok) ∨ r.2 = 2 ∨ r.2 = 80
theorem rise_prom {v : Vt} {x : Nat} (hv : v.ok) (hr : rightB v = true) (hx : x < 18446744073709551616) : Rise v x (mprom v x) := by
  by_cases h : rightB v = true ∧ 1 ≤ x
  · by_cases hn : x ≤ v.p
    · rw [mprom_low h hn]; exact .inr (.inr rfl)
    · have hp := (rightB_iff v).1 hr
      rw [mprom_yes h (by omega)]
      exact .inl ⟨rfl, rfl, by omega, Nat.le_refl _, by show v.b ≤ x; omega, right_prom hr (by omega), hx, hv.2.1, hv.2.2⟩
  · rw [mprom_bad h]; exact .inr (.inl rfl)
theorem rise_cast {v : Vt} {x : Nat} {s : ByteArray} (hv : v.ok) (hr : rightB v = true) (hx : x < 18446744073709551616) (hs : s.size ≤ 4000) : Rise v x (mcast v x s) := by
  by_cases h : rightB v = true ∧ 1 ≤ x ∧ s.size ≤ 4000
  · by_cases hn : x < v.p
    · rw [mcast_low h hn]; exact .inr (.inr rfl)
    · have hp := (rightB_iff v).1 hr
      rw [mcast_yes h (by omega)]
      exact .inl ⟨rfl, rfl, by omega, by show v.b ≤ x; omega, Nat.le_refl _, right_cast h.2.1 hs, hx, hx, by show s.size ≤ _; omega⟩
  · rw [mcast_bad h]; exact .inr (.inl rfl)
@[reducible] def sV : ByteArray := ⟨#[118]⟩
end Ros
namespace Go.Proofs.Ytcfaeddjohpohaa
open Go.RowKit Go.Shelf Ros
attribute [local go_sem] Oper.semAt_some
attribute [local go_sem ↓] Go.wp_at_zero Go.wp_at_succ
set_option linter.unusedVariables false

/-- A box is laid over with another vote. -/
theorem Vb.put3 {W : World} {g a b : Nat} {v t : Vt} (h : Vb W [(a, t), (b, v), (g, v)]) (hb : b ≠ g) :
    Vb (((W.setCell ⟨g, 0, none⟩ (.int .u64 (t.p : Int))).setCell ⟨g, 1, none⟩ (.int .u64 (t.b : Int))).setCell ⟨g, 2, none⟩ (.string t.s)) [(g, t), (b, v)] := fun p hp => by
  rcases List.mem_cons.1 hp with rfl | hp
  · have := obj_set (obj_set (obj_set (h (g, v) (by simp)) 0 (.int .u64 (t.p : Int))) 1 (.int .u64 (t.b : Int))) 2 (.string t.s)
    rwa [cv_set] at this
  · rw [List.mem_singleton.1 hp]
    exact obj_far (obj_far (obj_far (h (b, v) (by simp)) hb _) hb _) hb _
theorem Vb.two {W : World} {g b : Nat} {v t : Vt} (h : Vb W [(g, t), (b, v)]) : W.cell? ⟨g, 0, none⟩ = some (.int .u64 (t.p : Int)) ∧ W.cell? ⟨g, 1, none⟩ = some (.int .u64 (t.b : Int)) ∧ W.cell? ⟨g, 2, none⟩ = some (.string t.s) ∧
    W.cell? ⟨b, 0, none⟩ = some (.int .u64 (v.p : Int)) ∧ W.cell? ⟨b, 1, none⟩ = some (.int .u64 (v.b : Int)) := by
  obtain ⟨a0, a1, a2, _⟩ := h.cells (g := g) (x := t) (by simp)
  obtain ⟨b0, b1, b2, _⟩ := h.cells (g := b) (x := v) (by simp)
  exact ⟨a0, a1, a2, b0, b1⟩
/-- The first box of three is laid over. -/
theorem Vb.put1 {W : World} {g b d : Nat} {v u t0 t : Vt} (h : Vb W [(g, t0), (b, v), (d, u)]) (hb : b ≠ g) (hd : d ≠ g) :
    Vb (((W.setCell ⟨g, 0, none⟩ (.int .u64 (t.p : Int))).setCell ⟨g, 1, none⟩ (.int .u64 (t.b : Int))).setCell ⟨g, 2, none⟩ (.string t.s)) [(g, t), (b, v), (d, u)] := fun p hp => by
  simp only [List.mem_cons, List.not_mem_nil, or_false] at hp
  rcases hp with rfl | rfl | rfl
  · have := obj_set (obj_set (obj_set (h (g, t0) (by simp)) 0 (.int .u64 (t.p : Int))) 1 (.int .u64 (t.b : Int))) 2 (.string t.s)
    rwa [cv_set] at this
  · exact obj_far (obj_far (obj_far (h (b, v) (by simp)) hb _) hb _) hb _
  · exact obj_far (obj_far (obj_far (h (d, u) (by simp)) hd _) hd _) hd _
set_option maxRecDepth 100000 in
set_option maxHeartbeats 4000000 in
theorem ballotRises_walk (A : Option Addr) (m c : Nat) (xs : List Nat) (B : Option Addr) (m2 c2 : Nat) (ys : List Bool) (w : World) (ha : ArgAt w 1 A m (xs.map (fun x : Nat => Value.int .u64 (x : Int)))) (hx : ∀ x ∈ xs, x < 18446744073709551616) (hb : ArgAt w 1 B m2 (ys.map Value.bool)) :
    Calls Try.prog 4 #[.slice A m c, .slice B m2 c2] w fun e w' => e = .returned (.bool true) ∧ Below w.heap.size w w' := by
  have HA := Lib.hid ha
  have HB := Lib.hid hb
  clear ha hb
  go_enter Try.func4, Try.ntmps4
  go_wp2_with (go_at_call 10; refine (shown_any _).mono ?_; rintro e W1 ⟨rfl, h1⟩)
  generalize hg0 : W1.heap.size = g0
  have HG0 := Lib.hid hg0
  have HZ := Lib.hid (World.alloc_heap_new W1 (.cells (cv vt0) 24))
  have HB1 := Lib.hid (h1.alloc h1.size (.cells (cv vt0) 24))
  clear hg0
  rw [HG0.out] at HZ
  have hg1 := Lib.hid (show w.heap.size ≤ g0 by rw [← HG0.out]; exact h1.size)
  clear h1
  go_loopw [7] (fun i wr => ∃ (k : Nat) (v : Vt), k ≤ 100 ∧ k ≤ m ∧ i = .int .i64 k ∧ v.ok ∧ rightB v = true ∧ Vb wr [(g0, v)] ∧ Below w.heap.size w wr) (fun i _ => 100 - (intOf i).toNat)
  case atStart => exact ⟨0, vt0, by omega, by omega, rfl, vt0_ok, right_vt0, fun p hp => by rw [List.mem_singleton.1 hp]; exact HZ.out, HB1.out⟩
  case round =>
    obtain ⟨k, v, hk, hkm, rfl, hvo, hvr, hV, hB⟩ := hrel
    by_cases hlt : k < m ∧ k < 100
    · obtain ⟨hl1, hl2⟩ := hlt
      obtain ⟨a, hlx, rfl, hab, c0⟩ := (HA.out.below hB).one k hl1
      have hxb := hx xs[k] (List.getElem_mem hlx)
      have hab' : (a.add k).block < wr.heap.size := by rw [add_block]; exact hab
      obtain ⟨p0, p1, p2, z0⟩ := hV.cells (g := g0) (x := v) (by simp)
      have HCX := Lib.hid (fun (W : World) (hb : Below w.heap.size w W) => show W.cell? (a.add k) = some (.int .u64 (xs[k] : Int)) ∧ (a.add k).block < W.heap.size from by
        obtain ⟨a', _, e, hbl, h⟩ := (HA.out.below hb).one k hl1
        cases e
        exact ⟨h, by rw [add_block]; exact hbl⟩)
      have hg0r : g0 < wr.heap.size := z0
      have HV := Lib.hid hV
      have HBl := Lib.hid hB
      clear hV hB
      generalize xs[k] = x at *
      have HC0 := Lib.hid (fun (W : World) (hb : Below w.heap.size w W) => show W.cell? (a.add k) = some (.int .u64 (x : Int)) ∧ (a.add k).block < W.heap.size from HCX.out W hb)
      have C1 := Lib.hid (fun w => prom_any v x w hvo hxb)
      have C3 := Lib.hid (fun w => cast_any v x sV w hvo hxb (by decide))
      have R1 := Lib.hid (rise_prom hvo hvr hxb)
      have R3 := Lib.hid (rise_cast (s := sV) hvo hvr hxb (by decide))
      generalize mprom v x = r at *
      generalize mcast v x sV = q at *
      go_upto_region 7 with fail
      go_cut [9, 10] from 13 to 91 (fun s1 s2 wx => ∃ g : Nat, s1 = .pointer (some ⟨g, 0, none⟩) ∧ s2 = .int .i64 r.2 ∧ Vb wx [(g, r.1), (wr.heap.size, v), (g0, v)] ∧ Below w.heap.size w wx ∧ wr.heap.size < g)
      case first =>
        have V5 := Lib.hid (HV.out.new v)
        have B5 := Lib.hid (HBl.out.alloc HBl.out.size (.cells (cv v) 24))
        go_region_law ((first
          | (go_simp; go_at_call 12; ((with_reducible refine (C1.out (wr.alloc (.cells #[.int .u64 (v.p : Int), .int .u64 (v.b : Int), .string v.s] 24)).drew).mono ?_); rintro e w5 ⟨rfl, b5⟩; have e6 := b5.size))
          | (go_simp; go_at_call 12; ((with_reducible refine (C1.out ((wr.alloc (.cells #[.int .u64 (v.p : Int), .int .u64 (v.b : Int), .string v.s] 24)).alloc (.cells #[.int .u64 0, .int .u64 0, .string ⟨#[]⟩] 24)).drew).mono ?_); rintro e w5 ⟨rfl, b5⟩; obtain ⟨e0, e1, e2, e3, e4, e5, e6⟩ := fill_cells (W := wr.alloc (.cells #[.int .u64 (v.p : Int), .int .u64 (v.b : Int), .string v.s] 24)) b5; (try simp only [World.size_alloc] at e0 e1 e2 e3 e4 e5 e6); have T := trivial))))
        all_goals first
          | (have V7 := V5.out.fill b5 r.1
             have B7 := fill_below B5.out b5 r.1
             (try simp only [World.size_alloc] at V7 B7)
             replace V7 := Lib.hid V7
             replace B7 := Lib.hid B7
             clear V5 B5 b5 e0 e1 e2 e3 e4 e5 e6 T
             go_wp2_with fail
             go_meet
             exact ⟨_, rfl, rfl, V7.out, B7.out, by omega⟩)
          | (have V7 := Lib.hid ((Vb.below V5.out.drew b5).new r.1)
             have B7 := Lib.hid (Below.alloc (bt' B5.out.drew b5) (bt' B5.out.drew b5).size (.cells (cv r.1) 24))
             have E6 : wr.heap.size < w5.heap.size := by have := b5.size; simp at this; omega
             clear V5 B5 b5 e6
             go_wp2_with fail
             go_meet
             exact ⟨_, rfl, rfl, V7.out, B7.out, E6⟩)
      case rest =>
        clear p0 p1 p2 z0 HV HBl c0 hab hab'
        obtain ⟨g, rfl, rfl, hV, hB, hgl⟩ := hcut
        obtain ⟨p0, p1, p2, z0⟩ := hV.cells (g := g0) (x := v) (by simp)
        obtain ⟨k0, k1, k2, f0, f1, f2, z1⟩ := cells3 (hV (g, r.1) (by simp))
        obtain ⟨c0, hab⟩ := HC0.out _ hB
        have HV := Lib.hid hV
        have HBl := Lib.hid hB
        clear hV hB
        have RI := R1
        by_cases hm2 : k < m2
        · obtain ⟨b, hlb, rfl, hbb, hcb⟩ := (HB.out.below HBl.out).one k hm2
          have hbb' : (b.add k).block < wc.heap.size := by rw [add_block]; exact hbb
          generalize ys[k] = f at *
          cases f
          · go_upto_region 10 with fail
            rcases RI.out with ⟨e1, e2, e3, e4, e5, e6, e7⟩ | e1
            · obtain ⟨⟨tp, tb, ts⟩, te⟩ := r
              dsimp only at e1 e2 e3 e4 e5 e6 e7 HV ⊢
              subst e1
              subst e2
              have hne1 : g ≠ g0 := by omega
              have hne2 : wr.heap.size ≠ g0 := by omega
              have V8 := Lib.hid (Vb.put3 HV.out hne2)
              have B8 := Lib.hid (((HBl.out.setCell (p := ⟨g0, 0, none⟩) hg1.out (.int .u64 (tp : Int))).setCell (p := ⟨g0, 1, none⟩) hg1.out (.int .u64 (tb : Int))).setCell (p := ⟨g0, 2, none⟩) hg1.out (.string ts))
              have CR := Lib.hid (fun w => e6 ▸ right_any ⟨tp, tb, ts⟩ w e7)
              have E67 := Lib.hid (And.intro e6 e7)
              have l1 : ¬ tp < v.p := by omega
              have l2 : ¬ tb < v.b := by omega
              have l3 : ¬ tp < tb := by omega
              obtain ⟨m0, m1, m2', z4⟩ := HV.out.cells (g := wr.heap.size) (x := v) (by simp)
              obtain ⟨i0, i1, i2, g3, g4, g5, z5⟩ := cells3 (HV.out (g0, v) (by simp))
              clear e3 e4 e5 e6 e7
              go_upto_region 12 with fail
              have HSS := Lib.hid (fun (X : World) (h : Vb X [(g0, ⟨tp, tb, ts⟩), (wr.heap.size, v)]) (hb : Below w.heap.size w X) => And.intro h.two (HC0.out X hb).1)
              refine wp_region_held_drew (S := (fun w' => (w'.cell? ⟨g0, 0, none⟩ = some (.int .u64 (tp : Int)) ∧ w'.cell? ⟨g0, 1, none⟩ = some (.int .u64 (tb : Int)) ∧ w'.cell? ⟨g0, 2, none⟩ = some (.string ts) ∧ w'.cell? ⟨wr.heap.size, 0, none⟩ = some (.int .u64 (v.p : Int)) ∧ w'.cell? ⟨wr.heap.size, 1, none⟩ = some (.int .u64 (v.b : Int))) ∧ w'.cell? (a.add k) = some (.int .u64 (tp : Int)))) (by kernel_rfl) ?hS0b (fun hHeld => ?s0b)
              case hS0b => ((try dsimp only); (first | exact HSS.out _ V9.out B9.out | exact HSS.out _ V8.out.drew B8.out.drew | go_keep))
              refine wpAnyH_take (i := 0) (v := ?v0b) (by simp only [List.getElem?_toArray, List.getElem?_cons_zero]; rfl) (by kernel_rfl) (by kernel_rfl) (by kernel_rfl) (by exact fun _ _ _ h => h) (Or.inl ⟨by rfl, ?hy0b⟩) (by assumption) ?r0b
              case hy0b => ((intro w hSw; (try dsimp only at hSw); go_simp); (try with_reducible rfl))
              (try simp only [Act.put, List.setIfInBounds_toArray, List.set_cons_zero, List.set_cons_succ])
              refine wpAnyH_take (i := 1) (v := ?v1b) (by simp only [List.getElem?_toArray, List.getElem?_cons_succ, List.getElem?_cons_zero]; rfl) (by kernel_rfl) (by kernel_rfl) (by kernel_rfl) (by exact fun _ _ _ h => h) (Or.inl ⟨by rfl, ?hy1b⟩) (by assumption) ?r1b
              case hy1b => ((intro w hSw; (try dsimp only at hSw); go_simp); (try with_reducible rfl))
              (try simp only [Act.put, List.setIfInBounds_toArray, List.set_cons_zero, List.set_cons_succ])
              refine wpAnyH_take (i := 2) (v := ?v2b) (by simp only [List.getElem?_toArray, List.getElem?_cons_succ, List.getElem?_cons_zero]; rfl) (by kernel_rfl) (by kernel_rfl) (by kernel_rfl) (by exact fun _ _ _ h => h) (Or.inl ⟨by rfl, ?hy2b⟩) (by assumption) ?r2b
              case hy2b => ((intro w hSw; (try dsimp only at hSw); go_simp); (try with_reducible rfl))
              (try simp only [Act.put, List.setIfInBounds_toArray, List.set_cons_zero, List.set_cons_succ])
              refine wpAnyH_take (i := 3) (v := ?v3b) (by simp only [List.getElem?_toArray, List.getElem?_cons_succ, List.getElem?_cons_zero]; rfl) (by kernel_rfl) (by kernel_rfl) (by kernel_rfl) (by exact fun _ _ _ h => h) (Or.inl ⟨by rfl, ?hy3b⟩) (by assumption) ?r3b
              case hy3b => ((intro w hSw; (try dsimp only at hSw); go_simp); (try with_reducible rfl))
              (try simp only [Act.put, List.setIfInBounds_toArray, List.set_cons_zero, List.set_cons_succ])
              refine wpAnyH_take (i := 4) (v := ?v4b) (by simp only [List.getElem?_toArray, List.getElem?_cons_succ, List.getElem?_cons_zero]; rfl) (by kernel_rfl) (by kernel_rfl) (by kernel_rfl) (by exact fun _ _ _ h => h) (Or.inl ⟨by rfl, ?hy4b⟩) (by assumption) ?r4b
              case hy4b => ((intro w hSw; (try dsimp only at hSw); go_simp); (try with_reducible rfl))
              (try simp only [Act.put, List.setIfInBounds_toArray, List.set_cons_zero, List.set_cons_succ])
              refine wpAnyH_take (i := 5) (v := ?v5b) (by simp only [List.getElem?_toArray, List.getElem?_cons_succ, List.getElem?_cons_zero]; rfl) (by kernel_rfl) (by kernel_rfl) (by kernel_rfl) (by exact fun _ _ _ h => h) (Or.inl ⟨by rfl, ?hy5b⟩) (by assumption) ?r5b
              case hy5b => ((intro w hSw; (try dsimp only at hSw); go_simp); (try with_reducible rfl))
              (try simp only [Act.put, List.setIfInBounds_toArray, List.set_cons_zero, List.set_cons_succ])
              refine wpAnyH_take (i := 6) (v := ?v6b) (by simp only [List.getElem?_toArray, List.getElem?_cons_succ, List.getElem?_cons_zero]; rfl) (by kernel_rfl) (by kernel_rfl) (by kernel_rfl) (by exact fun _ _ _ h => h) (Or.inl ⟨by rfl, ?hy6b⟩) (by assumption) ?r6b
              case hy6b => ((intro w hSw; (try dsimp only at hSw); go_simp); (try with_reducible rfl))
              (try simp only [Act.put, List.setIfInBounds_toArray, List.set_cons_zero, List.set_cons_succ])
              refine wpAnyH_take (i := 7) (v := ?v7b) (by simp only [List.getElem?_toArray, List.getElem?_cons_succ, List.getElem?_cons_zero]; rfl) (by kernel_rfl) (by kernel_rfl) (by kernel_rfl) (by exact fun _ _ _ h => h) (Or.inl ⟨by rfl, ?hy7b⟩) (by assumption) ?r7b
              case hy7b => ((intro w hSw; (try dsimp only at hSw); go_simp); (try with_reducible rfl))
              (try simp only [Act.put, List.setIfInBounds_toArray, List.set_cons_zero, List.set_cons_succ])
              refine wpAnyH_take (i := 8) (v := ?v8b) (by simp only [List.getElem?_toArray, List.getElem?_cons_succ, List.getElem?_cons_zero]; rfl) (by kernel_rfl) (by kernel_rfl) (by kernel_rfl) (by exact fun _ _ _ h => h) (Or.inl ⟨by rfl, ?hy8b⟩) (by assumption) ?r8b
              case hy8b => ((intro w hSw; (try dsimp only at hSw); go_simp); (try with_reducible rfl))
              (try simp only [Act.put, List.setIfInBounds_toArray, List.set_cons_zero, List.set_cons_succ])
              refine wpAnyH_take (i := 9) (v := ?v9b) (by simp only [List.getElem?_toArray, List.getElem?_cons_succ, List.getElem?_cons_zero]; rfl) (by kernel_rfl) (by kernel_rfl) (by kernel_rfl) (by exact fun _ _ _ h => h) (Or.inl ⟨by rfl, ?hy9b⟩) (by assumption) ?r9b
              case hy9b => ((intro w hSw; (try dsimp only at hSw); go_simp); (try with_reducible rfl))
              (try simp only [Act.put, List.setIfInBounds_toArray, List.set_cons_zero, List.set_cons_succ])
              refine wpAnyH_take (i := 10) (v := ?v10b) (by simp only [List.getElem?_toArray, List.getElem?_cons_succ, List.getElem?_cons_zero]; rfl) (by kernel_rfl) (by kernel_rfl) (by kernel_rfl) (by exact fun _ _ _ h => h) (Or.inl ⟨by rfl, ?hy10b⟩) (by assumption) ?r10b
              case hy10b => ((intro w hSw; (try dsimp only at hSw); go_simp); (try with_reducible rfl))
              (try simp only [Act.put, List.setIfInBounds_toArray, List.set_cons_zero, List.set_cons_succ])
              refine wpAnyH_take (i := 11) (v := ?v11b) (by simp only [List.getElem?_toArray, List.getElem?_cons_succ, List.getElem?_cons_zero]; rfl) (by kernel_rfl) (by kernel_rfl) (by kernel_rfl) (by exact fun _ _ _ h => h) (Or.inl ⟨by rfl, ?hy11b⟩) (by assumption) ?r11b
              case hy11b => ((intro w hSw; (try dsimp only at hSw); go_simp); (try with_reducible rfl))
              (try simp only [Act.put, List.setIfInBounds_toArray, List.set_cons_zero, List.set_cons_succ])
              refine wpAnyH_take (i := 12) (v := ?v12b) (by simp only [List.getElem?_toArray, List.getElem?_cons_succ, List.getElem?_cons_zero]; rfl) (by kernel_rfl) (by kernel_rfl) (by kernel_rfl) (by exact fun _ _ _ h => h) (Or.inl ⟨by rfl, ?hy12b⟩) (by assumption) ?r12b
              case hy12b => ((intro w hSw; (try dsimp only at hSw); go_simp); (try with_reducible rfl))
              (try simp only [Act.put, List.setIfInBounds_toArray, List.set_cons_zero, List.set_cons_succ])
              refine wpAnyH_take (i := 13) (v := ?v13b) (by simp only [List.getElem?_toArray, List.getElem?_cons_succ, List.getElem?_cons_zero]; rfl) (by kernel_rfl) (by kernel_rfl) (by kernel_rfl) (by exact fun _ _ _ h => h) (Or.inl ⟨by rfl, ?hy13b⟩) (by assumption) ?r13b
              case hy13b => ((intro w hSw; (try dsimp only at hSw); go_simp); (try with_reducible rfl))
              (try simp only [Act.put, List.setIfInBounds_toArray, List.set_cons_zero, List.set_cons_succ])
              refine wpAnyH_take (i := 14) (v := ?v14b) (by simp only [List.getElem?_toArray, List.getElem?_cons_succ, List.getElem?_cons_zero]; rfl) (by kernel_rfl) (by kernel_rfl) (by kernel_rfl) (by exact fun _ _ _ h => h) (Or.inl ⟨by rfl, ?hy14b⟩) (by assumption) ?r14b
              case hy14b => ((intro w hSw; (try dsimp only at hSw); go_simp); (try with_reducible rfl))
              (try simp only [Act.put, List.setIfInBounds_toArray, List.set_cons_zero, List.set_cons_succ])
              refine wpAnyH_take (i := 15) (v := ?v15b) (by simp only [List.getElem?_toArray, List.getElem?_cons_succ, List.getElem?_cons_zero]; rfl) (by kernel_rfl) (by kernel_rfl) (by kernel_rfl) (by exact fun _ _ _ h => h) (Or.inl ⟨by rfl, ?hy15b⟩) (by assumption) ?r15b
              case hy15b => ((intro w hSw; (try dsimp only at hSw); go_simp); (try with_reducible rfl))
              (try simp only [Act.put, List.setIfInBounds_toArray, List.set_cons_zero, List.set_cons_succ])
              refine wpAnyH_take (i := 16) (v := ?v16b) (by simp only [List.getElem?_toArray, List.getElem?_cons_succ, List.getElem?_cons_zero]; rfl) (by kernel_rfl) (by kernel_rfl) (by kernel_rfl) (by exact fun _ _ _ h => h) (Or.inl ⟨by rfl, ?hy16b⟩) (by assumption) ?r16b
              case hy16b => ((intro w hSw; (try dsimp only at hSw); go_simp); (try with_reducible rfl))
              (try simp only [Act.put, List.setIfInBounds_toArray, List.set_cons_zero, List.set_cons_succ])
              refine wpAnyH_take (i := 17) (v := ?v17b) (by simp only [List.getElem?_toArray, List.getElem?_cons_succ, List.getElem?_cons_zero]; rfl) (by kernel_rfl) (by kernel_rfl) (by kernel_rfl) (by exact fun _ _ _ h => h) (Or.inl ⟨by rfl, ?hy17b⟩) (by assumption) ?r17b
              case hy17b => ((intro w hSw; (try dsimp only at hSw); go_simp); (try with_reducible rfl))
              (try simp only [Act.put, List.setIfInBounds_toArray, List.set_cons_zero, List.set_cons_succ])
              refine wpAnyH_take (i := 18) (v := ?v18b) (by simp only [List.getElem?_toArray, List.getElem?_cons_succ, List.getElem?_cons_zero]; rfl) (by kernel_rfl) (by kernel_rfl) (by kernel_rfl) (by exact fun _ _ _ h => h) (Or.inl ⟨by rfl, ?hy18b⟩) (by assumption) ?r18b
              case hy18b => ((intro w hSw; (try dsimp only at hSw); go_simp); (try with_reducible rfl))
              (try simp only [Act.put, List.setIfInBounds_toArray, List.set_cons_zero, List.set_cons_succ])
              refine wpAnyH_take (i := 19) (v := ?v19b) (by simp only [List.getElem?_toArray, List.getElem?_cons_succ, List.getElem?_cons_zero]; rfl) (by kernel_rfl) (by kernel_rfl) (by kernel_rfl) (by exact fun _ _ _ h => h) (Or.inl ⟨by rfl, ?hy19b⟩) (by assumption) ?r19b
              case hy19b => ((intro w hSw; (try dsimp only at hSw); go_simp); (try with_reducible rfl))
              (try simp only [Act.put, List.setIfInBounds_toArray, List.set_cons_zero, List.set_cons_succ])
              refine wpAnyH_take (i := 20) (v := ?v20b) (by simp only [List.getElem?_toArray, List.getElem?_cons_succ, List.getElem?_cons_zero]; rfl) (by kernel_rfl) (by kernel_rfl) (by kernel_rfl) (by exact fun _ _ _ h => h) (Or.inl ⟨by rfl, ?hy20b⟩) (by assumption) ?r20b
              case hy20b => ((intro w hSw; (try dsimp only at hSw); go_simp); (try with_reducible rfl))
              (try simp only [Act.put, List.setIfInBounds_toArray, List.set_cons_zero, List.set_cons_succ])
              refine wpAnyH_ready (rs := [21]) (by kernel_rfl) (by simp) ?_
              refine AllReadyH.cons (by simp only [List.getElem?_toArray, List.getElem?_cons_succ, List.getElem?_cons_zero]; rfl) (fun K hK => ?_) AllReadyH.nil
              ((go_simp; go_at_call 16; refine (CR.out _).mono ?_; rintro e w6 ⟨rfl, b6⟩; have V9 := Lib.hid (Vb.below V8.out.drew b6); have B9 := Lib.hid (bt' B8.out.drew b6); clear b6))
              refine hK.out _ _ ?hS21b (fun hHeld => ?s21b)
              case hS21b => ((try dsimp only); (first | exact HSS.out _ V9.out B9.out | exact HSS.out _ V8.out.drew B8.out.drew | go_keep))
              clear hK K
              (try simp only [Act.put, List.setIfInBounds_toArray, List.set_cons_zero, List.set_cons_succ])
              refine wpAnyH_take (i := 22) (v := ?v22b) (by simp only [List.getElem?_toArray, List.getElem?_cons_succ, List.getElem?_cons_zero]; rfl) (by kernel_rfl) (by kernel_rfl) (by kernel_rfl) (by exact fun _ _ _ h => h) (Or.inl ⟨by rfl, ?hy22b⟩) (by assumption) ?r22b
              case hy22b => ((intro w hSw; (try dsimp only at hSw); go_simp); (try with_reducible rfl))
              (try simp only [Act.put, List.setIfInBounds_toArray, List.set_cons_zero, List.set_cons_succ])
              refine wpAnyH_take (i := 23) (v := ?v23b) (by simp only [List.getElem?_toArray, List.getElem?_cons_succ, List.getElem?_cons_zero]; rfl) (by kernel_rfl) (by kernel_rfl) (by kernel_rfl) (by exact fun _ _ _ h => h) (Or.inl ⟨by rfl, ?hy23b⟩) (by assumption) ?r23b
              case hy23b => ((intro w hSw; (try dsimp only at hSw); go_simp); (try with_reducible rfl))
              (try simp only [Act.put, List.setIfInBounds_toArray, List.set_cons_zero, List.set_cons_succ])
              refine wpAnyH_take (i := 24) (v := ?v24b) (by simp only [List.getElem?_toArray, List.getElem?_cons_succ, List.getElem?_cons_zero]; rfl) (by kernel_rfl) (by kernel_rfl) (by kernel_rfl) (by exact fun _ _ _ h => h) (Or.inl ⟨by rfl, ?hy24b⟩) (by assumption) ?r24b
              case hy24b => ((intro w hSw; (try dsimp only at hSw); go_simp); (try with_reducible rfl))
              (try simp only [Act.put, List.setIfInBounds_toArray, List.set_cons_zero, List.set_cons_succ])
              refine wpAnyH_take (i := 25) (v := ?v25b) (by simp only [List.getElem?_toArray, List.getElem?_cons_succ, List.getElem?_cons_zero]; rfl) (by kernel_rfl) (by kernel_rfl) (by kernel_rfl) (by exact fun _ _ _ h => h) (Or.inl ⟨by rfl, ?hy25b⟩) (by assumption) ?r25b
              case hy25b => ((intro w hSw; (try dsimp only at hSw); go_simp); (try with_reducible rfl))
              (try simp only [Act.put, List.setIfInBounds_toArray, List.set_cons_zero, List.set_cons_succ])
              refine wpAnyH_take (i := 26) (v := ?v26b) (by simp only [List.getElem?_toArray, List.getElem?_cons_succ, List.getElem?_cons_zero]; rfl) (by kernel_rfl) (by kernel_rfl) (by kernel_rfl) (by exact fun _ _ _ h => h) (Or.inl ⟨by rfl, ?hy26b⟩) (by assumption) ?r26b
              case hy26b => ((intro w hSw; (try dsimp only at hSw); go_simp); (try with_reducible rfl))
              (try simp only [Act.put, List.setIfInBounds_toArray, List.set_cons_zero, List.set_cons_succ])
              refine wpAnyH_take (i := 27) (v := ?v27b) (by simp only [List.getElem?_toArray, List.getElem?_cons_succ, List.getElem?_cons_zero]; rfl) (by kernel_rfl) (by kernel_rfl) (by kernel_rfl) (by exact fun _ _ _ h => h) (Or.inl ⟨by rfl, ?hy27b⟩) (by assumption) ?r27b
              case hy27b => ((intro w hSw; (try dsimp only at hSw); go_simp); (try with_reducible rfl))
              (try simp only [Act.put, List.setIfInBounds_toArray, List.set_cons_zero, List.set_cons_succ])
              refine wpAnyH_take (i := 28) (v := ?v28b) (by simp only [List.getElem?_toArray, List.getElem?_cons_succ, List.getElem?_cons_zero]; rfl) (by kernel_rfl) (by kernel_rfl) (by kernel_rfl) (by exact fun _ _ _ h => h) (Or.inl ⟨by rfl, ?hy28b⟩) (by assumption) ?r28b
              case hy28b => ((intro w hSw; (try dsimp only at hSw); go_simp); (try with_reducible rfl))
              (try simp only [Act.put, List.setIfInBounds_toArray, List.set_cons_zero, List.set_cons_succ])
              refine wpAnyH_take (i := 29) (v := ?v29b) (by simp only [List.getElem?_toArray, List.getElem?_cons_succ, List.getElem?_cons_zero]; rfl) (by kernel_rfl) (by kernel_rfl) (by kernel_rfl) (by exact fun _ _ _ h => h) (Or.inl ⟨by rfl, ?hy29b⟩) (by assumption) ?r29b
              case hy29b => ((intro w hSw; (try dsimp only at hSw); go_simp); (try with_reducible rfl))
              (try simp only [Act.put, List.setIfInBounds_toArray, List.set_cons_zero, List.set_cons_succ])
              refine wpAnyH_take (i := 30) (v := ?v30b) (by simp only [List.getElem?_toArray, List.getElem?_cons_succ, List.getElem?_cons_zero]; rfl) (by kernel_rfl) (by kernel_rfl) (by kernel_rfl) (by exact fun _ _ _ h => h) (Or.inl ⟨by rfl, ?hy30b⟩) (by assumption) ?r30b
              case hy30b => ((intro w hSw; (try dsimp only at hSw); go_simp); (try with_reducible rfl))
              (try simp only [Act.put, List.setIfInBounds_toArray, List.set_cons_zero, List.set_cons_succ])
              refine wpAnyH_take (i := 31) (v := ?v31b) (by simp only [List.getElem?_toArray, List.getElem?_cons_succ, List.getElem?_cons_zero]; rfl) (by kernel_rfl) (by kernel_rfl) (by kernel_rfl) (by exact fun _ _ _ h => h) (Or.inl ⟨by rfl, ?hy31b⟩) (by assumption) ?r31b
              case hy31b => ((intro w hSw; (try dsimp only at hSw); go_simp); (try with_reducible rfl))
              (try simp only [Act.put, List.setIfInBounds_toArray, List.set_cons_zero, List.set_cons_succ])
              refine wpAnyH_take (i := 32) (v := ?v32b) (by simp only [List.getElem?_toArray, List.getElem?_cons_succ, List.getElem?_cons_zero]; rfl) (by kernel_rfl) (by kernel_rfl) (by kernel_rfl) (by exact fun _ _ _ h => h) (Or.inl ⟨by rfl, ?hy32b⟩) (by assumption) ?r32b
              case hy32b => ((intro w hSw; (try dsimp only at hSw); go_simp); (try with_reducible rfl))
              (try simp only [Act.put, List.setIfInBounds_toArray, List.set_cons_zero, List.set_cons_succ])
              refine wpAnyH_take (i := 33) (v := ?v33b) (by simp only [List.getElem?_toArray, List.getElem?_cons_succ, List.getElem?_cons_zero]; rfl) (by kernel_rfl) (by kernel_rfl) (by kernel_rfl) (by exact fun _ _ _ h => h) (Or.inl ⟨by rfl, ?hy33b⟩) (by assumption) ?r33b
              case hy33b => ((intro w hSw; (try dsimp only at hSw); go_simp); (try with_reducible rfl))
              (try simp only [Act.put, List.setIfInBounds_toArray, List.set_cons_zero, List.set_cons_succ])
              refine wpAnyH_take (i := 34) (v := ?v34b) (by simp only [List.getElem?_toArray, List.getElem?_cons_succ, List.getElem?_cons_zero]; rfl) (by kernel_rfl) (by kernel_rfl) (by kernel_rfl) (by exact fun _ _ _ h => h) (Or.inl ⟨by rfl, ?hy34b⟩) (by assumption) ?r34b
              case hy34b => ((intro w hSw; (try dsimp only at hSw); go_simp); (try with_reducible rfl))
              (try simp only [Act.put, List.setIfInBounds_toArray, List.set_cons_zero, List.set_cons_succ])
              refine wpAnyH_take (i := 35) (v := ?v35b) (by simp only [List.getElem?_toArray, List.getElem?_cons_succ, List.getElem?_cons_zero]; rfl) (by kernel_rfl) (by kernel_rfl) (by kernel_rfl) (by exact fun _ _ _ h => h) (Or.inl ⟨by rfl, ?hy35b⟩) (by assumption) ?r35b
              case hy35b => ((intro w hSw; (try dsimp only at hSw); go_simp); (try with_reducible rfl))
              (try simp only [Act.put, List.setIfInBounds_toArray, List.set_cons_zero, List.set_cons_succ])
              refine wpAnyH_take (i := 36) (v := ?v36b) (by simp only [List.getElem?_toArray, List.getElem?_cons_succ, List.getElem?_cons_zero]; rfl) (by kernel_rfl) (by kernel_rfl) (by kernel_rfl) (by exact fun _ _ _ h => h) (Or.inl ⟨by rfl, ?hy36b⟩) (by assumption) ?r36b
              case hy36b => ((intro w hSw; (try dsimp only at hSw); go_simp); (try with_reducible rfl))
              (try simp only [Act.put, List.setIfInBounds_toArray, List.set_cons_zero, List.set_cons_succ])
              refine wpAnyH_done (by kernel_rfl) ?_ _
              all_goals
                go_wp2
                go_roundw
                case rel => exact ⟨k + 1, ⟨tp, tb, ts⟩, by omega, by omega, by go_num, E67.out.2, E67.out.1, fun p hp => V9.out p (by rw [List.mem_singleton.1 hp]; simp), B9.out⟩
                case measure => simp [intOf]; omega
            · obtain ⟨⟨tp, tb, ts⟩, te⟩ := r
              dsimp only at e1 k0 k1 k2 HV ⊢
              obtain rfl | rfl := e1
              · have CR := Lib.hid (fun w => hvr ▸ right_any v w hvo)
                have l3 : ¬ v.p < v.b := by have := ((rightB_iff v).1 hvr).1; omega
                have V0 := Lib.hid (show Vb wc [(g0, v), (wr.heap.size, v)] from fun p hp => by
                    simp only [List.mem_cons, List.not_mem_nil, or_false] at hp
                    rcases hp with rfl | rfl
                    · exact HV.out (g0, v) (by simp)
                    · exact HV.out (wr.heap.size, v) (by simp))
                obtain ⟨m0, m1, m2', z4⟩ := HV.out.cells (g := wr.heap.size) (x := v) (by simp)
                obtain ⟨i0, i1, i2, g3, g4, g5, z5⟩ := cells3 (HV.out (g0, v) (by simp))
                go_upto_region 12 with fail
                have HSS := Lib.hid (fun (X : World) (h : Vb X [(g0, v), (wr.heap.size, v)]) (hb : Below w.heap.size w X) => And.intro h.two (HC0.out X hb).1)
                refine wp_region_held_drew (S := (fun w' => (w'.cell? ⟨g0, 0, none⟩ = some (.int .u64 (v.p : Int)) ∧ w'.cell? ⟨g0, 1, none⟩ = some (.int .u64 (v.b : Int)) ∧ w'.cell? ⟨g0, 2, none⟩ = some (.string v.s) ∧ w'.cell? ⟨wr.heap.size, 0, none⟩ = some (.int .u64 (v.p : Int)) ∧ w'.cell? ⟨wr.heap.size, 1, none⟩ = some (.int .u64 (v.b : Int))) ∧ w'.cell? (a.add k) = some (.int .u64 (x : Int)))) (by kernel_rfl) ?hS0c (fun hHeld => ?s0c)
                case hS0c => ((try dsimp only); (first | exact HSS.out _ V9.out B9.out | exact HSS.out _ V0.out.drew HBl.out.drew | go_keep))
                refine wpAnyH_take (i := 0) (v := ?v0c) (by simp only [List.getElem?_toArray, List.getElem?_cons_zero]; rfl) (by kernel_rfl) (by kernel_rfl) (by kernel_rfl) (by exact fun _ _ _ h => h) (Or.inl ⟨by rfl, ?hy0c⟩) (by assumption) ?r0c
                case hy0c => ((intro w hSw; (try dsimp only at hSw); go_simp); (try with_reducible rfl))
                (try simp only [Act.put, List.setIfInBounds_toArray, List.set_cons_zero, List.set_cons_succ])
                refine wpAnyH_take (i := 1) (v := ?v1c) (by simp only [List.getElem?_toArray, List.getElem?_cons_succ, List.getElem?_cons_zero]; rfl) (by kernel_rfl) (by kernel_rfl) (by kernel_rfl) (by exact fun _ _ _ h => h) (Or.inl ⟨by rfl, ?hy1c⟩) (by assumption) ?r1c
                case hy1c => ((intro w hSw; (try dsimp only at hSw); go_simp); (try with_reducible rfl))
                (try simp only [Act.put, List.setIfInBounds_toArray, List.set_cons_zero, List.set_cons_succ])
                refine wpAnyH_take (i := 2) (v := ?v2c) (by simp only [List.getElem?_toArray, List.getElem?_cons_succ, List.getElem?_cons_zero]; rfl) (by kernel_rfl) (by kernel_rfl) (by kernel_rfl) (by exact fun _ _ _ h => h) (Or.inl ⟨by rfl, ?hy2c⟩) (by assumption) ?r2c
                case hy2c => ((intro w hSw; (try dsimp only at hSw); go_simp); (try with_reducible rfl))
                (try simp only [Act.put, List.setIfInBounds_toArray, List.set_cons_zero, List.set_cons_succ])
                refine wpAnyH_take (i := 3) (v := ?v3c) (by simp only [List.getElem?_toArray, List.getElem?_cons_succ, List.getElem?_cons_zero]; rfl) (by kernel_rfl) (by kernel_rfl) (by kernel_rfl) (by exact fun _ _ _ h => h) (Or.inl ⟨by rfl, ?hy3c⟩) (by assumption) ?r3c
                case hy3c => ((intro w hSw; (try dsimp only at hSw); go_simp); (try with_reducible rfl))
                (try simp only [Act.put, List.setIfInBounds_toArray, List.set_cons_zero, List.set_cons_succ])
                refine wpAnyH_take (i := 4) (v := ?v4c) (by simp only [List.getElem?_toArray, List.getElem?_cons_succ, List.getElem?_cons_zero]; rfl) (by kernel_rfl) (by kernel_rfl) (by kernel_rfl) (by exact fun _ _ _ h => h) (Or.inl ⟨by rfl, ?hy4c⟩) (by assumption) ?r4c
                case hy4c => ((intro w hSw; (try dsimp only at hSw); go_simp); (try with_reducible rfl))
                (try simp only [Act.put, List.setIfInBounds_toArray, List.set_cons_zero, List.set_cons_succ])
                refine wpAnyH_take (i := 5) (v := ?v5c) (by simp only [List.getElem?_toArray, List.getElem?_cons_succ, List.getElem?_cons_zero]; rfl) (by kernel_rfl) (by kernel_rfl) (by kernel_rfl) (by exact fun _ _ _ h => h) (Or.inl ⟨by rfl, ?hy5c⟩) (by assumption) ?r5c
                case hy5c => ((intro w hSw; (try dsimp only at hSw); go_simp); (try with_reducible rfl))
                (try simp only [Act.put, List.setIfInBounds_toArray, List.set_cons_zero, List.set_cons_succ])
                refine wpAnyH_take (i := 6) (v := ?v6c) (by simp only [List.getElem?_toArray, List.getElem?_cons_succ, List.getElem?_cons_zero]; rfl) (by kernel_rfl) (by kernel_rfl) (by kernel_rfl) (by exact fun _ _ _ h => h) (Or.inl ⟨by rfl, ?hy6c⟩) (by assumption) ?r6c
                case hy6c => ((intro w hSw; (try dsimp only at hSw); go_simp); (try with_reducible rfl))
                (try simp only [Act.put, List.setIfInBounds_toArray, List.set_cons_zero, List.set_cons_succ])
                refine wpAnyH_take (i := 7) (v := ?v7c) (by simp only [List.getElem?_toArray, List.getElem?_cons_succ, List.getElem?_cons_zero]; rfl) (by kernel_rfl) (by kernel_rfl) (by kernel_rfl) (by exact fun _ _ _ h => h) (Or.inl ⟨by rfl, ?hy7c⟩) (by assumption) ?r7c
                case hy7c => ((intro w hSw; (try dsimp only at hSw); go_simp); (try with_reducible rfl))
                (try simp only [Act.put, List.setIfInBounds_toArray, List.set_cons_zero, List.set_cons_succ])
                refine wpAnyH_take (i := 8) (v := ?v8c) (by simp only [List.getElem?_toArray, List.getElem?_cons_succ, List.getElem?_cons_zero]; rfl) (by kernel_rfl) (by kernel_rfl) (by kernel_rfl) (by exact fun _ _ _ h => h) (Or.inl ⟨by rfl, ?hy8c⟩) (by assumption) ?r8c
                case hy8c => ((intro w hSw; (try dsimp only at hSw); go_simp); (try with_reducible rfl))
                (try simp only [Act.put, List.setIfInBounds_toArray, List.set_cons_zero, List.set_cons_succ])
                refine wpAnyH_take (i := 9) (v := ?v9c) (by simp only [List.getElem?_toArray, List.getElem?_cons_succ, List.getElem?_cons_zero]; rfl) (by kernel_rfl) (by kernel_rfl) (by kernel_rfl) (by exact fun _ _ _ h => h) (Or.inl ⟨by rfl, ?hy9c⟩) (by assumption) ?r9c
                case hy9c => ((intro w hSw; (try dsimp only at hSw); go_simp); (try with_reducible rfl))
                (try simp only [Act.put, List.setIfInBounds_toArray, List.set_cons_zero, List.set_cons_succ])
                refine wpAnyH_take (i := 10) (v := ?v10c) (by simp only [List.getElem?_toArray, List.getElem?_cons_succ, List.getElem?_cons_zero]; rfl) (by kernel_rfl) (by kernel_rfl) (by kernel_rfl) (by exact fun _ _ _ h => h) (Or.inl ⟨by rfl, ?hy10c⟩) (by assumption) ?r10c
                case hy10c => ((intro w hSw; (try dsimp only at hSw); go_simp); (try with_reducible rfl))
                (try simp only [Act.put, List.setIfInBounds_toArray, List.set_cons_zero, List.set_cons_succ])
                refine wpAnyH_take (i := 11) (v := ?v11c) (by simp only [List.getElem?_toArray, List.getElem?_cons_succ, List.getElem?_cons_zero]; rfl) (by kernel_rfl) (by kernel_rfl) (by kernel_rfl) (by exact fun _ _ _ h => h) (Or.inl ⟨by rfl, ?hy11c⟩) (by assumption) ?r11c
                case hy11c => ((intro w hSw; (try dsimp only at hSw); go_simp); (try with_reducible rfl))
                (try simp only [Act.put, List.setIfInBounds_toArray, List.set_cons_zero, List.set_cons_succ])
                refine wpAnyH_take (i := 12) (v := ?v12c) (by simp only [List.getElem?_toArray, List.getElem?_cons_succ, List.getElem?_cons_zero]; rfl) (by kernel_rfl) (by kernel_rfl) (by kernel_rfl) (by exact fun _ _ _ h => h) (Or.inl ⟨by rfl, ?hy12c⟩) (by assumption) ?r12c
                case hy12c => ((intro w hSw; (try dsimp only at hSw); go_simp); (try with_reducible rfl))
                (try simp only [Act.put, List.setIfInBounds_toArray, List.set_cons_zero, List.set_cons_succ])
                refine wpAnyH_take (i := 13) (v := ?v13c) (by simp only [List.getElem?_toArray, List.getElem?_cons_succ, List.getElem?_cons_zero]; rfl) (by kernel_rfl) (by kernel_rfl) (by kernel_rfl) (by exact fun _ _ _ h => h) (Or.inl ⟨by rfl, ?hy13c⟩) (by assumption) ?r13c
                case hy13c => ((intro w hSw; (try dsimp only at hSw); go_simp); (try with_reducible rfl))
                (try simp only [Act.put, List.setIfInBounds_toArray, List.set_cons_zero, List.set_cons_succ])
                refine wpAnyH_take (i := 14) (v := ?v14c) (by simp only [List.getElem?_toArray, List.getElem?_cons_succ, List.getElem?_cons_zero]; rfl) (by kernel_rfl) (by kernel_rfl) (by kernel_rfl) (by exact fun _ _ _ h => h) (Or.inl ⟨by rfl, ?hy14c⟩) (by assumption) ?r14c
                case hy14c => ((intro w hSw; (try dsimp only at hSw); go_simp); (try with_reducible rfl))
                (try simp only [Act.put, List.setIfInBounds_toArray, List.set_cons_zero, List.set_cons_succ])
                refine wpAnyH_take (i := 15) (v := ?v15c) (by simp only [List.getElem?_toArray, List.getElem?_cons_succ, List.getElem?_cons_zero]; rfl) (by kernel_rfl) (by kernel_rfl) (by kernel_rfl) (by exact fun _ _ _ h => h) (Or.inl ⟨by rfl, ?hy15c⟩) (by assumption) ?r15c
                case hy15c => ((intro w hSw; (try dsimp only at hSw); go_simp); (try with_reducible rfl))
                (try simp only [Act.put, List.setIfInBounds_toArray, List.set_cons_zero, List.set_cons_succ])
                refine wpAnyH_take (i := 16) (v := ?v16c) (by simp only [List.getElem?_toArray, List.getElem?_cons_succ, List.getElem?_cons_zero]; rfl) (by kernel_rfl) (by kernel_rfl) (by kernel_rfl) (by exact fun _ _ _ h => h) (Or.inl ⟨by rfl, ?hy16c⟩) (by assumption) ?r16c
                case hy16c => ((intro w hSw; (try dsimp only at hSw); go_simp); (try with_reducible rfl))
                (try simp only [Act.put, List.setIfInBounds_toArray, List.set_cons_zero, List.set_cons_succ])
                refine wpAnyH_take (i := 17) (v := ?v17c) (by simp only [List.getElem?_toArray, List.getElem?_cons_succ, List.getElem?_cons_zero]; rfl) (by kernel_rfl) (by kernel_rfl) (by kernel_rfl) (by exact fun _ _ _ h => h) (Or.inl ⟨by rfl, ?hy17c⟩) (by assumption) ?r17c
                case hy17c => ((intro w hSw; (try dsimp only at hSw); go_simp); (try with_reducible rfl))
                (try simp only [Act.put, List.setIfInBounds_toArray, List.set_cons_zero, List.set_cons_succ])
                refine wpAnyH_take (i := 18) (v := ?v18c) (by simp only [List.getElem?_toArray, List.getElem?_cons_succ, List.getElem?_cons_zero]; rfl) (by kernel_rfl) (by kernel_rfl) (by kernel_rfl) (by exact fun _ _ _ h => h) (Or.inl ⟨by rfl, ?hy18c⟩) (by assumption) ?r18c
                case hy18c => ((intro w hSw; (try dsimp only at hSw); go_simp); (try with_reducible rfl))
                (try simp only [Act.put, List.setIfInBounds_toArray, List.set_cons_zero, List.set_cons_succ])
                refine wpAnyH_take (i := 19) (v := ?v19c) (by simp only [List.getElem?_toArray, List.getElem?_cons_succ, List.getElem?_cons_zero]; rfl) (by kernel_rfl) (by kernel_rfl) (by kernel_rfl) (by exact fun _ _ _ h => h) (Or.inl ⟨by rfl, ?hy19c⟩) (by assumption) ?r19c
                case hy19c => ((intro w hSw; (try dsimp only at hSw); go_simp); (try with_reducible rfl))
                (try simp only [Act.put, List.setIfInBounds_toArray, List.set_cons_zero, List.set_cons_succ])
                refine wpAnyH_take (i := 20) (v := ?v20c) (by simp only [List.getElem?_toArray, List.getElem?_cons_succ, List.getElem?_cons_zero]; rfl) (by kernel_rfl) (by kernel_rfl) (by kernel_rfl) (by exact fun _ _ _ h => h) (Or.inl ⟨by rfl, ?hy20c⟩) (by assumption) ?r20c
                case hy20c => ((intro w hSw; (try dsimp only at hSw); go_simp); (try with_reducible rfl))
                (try simp only [Act.put, List.setIfInBounds_toArray, List.set_cons_zero, List.set_cons_succ])
                refine wpAnyH_ready (rs := [21]) (by kernel_rfl) (by simp) ?_
                refine AllReadyH.cons (by simp only [List.getElem?_toArray, List.getElem?_cons_succ, List.getElem?_cons_zero]; rfl) (fun K hK => ?_) AllReadyH.nil
                ((go_simp; go_at_call 16; refine (CR.out _).mono ?_; rintro e w6 ⟨rfl, b6⟩; have V9 := Lib.hid (Vb.below V0.out.drew b6); have B9 := Lib.hid (bt' HBl.out.drew b6); clear b6))
                refine hK.out _ _ ?hS21c (fun hHeld => ?s21c)
                case hS21c => ((try dsimp only); (first | exact HSS.out _ V9.out B9.out | exact HSS.out _ V0.out.drew HBl.out.drew | go_keep))
                clear hK K
                (try simp only [Act.put, List.setIfInBounds_toArray, List.set_cons_zero, List.set_cons_succ])
                refine wpAnyH_take (i := 22) (v := ?v22c) (by simp only [List.getElem?_toArray, List.getElem?_cons_succ, List.getElem?_cons_zero]; rfl) (by kernel_rfl) (by kernel_rfl) (by kernel_rfl) (by exact fun _ _ _ h => h) (Or.inl ⟨by rfl, ?hy22c⟩) (by assumption) ?r22c
                case hy22c => ((intro w hSw; (try dsimp only at hSw); go_simp); (try with_reducible rfl))
                (try simp only [Act.put, List.setIfInBounds_toArray, List.set_cons_zero, List.set_cons_succ])
                refine wpAnyH_take (i := 23) (v := ?v23c) (by simp only [List.getElem?_toArray, List.getElem?_cons_succ, List.getElem?_cons_zero]; rfl) (by kernel_rfl) (by kernel_rfl) (by kernel_rfl) (by exact fun _ _ _ h => h) (Or.inl ⟨by rfl, ?hy23c⟩) (by assumption) ?r23c
                case hy23c => ((intro w hSw; (try dsimp only at hSw); go_simp); (try with_reducible rfl))
                (try simp only [Act.put, List.setIfInBounds_toArray, List.set_cons_zero, List.set_cons_succ])
                refine wpAnyH_take (i := 24) (v := ?v24c) (by simp only [List.getElem?_toArray, List.getElem?_cons_succ, List.getElem?_cons_zero]; rfl) (by kernel_rfl) (by kernel_rfl) (by kernel_rfl) (by exact fun _ _ _ h => h) (Or.inl ⟨by rfl, ?hy24c⟩) (by assumption) ?r24c
                case hy24c => ((intro w hSw; (try dsimp only at hSw); go_simp); (try with_reducible rfl))
                (try simp only [Act.put, List.setIfInBounds_toArray, List.set_cons_zero, List.set_cons_succ])
                refine wpAnyH_take (i := 25) (v := ?v25c) (by simp only [List.getElem?_toArray, List.getElem?_cons_succ, List.getElem?_cons_zero]; rfl) (by kernel_rfl) (by kernel_rfl) (by kernel_rfl) (by exact fun _ _ _ h => h) (Or.inl ⟨by rfl, ?hy25c⟩) (by assumption) ?r25c
                case hy25c => ((intro w hSw; (try dsimp only at hSw); go_simp); (try with_reducible rfl))
                (try simp only [Act.put, List.setIfInBounds_toArray, List.set_cons_zero, List.set_cons_succ])
                refine wpAnyH_take (i := 26) (v := ?v26c) (by simp only [List.getElem?_toArray, List.getElem?_cons_succ, List.getElem?_cons_zero]; rfl) (by kernel_rfl) (by kernel_rfl) (by kernel_rfl) (by exact fun _ _ _ h => h) (Or.inl ⟨by rfl, ?hy26c⟩) (by assumption) ?r26c
                case hy26c => ((intro w hSw; (try dsimp only at hSw); go_simp); (try with_reducible rfl))
                (try simp only [Act.put, List.setIfInBounds_toArray, List.set_cons_zero, List.set_cons_succ])
                refine wpAnyH_take (i := 27) (v := ?v27c) (by simp only [List.getElem?_toArray, List.getElem?_cons_succ, List.getElem?_cons_zero]; rfl) (by kernel_rfl) (by kernel_rfl) (by kernel_rfl) (by exact fun _ _ _ h => h) (Or.inl ⟨by rfl, ?hy27c⟩) (by assumption) ?r27c
                case hy27c => ((intro w hSw; (try dsimp only at hSw); go_simp); (try with_reducible rfl))
                (try simp only [Act.put, List.setIfInBounds_toArray, List.set_cons_zero, List.set_cons_succ])
                refine wpAnyH_take (i := 28) (v := undef) (by simp only [List.getElem?_toArray, List.getElem?_cons_succ, List.getElem?_cons_zero]; rfl) (by kernel_rfl) (by kernel_rfl) (by kernel_rfl) (by exact fun _ _ _ h => h) (Or.inr ⟨by rfl, rfl⟩) (by assumption) ?r28c
                (try simp only [Act.put, List.setIfInBounds_toArray, List.set_cons_zero, List.set_cons_succ])
                refine wpAnyH_take (i := 29) (v := undef) (by simp only [List.getElem?_toArray, List.getElem?_cons_succ, List.getElem?_cons_zero]; rfl) (by kernel_rfl) (by kernel_rfl) (by kernel_rfl) (by exact fun _ _ _ h => h) (Or.inr ⟨by rfl, rfl⟩) (by assumption) ?r29c
                (try simp only [Act.put, List.setIfInBounds_toArray, List.set_cons_zero, List.set_cons_succ])
                refine wpAnyH_take (i := 30) (v := undef) (by simp only [List.getElem?_toArray, List.getElem?_cons_succ, List.getElem?_cons_zero]; rfl) (by kernel_rfl) (by kernel_rfl) (by kernel_rfl) (by exact fun _ _ _ h => h) (Or.inr ⟨by rfl, rfl⟩) (by assumption) ?r30c
                (try simp only [Act.put, List.setIfInBounds_toArray, List.set_cons_zero, List.set_cons_succ])
                refine wpAnyH_take (i := 31) (v := undef) (by simp only [List.getElem?_toArray, List.getElem?_cons_succ, List.getElem?_cons_zero]; rfl) (by kernel_rfl) (by kernel_rfl) (by kernel_rfl) (by exact fun _ _ _ h => h) (Or.inr ⟨by rfl, rfl⟩) (by assumption) ?r31c
                (try simp only [Act.put, List.setIfInBounds_toArray, List.set_cons_zero, List.set_cons_succ])
                refine wpAnyH_take (i := 32) (v := undef) (by simp only [List.getElem?_toArray, List.getElem?_cons_succ, List.getElem?_cons_zero]; rfl) (by kernel_rfl) (by kernel_rfl) (by kernel_rfl) (by exact fun _ _ _ h => h) (Or.inr ⟨by rfl, rfl⟩) (by assumption) ?r32c
                (try simp only [Act.put, List.setIfInBounds_toArray, List.set_cons_zero, List.set_cons_succ])
                refine wpAnyH_take (i := 33) (v := undef) (by simp only [List.getElem?_toArray, List.getElem?_cons_succ, List.getElem?_cons_zero]; rfl) (by kernel_rfl) (by kernel_rfl) (by kernel_rfl) (by exact fun _ _ _ h => h) (Or.inr ⟨by rfl, rfl⟩) (by assumption) ?r33c
                (try simp only [Act.put, List.setIfInBounds_toArray, List.set_cons_zero, List.set_cons_succ])
                refine wpAnyH_take (i := 34) (v := undef) (by simp only [List.getElem?_toArray, List.getElem?_cons_succ, List.getElem?_cons_zero]; rfl) (by kernel_rfl) (by kernel_rfl) (by kernel_rfl) (by exact fun _ _ _ h => h) (Or.inr ⟨by rfl, rfl⟩) (by assumption) ?r34c
                (try simp only [Act.put, List.setIfInBounds_toArray, List.set_cons_zero, List.set_cons_succ])
                refine wpAnyH_take (i := 35) (v := ?v35c) (by simp only [List.getElem?_toArray, List.getElem?_cons_succ, List.getElem?_cons_zero]; rfl) (by kernel_rfl) (by kernel_rfl) (by kernel_rfl) (by exact fun _ _ _ h => h) (Or.inl ⟨by rfl, ?hy35c⟩) (by assumption) ?r35c
                case hy35c => ((intro w hSw; (try dsimp only at hSw); go_simp); (try with_reducible rfl))
                (try simp only [Act.put, List.setIfInBounds_toArray, List.set_cons_zero, List.set_cons_succ])
                refine wpAnyH_take (i := 36) (v := ?v36c) (by simp only [List.getElem?_toArray, List.getElem?_cons_succ, List.getElem?_cons_zero]; rfl) (by kernel_rfl) (by kernel_rfl) (by kernel_rfl) (by exact fun _ _ _ h => h) (Or.inl ⟨by rfl, ?hy36c⟩) (by assumption) ?r36c
                case hy36c => ((intro w hSw; (try dsimp only at hSw); go_simp); (try with_reducible rfl))
                (try simp only [Act.put, List.setIfInBounds_toArray, List.set_cons_zero, List.set_cons_succ])
                refine wpAnyH_done (by kernel_rfl) ?_ _
                all_goals
                  go_wp2
                  go_roundw
                  case rel => exact ⟨k + 1, v, by omega, by omega, by go_num, hvo, hvr, fun p hp => V9.out p (by rw [List.mem_singleton.1 hp]; simp), B9.out⟩
                  case measure => simp [intOf]; omega
              · have CR := Lib.hid (fun w => hvr ▸ right_any v w hvo)
                have l3 : ¬ v.p < v.b := by have := ((rightB_iff v).1 hvr).1; omega
                have V0 := Lib.hid (show Vb wc [(g0, v), (wr.heap.size, v)] from fun p hp => by
                    simp only [List.mem_cons, List.not_mem_nil, or_false] at hp
                    rcases hp with rfl | rfl
                    · exact HV.out (g0, v) (by simp)
                    · exact HV.out (wr.heap.size, v) (by simp))
                obtain ⟨m0, m1, m2', z4⟩ := HV.out.cells (g := wr.heap.size) (x := v) (by simp)
                obtain ⟨i0, i1, i2, g3, g4, g5, z5⟩ := cells3 (HV.out (g0, v) (by simp))
                go_upto_region 12 with fail
                have HSS := Lib.hid (fun (X : World) (h : Vb X [(g0, v), (wr.heap.size, v)]) (hb : Below w.heap.size w X) => And.intro h.two (HC0.out X hb).1)
                refine wp_region_held_drew (S := (fun w' => (w'.cell? ⟨g0, 0, none⟩ = some (.int .u64 (v.p : Int)) ∧ w'.cell? ⟨g0, 1, none⟩ = some (.int .u64 (v.b : Int)) ∧ w'.cell? ⟨g0, 2, none⟩ = some (.string v.s) ∧ w'.cell? ⟨wr.heap.size, 0, none⟩ = some (.int .u64 (v.p : Int)) ∧ w'.cell? ⟨wr.heap.size, 1, none⟩ = some (.int .u64 (v.b : Int))) ∧ w'.cell? (a.add k) = some (.int .u64 (x : Int)))) (by kernel_rfl) ?hS0d (fun hHeld => ?s0d)
                case hS0d => ((try dsimp only); (first | exact HSS.out _ V9.out B9.out | exact HSS.out _ V0.out.drew HBl.out.drew | go_keep))
                refine wpAnyH_take (i := 0) (v := ?v0d) (by simp only [List.getElem?_toArray, List.getElem?_cons_zero]; rfl) (by kernel_rfl) (by kernel_rfl) (by kernel_rfl) (by exact fun _ _ _ h => h) (Or.inl ⟨by rfl, ?hy0d⟩) (by assumption) ?r0d
                case hy0d => ((intro w hSw; (try dsimp only at hSw); go_simp); (try with_reducible rfl))
                (try simp only [Act.put, List.setIfInBounds_toArray, List.set_cons_zero, List.set_cons_succ])
                refine wpAnyH_take (i := 1) (v := ?v1d) (by simp only [List.getElem?_toArray, List.getElem?_cons_succ, List.getElem?_cons_zero]; rfl) (by kernel_rfl) (by kernel_rfl) (by kernel_rfl) (by exact fun _ _ _ h => h) (Or.inl ⟨by rfl, ?hy1d⟩) (by assumption) ?r1d
                case hy1d => ((intro w hSw; (try dsimp only at hSw); go_simp); (try with_reducible rfl))
                (try simp only [Act.put, List.setIfInBounds_toArray, List.set_cons_zero, List.set_cons_succ])
                refine wpAnyH_take (i := 2) (v := ?v2d) (by simp only [List.getElem?_toArray, List.getElem?_cons_succ, List.getElem?_cons_zero]; rfl) (by kernel_rfl) (by kernel_rfl) (by kernel_rfl) (by exact fun _ _ _ h => h) (Or.inl ⟨by rfl, ?hy2d⟩) (by assumption) ?r2d
                case hy2d => ((intro w hSw; (try dsimp only at hSw); go_simp); (try with_reducible rfl))
                (try simp only [Act.put, List.setIfInBounds_toArray, List.set_cons_zero, List.set_cons_succ])
                refine wpAnyH_take (i := 3) (v := ?v3d) (by simp only [List.getElem?_toArray, List.getElem?_cons_succ, List.getElem?_cons_zero]; rfl) (by kernel_rfl) (by kernel_rfl) (by kernel_rfl) (by exact fun _ _ _ h => h) (Or.inl ⟨by rfl, ?hy3d⟩) (by assumption) ?r3d
                case hy3d => ((intro w hSw; (try dsimp only at hSw); go_simp); (try with_reducible rfl))
                (try simp only [Act.put, List.setIfInBounds_toArray, List.set_cons_zero, List.set_cons_succ])
                refine wpAnyH_take (i := 4) (v := ?v4d) (by simp only [List.getElem?_toArray, List.getElem?_cons_succ, List.getElem?_cons_zero]; rfl) (by kernel_rfl) (by kernel_rfl) (by kernel_rfl) (by exact fun _ _ _ h => h) (Or.inl ⟨by rfl, ?hy4d⟩) (by assumption) ?r4d
                case hy4d => ((intro w hSw; (try dsimp only at hSw); go_simp); (try with_reducible rfl))
                (try simp only [Act.put, List.setIfInBounds_toArray, List.set_cons_zero, List.set_cons_succ])
                refine wpAnyH_take (i := 5) (v := ?v5d) (by simp only [List.getElem?_toArray, List.getElem?_cons_succ, List.getElem?_cons_zero]; rfl) (by kernel_rfl) (by kernel_rfl) (by kernel_rfl) (by exact fun _ _ _ h => h) (Or.inl ⟨by rfl, ?hy5d⟩) (by assumption) ?r5d
                case hy5d => ((intro w hSw; (try dsimp only at hSw); go_simp); (try with_reducible rfl))
                (try simp only [Act.put, List.setIfInBounds_toArray, List.set_cons_zero, List.set_cons_succ])
                refine wpAnyH_take (i := 6) (v := ?v6d) (by simp only [List.getElem?_toArray, List.getElem?_cons_succ, List.getElem?_cons_zero]; rfl) (by kernel_rfl) (by kernel_rfl) (by kernel_rfl) (by exact fun _ _ _ h => h) (Or.inl ⟨by rfl, ?hy6d⟩) (by assumption) ?r6d
                case hy6d => ((intro w hSw; (try dsimp only at hSw); go_simp); (try with_reducible rfl))
                (try simp only [Act.put, List.setIfInBounds_toArray, List.set_cons_zero, List.set_cons_succ])
                refine wpAnyH_take (i := 7) (v := ?v7d) (by simp only [List.getElem?_toArray, List.getElem?_cons_succ, List.getElem?_cons_zero]; rfl) (by kernel_rfl) (by kernel_rfl) (by kernel_rfl) (by exact fun _ _ _ h => h) (Or.inl ⟨by rfl, ?hy7d⟩) (by assumption) ?r7d
                case hy7d => ((intro w hSw; (try dsimp only at hSw); go_simp); (try with_reducible rfl))
                (try simp only [Act.put, List.setIfInBounds_toArray, List.set_cons_zero, List.set_cons_succ])
                refine wpAnyH_take (i := 8) (v := ?v8d) (by simp only [List.getElem?_toArray, List.getElem?_cons_succ, List.getElem?_cons_zero]; rfl) (by kernel_rfl) (by kernel_rfl) (by kernel_rfl) (by exact fun _ _ _ h => h) (Or.inl ⟨by rfl, ?hy8d⟩) (by assumption) ?r8d
                case hy8d => ((intro w hSw; (try dsimp only at hSw); go_simp); (try with_reducible rfl))
                (try simp only [Act.put, List.setIfInBounds_toArray, List.set_cons_zero, List.set_cons_succ])
                refine wpAnyH_take (i := 9) (v := ?v9d) (by simp only [List.getElem?_toArray, List.getElem?_cons_succ, List.getElem?_cons_zero]; rfl) (by kernel_rfl) (by kernel_rfl) (by kernel_rfl) (by exact fun _ _ _ h => h) (Or.inl ⟨by rfl, ?hy9d⟩) (by assumption) ?r9d
                case hy9d => ((intro w hSw; (try dsimp only at hSw); go_simp); (try with_reducible rfl))
                (try simp only [Act.put, List.setIfInBounds_toArray, List.set_cons_zero, List.set_cons_succ])
                refine wpAnyH_take (i := 10) (v := ?v10d) (by simp only [List.getElem?_toArray, List.getElem?_cons_succ, List.getElem?_cons_zero]; rfl) (by kernel_rfl) (by kernel_rfl) (by kernel_rfl) (by exact fun _ _ _ h => h) (Or.inl ⟨by rfl, ?hy10d⟩) (by assumption) ?r10d
                case hy10d => ((intro w hSw; (try dsimp only at hSw); go_simp); (try with_reducible rfl))
                (try simp only [Act.put, List.setIfInBounds_toArray, List.set_cons_zero, List.set_cons_succ])
                refine wpAnyH_take (i := 11) (v := ?v11d) (by simp only [List.getElem?_toArray, List.getElem?_cons_succ, List.getElem?_cons_zero]; rfl) (by kernel_rfl) (by kernel_rfl) (by kernel_rfl) (by exact fun _ _ _ h => h) (Or.inl ⟨by rfl, ?hy11d⟩) (by assumption) ?r11d
                case hy11d => ((intro w hSw; (try dsimp only at hSw); go_simp); (try with_reducible rfl))
                (try simp only [Act.put, List.setIfInBounds_toArray, List.set_cons_zero, List.set_cons_succ])
                refine wpAnyH_take (i := 12) (v := ?v12d) (by simp only [List.getElem?_toArray, List.getElem?_cons_succ, List.getElem?_cons_zero]; rfl) (by kernel_rfl) (by kernel_rfl) (by kernel_rfl) (by exact fun _ _ _ h => h) (Or.inl ⟨by rfl, ?hy12d⟩) (by assumption) ?r12d
                case hy12d => ((intro w hSw; (try dsimp only at hSw); go_simp); (try with_reducible rfl))
                (try simp only [Act.put, List.setIfInBounds_toArray, List.set_cons_zero, List.set_cons_succ])
                refine wpAnyH_take (i := 13) (v := ?v13d) (by simp only [List.getElem?_toArray, List.getElem?_cons_succ, List.getElem?_cons_zero]; rfl) (by kernel_rfl) (by kernel_rfl) (by kernel_rfl) (by exact fun _ _ _ h => h) (Or.inl ⟨by rfl, ?hy13d⟩) (by assumption) ?r13d
                case hy13d => ((intro w hSw; (try dsimp only at hSw); go_simp); (try with_reducible rfl))
                (try simp only [Act.put, List.setIfInBounds_toArray, List.set_cons_zero, List.set_cons_succ])
                refine wpAnyH_take (i := 14) (v := ?v14d) (by simp only [List.getElem?_toArray, List.getElem?_cons_succ, List.getElem?_cons_zero]; rfl) (by kernel_rfl) (by kernel_rfl) (by kernel_rfl) (by exact fun _ _ _ h => h) (Or.inl ⟨by rfl, ?hy14d⟩) (by assumption) ?r14d
                case hy14d => ((intro w hSw; (try dsimp only at hSw); go_simp); (try with_reducible rfl))
                (try simp only [Act.put, List.setIfInBounds_toArray, List.set_cons_zero, List.set_cons_succ])
                refine wpAnyH_take (i := 15) (v := ?v15d) (by simp only [List.getElem?_toArray, List.getElem?_cons_succ, List.getElem?_cons_zero]; rfl) (by kernel_rfl) (by kernel_rfl) (by kernel_rfl) (by exact fun _ _ _ h => h) (Or.inl ⟨by rfl, ?hy15d⟩) (by assumption) ?r15d
                case hy15d => ((intro w hSw; (try dsimp only at hSw); go_simp); (try with_reducible rfl))
                (try simp only [Act.put, List.setIfInBounds_toArray, List.set_cons_zero, List.set_cons_succ])
                refine wpAnyH_take (i := 16) (v := ?v16d) (by simp only [List.getElem?_toArray, List.getElem?_cons_succ, List.getElem?_cons_zero]; rfl) (by kernel_rfl) (by kernel_rfl) (by kernel_rfl) (by exact fun _ _ _ h => h) (Or.inl ⟨by rfl, ?hy16d⟩) (by assumption) ?r16d
                case hy16d => ((intro w hSw; (try dsimp only at hSw); go_simp); (try with_reducible rfl))
                (try simp only [Act.put, List.setIfInBounds_toArray, List.set_cons_zero, List.set_cons_succ])
                refine wpAnyH_take (i := 17) (v := ?v17d) (by simp only [List.getElem?_toArray, List.getElem?_cons_succ, List.getElem?_cons_zero]; rfl) (by kernel_rfl) (by kernel_rfl) (by kernel_rfl) (by exact fun _ _ _ h => h) (Or.inl ⟨by rfl, ?hy17d⟩) (by assumption) ?r17d
                case hy17d => ((intro w hSw; (try dsimp only at hSw); go_simp); (try with_reducible rfl))
                (try simp only [Act.put, List.setIfInBounds_toArray, List.set_cons_zero, List.set_cons_succ])
                refine wpAnyH_take (i := 18) (v := ?v18d) (by simp only [List.getElem?_toArray, List.getElem?_cons_succ, List.getElem?_cons_zero]; rfl) (by kernel_rfl) (by kernel_rfl) (by kernel_rfl) (by exact fun _ _ _ h => h) (Or.inl ⟨by rfl, ?hy18d⟩) (by assumption) ?r18d
                case hy18d => ((intro w hSw; (try dsimp only at hSw); go_simp); (try with_reducible rfl))
                (try simp only [Act.put, List.setIfInBounds_toArray, List.set_cons_zero, List.set_cons_succ])
                refine wpAnyH_take (i := 19) (v := ?v19d) (by simp only [List.getElem?_toArray, List.getElem?_cons_succ, List.getElem?_cons_zero]; rfl) (by kernel_rfl) (by kernel_rfl) (by kernel_rfl) (by exact fun _ _ _ h => h) (Or.inl ⟨by rfl, ?hy19d⟩) (by assumption) ?r19d
                case hy19d => ((intro w hSw; (try dsimp only at hSw); go_simp); (try with_reducible rfl))
                (try simp only [Act.put, List.setIfInBounds_toArray, List.set_cons_zero, List.set_cons_succ])
                refine wpAnyH_take (i := 20) (v := ?v20d) (by simp only [List.getElem?_toArray, List.getElem?_cons_succ, List.getElem?_cons_zero]; rfl) (by kernel_rfl) (by kernel_rfl) (by kernel_rfl) (by exact fun _ _ _ h => h) (Or.inl ⟨by rfl, ?hy20d⟩) (by assumption) ?r20d
                case hy20d => ((intro w hSw; (try dsimp only at hSw); go_simp); (try with_reducible rfl))
                (try simp only [Act.put, List.setIfInBounds_toArray, List.set_cons_zero, List.set_cons_succ])
                refine wpAnyH_ready (rs := [21]) (by kernel_rfl) (by simp) ?_
                refine AllReadyH.cons (by simp only [List.getElem?_toArray, List.getElem?_cons_succ, List.getElem?_cons_zero]; rfl) (fun K hK => ?_) AllReadyH.nil
                ((go_simp; go_at_call 16; refine (CR.out _).mono ?_; rintro e w6 ⟨rfl, b6⟩; have V9 := Lib.hid (Vb.below V0.out.drew b6); have B9 := Lib.hid (bt' HBl.out.drew b6); clear b6))
                refine hK.out _ _ ?hS21d (fun hHeld => ?s21d)
                case hS21d => ((try dsimp only); (first | exact HSS.out _ V9.out B9.out | exact HSS.out _ V0.out.drew HBl.out.drew | go_keep))
                clear hK K
                (try simp only [Act.put, List.setIfInBounds_toArray, List.set_cons_zero, List.set_cons_succ])
                refine wpAnyH_take (i := 22) (v := ?v22d) (by simp only [List.getElem?_toArray, List.getElem?_cons_succ, List.getElem?_cons_zero]; rfl) (by kernel_rfl) (by kernel_rfl) (by kernel_rfl) (by exact fun _ _ _ h => h) (Or.inl ⟨by rfl, ?hy22d⟩) (by assumption) ?r22d
                case hy22d => ((intro w hSw; (try dsimp only at hSw); go_simp); (try with_reducible rfl))
                (try simp only [Act.put, List.setIfInBounds_toArray, List.set_cons_zero, List.set_cons_succ])
                refine wpAnyH_take (i := 23) (v := ?v23d) (by simp only [List.getElem?_toArray, List.getElem?_cons_succ, List.getElem?_cons_zero]; rfl) (by kernel_rfl) (by kernel_rfl) (by kernel_rfl) (by exact fun _ _ _ h => h) (Or.inl ⟨by rfl, ?hy23d⟩) (by assumption) ?r23d
                case hy23d => ((intro w hSw; (try dsimp only at hSw); go_simp); (try with_reducible rfl))
                (try simp only [Act.put, List.setIfInBounds_toArray, List.set_cons_zero, List.set_cons_succ])
                refine wpAnyH_take (i := 24) (v := ?v24d) (by simp only [List.getElem?_toArray, List.getElem?_cons_succ, List.getElem?_cons_zero]; rfl) (by kernel_rfl) (by kernel_rfl) (by kernel_rfl) (by exact fun _ _ _ h => h) (Or.inl ⟨by rfl, ?hy24d⟩) (by assumption) ?r24d
                case hy24d => ((intro w hSw; (try dsimp only at hSw); go_simp); (try with_reducible rfl))
                (try simp only [Act.put, List.setIfInBounds_toArray, List.set_cons_zero, List.set_cons_succ])
                refine wpAnyH_take (i := 25) (v := ?v25d) (by simp only [List.getElem?_toArray, List.getElem?_cons_succ, List.getElem?_cons_zero]; rfl) (by kernel_rfl) (by kernel_rfl) (by kernel_rfl) (by exact fun _ _ _ h => h) (Or.inl ⟨by rfl, ?hy25d⟩) (by assumption) ?r25d
                case hy25d => ((intro w hSw; (try dsimp only at hSw); go_simp); (try with_reducible rfl))
                (try simp only [Act.put, List.setIfInBounds_toArray, List.set_cons_zero, List.set_cons_succ])
                refine wpAnyH_take (i := 26) (v := ?v26d) (by simp only [List.getElem?_toArray, List.getElem?_cons_succ, List.getElem?_cons_zero]; rfl) (by kernel_rfl) (by kernel_rfl) (by kernel_rfl) (by exact fun _ _ _ h => h) (Or.inl ⟨by rfl, ?hy26d⟩) (by assumption) ?r26d
                case hy26d => ((intro w hSw; (try dsimp only at hSw); go_simp); (try with_reducible rfl))
                (try simp only [Act.put, List.setIfInBounds_toArray, List.set_cons_zero, List.set_cons_succ])
                refine wpAnyH_take (i := 27) (v := ?v27d) (by simp only [List.getElem?_toArray, List.getElem?_cons_succ, List.getElem?_cons_zero]; rfl) (by kernel_rfl) (by kernel_rfl) (by kernel_rfl) (by exact fun _ _ _ h => h) (Or.inl ⟨by rfl, ?hy27d⟩) (by assumption) ?r27d
                case hy27d => ((intro w hSw; (try dsimp only at hSw); go_simp); (try with_reducible rfl))
                (try simp only [Act.put, List.setIfInBounds_toArray, List.set_cons_zero, List.set_cons_succ])
                refine wpAnyH_take (i := 28) (v := undef) (by simp only [List.getElem?_toArray, List.getElem?_cons_succ, List.getElem?_cons_zero]; rfl) (by kernel_rfl) (by kernel_rfl) (by kernel_rfl) (by exact fun _ _ _ h => h) (Or.inr ⟨by rfl, rfl⟩) (by assumption) ?r28d
                (try simp only [Act.put, List.setIfInBounds_toArray, List.set_cons_zero, List.set_cons_succ])
                refine wpAnyH_take (i := 29) (v := undef) (by simp only [List.getElem?_toArray, List.getElem?_cons_succ, List.getElem?_cons_zero]; rfl) (by kernel_rfl) (by kernel_rfl) (by kernel_rfl) (by exact fun _ _ _ h => h) (Or.inr ⟨by rfl, rfl⟩) (by assumption) ?r29d
                (try simp only [Act.put, List.setIfInBounds_toArray, List.set_cons_zero, List.set_cons_succ])
                refine wpAnyH_take (i := 30) (v := undef) (by simp only [List.getElem?_toArray, List.getElem?_cons_succ, List.getElem?_cons_zero]; rfl) (by kernel_rfl) (by kernel_rfl) (by kernel_rfl) (by exact fun _ _ _ h => h) (Or.inr ⟨by rfl, rfl⟩) (by assumption) ?r30d
                (try simp only [Act.put, List.setIfInBounds_toArray, List.set_cons_zero, List.set_cons_succ])
                refine wpAnyH_take (i := 31) (v := undef) (by simp only [List.getElem?_toArray, List.getElem?_cons_succ, List.getElem?_cons_zero]; rfl) (by kernel_rfl) (by kernel_rfl) (by kernel_rfl) (by exact fun _ _ _ h => h) (Or.inr ⟨by rfl, rfl⟩) (by assumption) ?r31d
                (try simp only [Act.put, List.setIfInBounds_toArray, List.set_cons_zero, List.set_cons_succ])
                refine wpAnyH_take (i := 32) (v := undef) (by simp only [List.getElem?_toArray, List.getElem?_cons_succ, List.getElem?_cons_zero]; rfl) (by kernel_rfl) (by kernel_rfl) (by kernel_rfl) (by exact fun _ _ _ h => h) (Or.inr ⟨by rfl, rfl⟩) (by assumption) ?r32d
                (try simp only [Act.put, List.setIfInBounds_toArray, List.set_cons_zero, List.set_cons_succ])
                refine wpAnyH_take (i := 33) (v := undef) (by simp only [List.getElem?_toArray, List.getElem?_cons_succ, List.getElem?_cons_zero]; rfl) (by kernel_rfl) (by kernel_rfl) (by kernel_rfl) (by exact fun _ _ _ h => h) (Or.inr ⟨by rfl, rfl⟩) (by assumption) ?r33d
                (try simp only [Act.put, List.setIfInBounds_toArray, List.set_cons_zero, List.set_cons_succ])
                refine wpAnyH_take (i := 34) (v := undef) (by simp only [List.getElem?_toArray, List.getElem?_cons_succ, List.getElem?_cons_zero]; rfl) (by kernel_rfl) (by kernel_rfl) (by kernel_rfl) (by exact fun _ _ _ h => h) (Or.inr ⟨by rfl, rfl⟩) (by assumption) ?r34d
                (try simp only [Act.put, List.setIfInBounds_toArray, List.set_cons_zero, List.set_cons_succ])
                refine wpAnyH_take (i := 35) (v := ?v35d) (by simp only [List.getElem?_toArray, List.getElem?_cons_succ, List.getElem?_cons_zero]; rfl) (by kernel_rfl) (by kernel_rfl) (by kernel_rfl) (by exact fun _ _ _ h => h) (Or.inl ⟨by rfl, ?hy35d⟩) (by assumption) ?r35d
                case hy35d => ((intro w hSw; (try dsimp only at hSw); go_simp); (try with_reducible rfl))
                (try simp only [Act.put, List.setIfInBounds_toArray, List.set_cons_zero, List.set_cons_succ])
                refine wpAnyH_take (i := 36) (v := ?v36d) (by simp only [List.getElem?_toArray, List.getElem?_cons_succ, List.getElem?_cons_zero]; rfl) (by kernel_rfl) (by kernel_rfl) (by kernel_rfl) (by exact fun _ _ _ h => h) (Or.inl ⟨by rfl, ?hy36d⟩) (by assumption) ?r36d
                case hy36d => ((intro w hSw; (try dsimp only at hSw); go_simp); (try with_reducible rfl))
                (try simp only [Act.put, List.setIfInBounds_toArray, List.set_cons_zero, List.set_cons_succ])
                refine wpAnyH_done (by kernel_rfl) ?_ _
                all_goals
                  go_wp2
                  go_roundw
                  case rel => exact ⟨k + 1, v, by omega, by omega, by go_num, hvo, hvr, fun p hp => V9.out p (by rw [List.mem_singleton.1 hp]; simp), B9.out⟩
                  case measure => simp [intOf]; omega
          · go_upto_region 9 with fail
            go_cut [9, 10] from 13 to 91 (fun s1 s2 wx => s1 = .pointer (some ⟨g, 0, none⟩) ∧ s2 = .int .i64 q.2 ∧ Vb wx [(g, q.1), (wr.heap.size, v), (g0, v)] ∧ Below w.heap.size w wx)
            case first =>
              have hn1 : wr.heap.size ≠ g := by omega
              have hn2 : g0 ≠ g := by omega
              have hwg := Lib.hid (show w.heap.size ≤ g by have := hg1.out; omega)
              have HVd := Lib.hid HV.out.drew
              have HBd := Lib.hid HBl.out.drew
              go_region_law ((go_simp; go_at_call 14; ((with_reducible refine (C3.out wc.drew).mono ?_); rintro e w5 ⟨rfl, b5⟩; have V6 := Lib.hid (Vb.below HVd.out b5); have B6 := Lib.hid (bt' HBd.out b5); obtain ⟨o0, o1, o2, n0, n1, n2, nz⟩ := cells3 (V6.out (g, r.1) (by simp)); clear b5)))
              all_goals
                go_wp2_with fail
                go_meet
                exact ⟨rfl, rfl, V6.out.put1 hn1 hn2, (((B6.out.setCell (p := ⟨g, 0, none⟩) hwg.out _).setCell (p := ⟨g, 1, none⟩) hwg.out _).setCell (p := ⟨g, 2, none⟩) hwg.out _)⟩
            case rest =>
              clear RI p0 p1 p2 z0 k0 k1 k2 f0 f1 f2 z1 c0 hab hcb hbb hbb' HV HBl
              have RI := R3
              obtain ⟨rfl, rfl, hV, hB⟩ := hcut
              obtain ⟨p0, p1, p2, z0⟩ := hV.cells (g := g0) (x := v) (by simp)
              obtain ⟨k0, k1, k2, f0, f1, f2, z1⟩ := cells3 (hV (g, q.1) (by simp))
              obtain ⟨c0, hab⟩ := HC0.out _ hB
              have HV := Lib.hid hV
              have HBl := Lib.hid hB
              clear hV hB
              go_upto_region 10 with fail
              rcases RI.out with ⟨e1, e2, e3, e4, e5, e6, e7⟩ | e1
              · obtain ⟨⟨tp, tb, ts⟩, te⟩ := q
                dsimp only at e1 e2 e3 e4 e5 e6 e7 HV ⊢
                subst e1
                subst e2
                have hne1 : g ≠ g0 := by omega
                have hne2 : wr.heap.size ≠ g0 := by omega
                have V8 := Lib.hid (Vb.put3 HV.out hne2)
                have B8 := Lib.hid (((HBl.out.setCell (p := ⟨g0, 0, none⟩) hg1.out (.int .u64 (tp : Int))).setCell (p := ⟨g0, 1, none⟩) hg1.out (.int .u64 (tb : Int))).setCell (p := ⟨g0, 2, none⟩) hg1.out (.string ts))
                have CR := Lib.hid (fun w => e6 ▸ right_any ⟨tp, tb, ts⟩ w e7)
                have E67 := Lib.hid (And.intro e6 e7)
                have l1 : ¬ tp < v.p := by omega
                have l2 : ¬ tb < v.b := by omega
                have l3 : ¬ tp < tb := by omega
                obtain ⟨m0, m1, m2', z4⟩ := HV.out.cells (g := wr.heap.size) (x := v) (by simp)
                obtain ⟨i0, i1, i2, g3, g4, g5, z5⟩ := cells3 (HV.out (g0, v) (by simp))
                clear e3 e4 e5 e6 e7
                go_upto_region 12 with fail
                have HSS := Lib.hid (fun (X : World) (h : Vb X [(g0, ⟨tp, tb, ts⟩), (wr.heap.size, v)]) (hb : Below w.heap.size w X) => And.intro h.two (HC0.out X hb).1)
                refine wp_region_held_drew (S := (fun w' => (w'.cell? ⟨g0, 0, none⟩ = some (.int .u64 (tp : Int)) ∧ w'.cell? ⟨g0, 1, none⟩ = some (.int .u64 (tb : Int)) ∧ w'.cell? ⟨g0, 2, none⟩ = some (.string ts) ∧ w'.cell? ⟨wr.heap.size, 0, none⟩ = some (.int .u64 (v.p : Int)) ∧ w'.cell? ⟨wr.heap.size, 1, none⟩ = some (.int .u64 (v.b : Int))) ∧ w'.cell? (a.add k) = some (.int .u64 (tp : Int)))) (by kernel_rfl) ?hS0e (fun hHeld => ?s0e)
                case hS0e => ((try dsimp only); (first | exact HSS.out _ V9.out B9.out | exact HSS.out _ V8.out.drew B8.out.drew | go_keep))
                refine wpAnyH_take (i := 0) (v := ?v0e) (by simp only [List.getElem?_toArray, List.getElem?_cons_zero]; rfl) (by kernel_rfl) (by kernel_rfl) (by kernel_rfl) (by exact fun _ _ _ h => h) (Or.inl ⟨by rfl, ?hy0e⟩) (by assumption) ?r0e
                case hy0e => ((intro w hSw; (try dsimp only at hSw); go_simp); (try with_reducible rfl))
                (try simp only [Act.put, List.setIfInBounds_toArray, List.set_cons_zero, List.set_cons_succ])
                refine wpAnyH_take (i := 1) (v := ?v1e) (by simp only [List.getElem?_toArray, List.getElem?_cons_succ, List.getElem?_cons_zero]; rfl) (by kernel_rfl) (by kernel_rfl) (by kernel_rfl) (by exact fun _ _ _ h => h) (Or.inl ⟨by rfl, ?hy1e⟩) (by assumption) ?r1e
                case hy1e => ((intro w hSw; (try dsimp only at hSw); go_simp); (try with_reducible rfl))
                (try simp only [Act.put, List.setIfInBounds_toArray, List.set_cons_zero, List.set_cons_succ])
                refine wpAnyH_take (i := 2) (v := ?v2e) (by simp only [List.getElem?_toArray, List.getElem?_cons_succ, List.getElem?_cons_zero]; rfl) (by kernel_rfl) (by kernel_rfl) (by kernel_rfl) (by exact fun _ _ _ h => h) (Or.inl ⟨by rfl, ?hy2e⟩) (by assumption) ?r2e
                case hy2e => ((intro w hSw; (try dsimp only at hSw); go_simp); (try with_reducible rfl))
                (try simp only [Act.put, List.setIfInBounds_toArray, List.set_cons_zero, List.set_cons_succ])
                refine wpAnyH_take (i := 3) (v := ?v3e) (by simp only [List.getElem?_toArray, List.getElem?_cons_succ, List.getElem?_cons_zero]; rfl) (by kernel_rfl) (by kernel_rfl) (by kernel_rfl) (by exact fun _ _ _ h => h) (Or.inl ⟨by rfl, ?hy3e⟩) (by assumption) ?r3e
                case hy3e => ((intro w hSw; (try dsimp only at hSw); go_simp); (try with_reducible rfl))
                (try simp only [Act.put, List.setIfInBounds_toArray, List.set_cons_zero, List.set_cons_succ])
                refine wpAnyH_take (i := 4) (v := ?v4e) (by simp only [List.getElem?_toArray, List.getElem?_cons_succ, List.getElem?_cons_zero]; rfl) (by kernel_rfl) (by kernel_rfl) (by kernel_rfl) (by exact fun _ _ _ h => h) (Or.inl ⟨by rfl, ?hy4e⟩) (by assumption) ?r4e
                case hy4e => ((intro w hSw; (try dsimp only at hSw); go_simp); (try with_reducible rfl))
                (try simp only [Act.put, List.setIfInBounds_toArray, List.set_cons_zero, List.set_cons_succ])
                refine wpAnyH_take (i := 5) (v := ?v5e) (by simp only [List.getElem?_toArray, List.getElem?_cons_succ, List.getElem?_cons_zero]; rfl) (by kernel_rfl) (by kernel_rfl) (by kernel_rfl) (by exact fun _ _ _ h => h) (Or.inl ⟨by rfl, ?hy5e⟩) (by assumption) ?r5e
                case hy5e => ((intro w hSw; (try dsimp only at hSw); go_simp); (try with_reducible rfl))
                (try simp only [Act.put, List.setIfInBounds_toArray, List.set_cons_zero, List.set_cons_succ])
                refine wpAnyH_take (i := 6) (v := ?v6e) (by simp only [List.getElem?_toArray, List.getElem?_cons_succ, List.getElem?_cons_zero]; rfl) (by kernel_rfl) (by kernel_rfl) (by kernel_rfl) (by exact fun _ _ _ h => h) (Or.inl ⟨by rfl, ?hy6e⟩) (by assumption) ?r6e
                case hy6e => ((intro w hSw; (try dsimp only at hSw); go_simp); (try with_reducible rfl))
                (try simp only [Act.put, List.setIfInBounds_toArray, List.set_cons_zero, List.set_cons_succ])
                refine wpAnyH_take (i := 7) (v := ?v7e) (by simp only [List.getElem?_toArray, List.getElem?_cons_succ, List.getElem?_cons_zero]; rfl) (by kernel_rfl) (by kernel_rfl) (by kernel_rfl) (by exact fun _ _ _ h => h) (Or.inl ⟨by rfl, ?hy7e⟩) (by assumption) ?r7e
                case hy7e => ((intro w hSw; (try dsimp only at hSw); go_simp); (try with_reducible rfl))
                (try simp only [Act.put, List.setIfInBounds_toArray, List.set_cons_zero, List.set_cons_succ])
                refine wpAnyH_take (i := 8) (v := ?v8e) (by simp only [List.getElem?_toArray, List.getElem?_cons_succ, List.getElem?_cons_zero]; rfl) (by kernel_rfl) (by kernel_rfl) (by kernel_rfl) (by exact fun _ _ _ h => h) (Or.inl ⟨by rfl, ?hy8e⟩) (by assumption) ?r8e
                case hy8e => ((intro w hSw; (try dsimp only at hSw); go_simp); (try with_reducible rfl))
                (try simp only [Act.put, List.setIfInBounds_toArray, List.set_cons_zero, List.set_cons_succ])
                refine wpAnyH_take (i := 9) (v := ?v9e) (by simp only [List.getElem?_toArray, List.getElem?_cons_succ, List.getElem?_cons_zero]; rfl) (by kernel_rfl) (by kernel_rfl) (by kernel_rfl) (by exact fun _ _ _ h => h) (Or.inl ⟨by rfl, ?hy9e⟩) (by assumption) ?r9e
                case hy9e => ((intro w hSw; (try dsimp only at hSw); go_simp); (try with_reducible rfl))
                (try simp only [Act.put, List.setIfInBounds_toArray, List.set_cons_zero, List.set_cons_succ])
                refine wpAnyH_take (i := 10) (v := ?v10e) (by simp only [List.getElem?_toArray, List.getElem?_cons_succ, List.getElem?_cons_zero]; rfl) (by kernel_rfl) (by kernel_rfl) (by kernel_rfl) (by exact fun _ _ _ h => h) (Or.inl ⟨by rfl, ?hy10e⟩) (by assumption) ?r10e
                case hy10e => ((intro w hSw; (try dsimp only at hSw); go_simp); (try with_reducible rfl))
                (try simp only [Act.put, List.setIfInBounds_toArray, List.set_cons_zero, List.set_cons_succ])
                refine wpAnyH_take (i := 11) (v := ?v11e) (by simp only [List.getElem?_toArray, List.getElem?_cons_succ, List.getElem?_cons_zero]; rfl) (by kernel_rfl) (by kernel_rfl) (by kernel_rfl) (by exact fun _ _ _ h => h) (Or.inl ⟨by rfl, ?hy11e⟩) (by assumption) ?r11e
                case hy11e => ((intro w hSw; (try dsimp only at hSw); go_simp); (try with_reducible rfl))
                (try simp only [Act.put, List.setIfInBounds_toArray, List.set_cons_zero, List.set_cons_succ])
                refine wpAnyH_take (i := 12) (v := ?v12e) (by simp only [List.getElem?_toArray, List.getElem?_cons_succ, List.getElem?_cons_zero]; rfl) (by kernel_rfl) (by kernel_rfl) (by kernel_rfl) (by exact fun _ _ _ h => h) (Or.inl ⟨by rfl, ?hy12e⟩) (by assumption) ?r12e
                case hy12e => ((intro w hSw; (try dsimp only at hSw); go_simp); (try with_reducible rfl))
                (try simp only [Act.put, List.setIfInBounds_toArray, List.set_cons_zero, List.set_cons_succ])
                refine wpAnyH_take (i := 13) (v := ?v13e) (by simp only [List.getElem?_toArray, List.getElem?_cons_succ, List.getElem?_cons_zero]; rfl) (by kernel_rfl) (by kernel_rfl) (by kernel_rfl) (by exact fun _ _ _ h => h) (Or.inl ⟨by rfl, ?hy13e⟩) (by assumption) ?r13e
                case hy13e => ((intro w hSw; (try dsimp only at hSw); go_simp); (try with_reducible rfl))
                (try simp only [Act.put, List.setIfInBounds_toArray, List.set_cons_zero, List.set_cons_succ])
                refine wpAnyH_take (i := 14) (v := ?v14e) (by simp only [List.getElem?_toArray, List.getElem?_cons_succ, List.getElem?_cons_zero]; rfl) (by kernel_rfl) (by kernel_rfl) (by kernel_rfl) (by exact fun _ _ _ h => h) (Or.inl ⟨by rfl, ?hy14e⟩) (by assumption) ?r14e
                case hy14e => ((intro w hSw; (try dsimp only at hSw); go_simp); (try with_reducible rfl))
                (try simp only [Act.put, List.setIfInBounds_toArray, List.set_cons_zero, List.set_cons_succ])
                refine wpAnyH_take (i := 15) (v := ?v15e) (by simp only [List.getElem?_toArray, List.getElem?_cons_succ, List.getElem?_cons_zero]; rfl) (by kernel_rfl) (by kernel_rfl) (by kernel_rfl) (by exact fun _ _ _ h => h) (Or.inl ⟨by rfl, ?hy15e⟩) (by assumption) ?r15e
                case hy15e => ((intro w hSw; (try dsimp only at hSw); go_simp); (try with_reducible rfl))
                (try simp only [Act.put, List.setIfInBounds_toArray, List.set_cons_zero, List.set_cons_succ])
                refine wpAnyH_take (i := 16) (v := ?v16e) (by simp only [List.getElem?_toArray, List.getElem?_cons_succ, List.getElem?_cons_zero]; rfl) (by kernel_rfl) (by kernel_rfl) (by kernel_rfl) (by exact fun _ _ _ h => h) (Or.inl ⟨by rfl, ?hy16e⟩) (by assumption) ?r16e
                case hy16e => ((intro w hSw; (try dsimp only at hSw); go_simp); (try with_reducible rfl))
                (try simp only [Act.put, List.setIfInBounds_toArray, List.set_cons_zero, List.set_cons_succ])
                refine wpAnyH_take (i := 17) (v := ?v17e) (by simp only [List.getElem?_toArray, List.getElem?_cons_succ, List.getElem?_cons_zero]; rfl) (by kernel_rfl) (by kernel_rfl) (by kernel_rfl) (by exact fun _ _ _ h => h) (Or.inl ⟨by rfl, ?hy17e⟩) (by assumption) ?r17e
                case hy17e => ((intro w hSw; (try dsimp only at hSw); go_simp); (try with_reducible rfl))
                (try simp only [Act.put, List.setIfInBounds_toArray, List.set_cons_zero, List.set_cons_succ])
                refine wpAnyH_take (i := 18) (v := ?v18e) (by simp only [List.getElem?_toArray, List.getElem?_cons_succ, List.getElem?_cons_zero]; rfl) (by kernel_rfl) (by kernel_rfl) (by kernel_rfl) (by exact fun _ _ _ h => h) (Or.inl ⟨by rfl, ?hy18e⟩) (by assumption) ?r18e
                case hy18e => ((intro w hSw; (try dsimp only at hSw); go_simp); (try with_reducible rfl))
                (try simp only [Act.put, List.setIfInBounds_toArray, List.set_cons_zero, List.set_cons_succ])
                refine wpAnyH_take (i := 19) (v := ?v19e) (by simp only [List.getElem?_toArray, List.getElem?_cons_succ, List.getElem?_cons_zero]; rfl) (by kernel_rfl) (by kernel_rfl) (by kernel_rfl) (by exact fun _ _ _ h => h) (Or.inl ⟨by rfl, ?hy19e⟩) (by assumption) ?r19e
                case hy19e => ((intro w hSw; (try dsimp only at hSw); go_simp); (try with_reducible rfl))
                (try simp only [Act.put, List.setIfInBounds_toArray, List.set_cons_zero, List.set_cons_succ])
                refine wpAnyH_take (i := 20) (v := ?v20e) (by simp only [List.getElem?_toArray, List.getElem?_cons_succ, List.getElem?_cons_zero]; rfl) (by kernel_rfl) (by kernel_rfl) (by kernel_rfl) (by exact fun _ _ _ h => h) (Or.inl ⟨by rfl, ?hy20e⟩) (by assumption) ?r20e
                case hy20e => ((intro w hSw; (try dsimp only at hSw); go_simp); (try with_reducible rfl))
                (try simp only [Act.put, List.setIfInBounds_toArray, List.set_cons_zero, List.set_cons_succ])
                refine wpAnyH_ready (rs := [21]) (by kernel_rfl) (by simp) ?_
                refine AllReadyH.cons (by simp only [List.getElem?_toArray, List.getElem?_cons_succ, List.getElem?_cons_zero]; rfl) (fun K hK => ?_) AllReadyH.nil
                ((go_simp; go_at_call 16; refine (CR.out _).mono ?_; rintro e w6 ⟨rfl, b6⟩; have V9 := Lib.hid (Vb.below V8.out.drew b6); have B9 := Lib.hid (bt' B8.out.drew b6); clear b6))
                refine hK.out _ _ ?hS21e (fun hHeld => ?s21e)
                case hS21e => ((try dsimp only); (first | exact HSS.out _ V9.out B9.out | exact HSS.out _ V8.out.drew B8.out.drew | go_keep))
                clear hK K
                (try simp only [Act.put, List.setIfInBounds_toArray, List.set_cons_zero, List.set_cons_succ])
                refine wpAnyH_take (i := 22) (v := ?v22e) (by simp only [List.getElem?_toArray, List.getElem?_cons_succ, List.getElem?_cons_zero]; rfl) (by kernel_rfl) (by kernel_rfl) (by kernel_rfl) (by exact fun _ _ _ h => h) (Or.inl ⟨by rfl, ?hy22e⟩) (by assumption) ?r22e
                case hy22e => ((intro w hSw; (try dsimp only at hSw); go_simp); (try with_reducible rfl))
                (try simp only [Act.put, List.setIfInBounds_toArray, List.set_cons_zero, List.set_cons_succ])
                refine wpAnyH_take (i := 23) (v := ?v23e) (by simp only [List.getElem?_toArray, List.getElem?_cons_succ, List.getElem?_cons_zero]; rfl) (by kernel_rfl) (by kernel_rfl) (by kernel_rfl) (by exact fun _ _ _ h => h) (Or.inl ⟨by rfl, ?hy23e⟩) (by assumption) ?r23e
                case hy23e => ((intro w hSw; (try dsimp only at hSw); go_simp); (try with_reducible rfl))
                (try simp only [Act.put, List.setIfInBounds_toArray, List.set_cons_zero, List.set_cons_succ])
                refine wpAnyH_take (i := 24) (v := ?v24e) (by simp only [List.getElem?_toArray, List.getElem?_cons_succ, List.getElem?_cons_zero]; rfl) (by kernel_rfl) (by kernel_rfl) (by kernel_rfl) (by exact fun _ _ _ h => h) (Or.inl ⟨by rfl, ?hy24e⟩) (by assumption) ?r24e
                case hy24e => ((intro w hSw; (try dsimp only at hSw); go_simp); (try with_reducible rfl))
                (try simp only [Act.put, List.setIfInBounds_toArray, List.set_cons_zero, List.set_cons_succ])
                refine wpAnyH_take (i := 25) (v := ?v25e) (by simp only [List.getElem?_toArray, List.getElem?_cons_succ, List.getElem?_cons_zero]; rfl) (by kernel_rfl) (by kernel_rfl) (by kernel_rfl) (by exact fun _ _ _ h => h) (Or.inl ⟨by rfl, ?hy25e⟩) (by assumption) ?r25e
                case hy25e => ((intro w hSw; (try dsimp only at hSw); go_simp); (try with_reducible rfl))
                (try simp only [Act.put, List.setIfInBounds_toArray, List.set_cons_zero, List.set_cons_succ])
                refine wpAnyH_take (i := 26) (v := ?v26e) (by simp only [List.getElem?_toArray, List.getElem?_cons_succ, List.getElem?_cons_zero]; rfl) (by kernel_rfl) (by kernel_rfl) (by kernel_rfl) (by exact fun _ _ _ h => h) (Or.inl ⟨by rfl, ?hy26e⟩) (by assumption) ?r26e
                case hy26e => ((intro w hSw; (try dsimp only at hSw); go_simp); (try with_reducible rfl))
                (try simp only [Act.put, List.setIfInBounds_toArray, List.set_cons_zero, List.set_cons_succ])
                refine wpAnyH_take (i := 27) (v := ?v27e) (by simp only [List.getElem?_toArray, List.getElem?_cons_succ, List.getElem?_cons_zero]; rfl) (by kernel_rfl) (by kernel_rfl) (by kernel_rfl) (by exact fun _ _ _ h => h) (Or.inl ⟨by rfl, ?hy27e⟩) (by assumption) ?r27e
                case hy27e => ((intro w hSw; (try dsimp only at hSw); go_simp); (try with_reducible rfl))
                (try simp only [Act.put, List.setIfInBounds_toArray, List.set_cons_zero, List.set_cons_succ])
                refine wpAnyH_take (i := 28) (v := ?v28e) (by simp only [List.getElem?_toArray, List.getElem?_cons_succ, List.getElem?_cons_zero]; rfl) (by kernel_rfl) (by kernel_rfl) (by kernel_rfl) (by exact fun _ _ _ h => h) (Or.inl ⟨by rfl, ?hy28e⟩) (by assumption) ?r28e
                case hy28e => ((intro w hSw; (try dsimp only at hSw); go_simp); (try with_reducible rfl))
                (try simp only [Act.put, List.setIfInBounds_toArray, List.set_cons_zero, List.set_cons_succ])
                refine wpAnyH_take (i := 29) (v := ?v29e) (by simp only [List.getElem?_toArray, List.getElem?_cons_succ, List.getElem?_cons_zero]; rfl) (by kernel_rfl) (by kernel_rfl) (by kernel_rfl) (by exact fun _ _ _ h => h) (Or.inl ⟨by rfl, ?hy29e⟩) (by assumption) ?r29e
                case hy29e => ((intro w hSw; (try dsimp only at hSw); go_simp); (try with_reducible rfl))
                (try simp only [Act.put, List.setIfInBounds_toArray, List.set_cons_zero, List.set_cons_succ])
                refine wpAnyH_take (i := 30) (v := ?v30e) (by simp only [List.getElem?_toArray, List.getElem?_cons_succ, List.getElem?_cons_zero]; rfl) (by kernel_rfl) (by kernel_rfl) (by kernel_rfl) (by exact fun _ _ _ h => h) (Or.inl ⟨by rfl, ?hy30e⟩) (by assumption) ?r30e
                case hy30e => ((intro w hSw; (try dsimp only at hSw); go_simp); (try with_reducible rfl))
                (try simp only [Act.put, List.setIfInBounds_toArray, List.set_cons_zero, List.set_cons_succ])
                refine wpAnyH_take (i := 31) (v := ?v31e) (by simp only [List.getElem?_toArray, List.getElem?_cons_succ, List.getElem?_cons_zero]; rfl) (by kernel_rfl) (by kernel_rfl) (by kernel_rfl) (by exact fun _ _ _ h => h) (Or.inl ⟨by rfl, ?hy31e⟩) (by assumption) ?r31e
                case hy31e => ((intro w hSw; (try dsimp only at hSw); go_simp); (try with_reducible rfl))
                (try simp only [Act.put, List.setIfInBounds_toArray, List.set_cons_zero, List.set_cons_succ])
                refine wpAnyH_take (i := 32) (v := ?v32e) (by simp only [List.getElem?_toArray, List.getElem?_cons_succ, List.getElem?_cons_zero]; rfl) (by kernel_rfl) (by kernel_rfl) (by kernel_rfl) (by exact fun _ _ _ h => h) (Or.inl ⟨by rfl, ?hy32e⟩) (by assumption) ?r32e
                case hy32e => ((intro w hSw; (try dsimp only at hSw); go_simp); (try with_reducible rfl))
                (try simp only [Act.put, List.setIfInBounds_toArray, List.set_cons_zero, List.set_cons_succ])
                refine wpAnyH_take (i := 33) (v := ?v33e) (by simp only [List.getElem?_toArray, List.getElem?_cons_succ, List.getElem?_cons_zero]; rfl) (by kernel_rfl) (by kernel_rfl) (by kernel_rfl) (by exact fun _ _ _ h => h) (Or.inl ⟨by rfl, ?hy33e⟩) (by assumption) ?r33e
                case hy33e => ((intro w hSw; (try dsimp only at hSw); go_simp); (try with_reducible rfl))
                (try simp only [Act.put, List.setIfInBounds_toArray, List.set_cons_zero, List.set_cons_succ])
                refine wpAnyH_take (i := 34) (v := ?v34e) (by simp only [List.getElem?_toArray, List.getElem?_cons_succ, List.getElem?_cons_zero]; rfl) (by kernel_rfl) (by kernel_rfl) (by kernel_rfl) (by exact fun _ _ _ h => h) (Or.inl ⟨by rfl, ?hy34e⟩) (by assumption) ?r34e
                case hy34e => ((intro w hSw; (try dsimp only at hSw); go_simp); (try with_reducible rfl))
                (try simp only [Act.put, List.setIfInBounds_toArray, List.set_cons_zero, List.set_cons_succ])
                refine wpAnyH_take (i := 35) (v := ?v35e) (by simp only [List.getElem?_toArray, List.getElem?_cons_succ, List.getElem?_cons_zero]; rfl) (by kernel_rfl) (by kernel_rfl) (by kernel_rfl) (by exact fun _ _ _ h => h) (Or.inl ⟨by rfl, ?hy35e⟩) (by assumption) ?r35e
                case hy35e => ((intro w hSw; (try dsimp only at hSw); go_simp); (try with_reducible rfl))
                (try simp only [Act.put, List.setIfInBounds_toArray, List.set_cons_zero, List.set_cons_succ])
                refine wpAnyH_take (i := 36) (v := ?v36e) (by simp only [List.getElem?_toArray, List.getElem?_cons_succ, List.getElem?_cons_zero]; rfl) (by kernel_rfl) (by kernel_rfl) (by kernel_rfl) (by exact fun _ _ _ h => h) (Or.inl ⟨by rfl, ?hy36e⟩) (by assumption) ?r36e
                case hy36e => ((intro w hSw; (try dsimp only at hSw); go_simp); (try with_reducible rfl))
                (try simp only [Act.put, List.setIfInBounds_toArray, List.set_cons_zero, List.set_cons_succ])
                refine wpAnyH_done (by kernel_rfl) ?_ _
                all_goals
                  go_wp2
                  go_roundw
                  case rel => exact ⟨k + 1, ⟨tp, tb, ts⟩, by omega, by omega, by go_num, E67.out.2, E67.out.1, fun p hp => V9.out p (by rw [List.mem_singleton.1 hp]; simp), B9.out⟩
                  case measure => simp [intOf]; omega
              · obtain ⟨⟨tp, tb, ts⟩, te⟩ := q
                dsimp only at e1 k0 k1 k2 HV ⊢
                obtain rfl | rfl := e1
                · have CR := Lib.hid (fun w => hvr ▸ right_any v w hvo)
                  have l3 : ¬ v.p < v.b := by have := ((rightB_iff v).1 hvr).1; omega
                  have V0 := Lib.hid (show Vb wc [(g0, v), (wr.heap.size, v)] from fun p hp => by
                      simp only [List.mem_cons, List.not_mem_nil, or_false] at hp
                      rcases hp with rfl | rfl
                      · exact HV.out (g0, v) (by simp)
                      · exact HV.out (wr.heap.size, v) (by simp))
                  obtain ⟨m0, m1, m2', z4⟩ := HV.out.cells (g := wr.heap.size) (x := v) (by simp)
                  obtain ⟨i0, i1, i2, g3, g4, g5, z5⟩ := cells3 (HV.out (g0, v) (by simp))
                  go_upto_region 12 with fail
                  have HSS := Lib.hid (fun (X : World) (h : Vb X [(g0, v), (wr.heap.size, v)]) (hb : Below w.heap.size w X) => And.intro h.two (HC0.out X hb).1)
                  refine wp_region_held_drew (S := (fun w' => (w'.cell? ⟨g0, 0, none⟩ = some (.int .u64 (v.p : Int)) ∧ w'.cell? ⟨g0, 1, none⟩ = some (.int .u64 (v.b : Int)) ∧ w'.cell? ⟨g0, 2, none⟩ = some (.string v.s) ∧ w'.cell? ⟨wr.heap.size, 0, none⟩ = some (.int .u64 (v.p : Int)) ∧ w'.cell? ⟨wr.heap.size, 1, none⟩ = some (.int .u64 (v.b : Int))) ∧ w'.cell? (a.add k) = some (.int .u64 (x : Int)))) (by kernel_rfl) ?hS0f (fun hHeld => ?s0f)
                  case hS0f => ((try dsimp only); (first | exact HSS.out _ V9.out B9.out | exact HSS.out _ V0.out.drew HBl.out.drew | go_keep))
                  refine wpAnyH_take (i := 0) (v := ?v0f) (by simp only [List.getElem?_toArray, List.getElem?_cons_zero]; rfl) (by kernel_rfl) (by kernel_rfl) (by kernel_rfl) (by exact fun _ _ _ h => h) (Or.inl ⟨by rfl, ?hy0f⟩) (by assumption) ?r0f
                  case hy0f => ((intro w hSw; (try dsimp only at hSw); go_simp); (try with_reducible rfl))
                  (try simp only [Act.put, List.setIfInBounds_toArray, List.set_cons_zero, List.set_cons_succ])
                  refine wpAnyH_take (i := 1) (v := ?v1f) (by simp only [List.getElem?_toArray, List.getElem?_cons_succ, List.getElem?_cons_zero]; rfl) (by kernel_rfl) (by kernel_rfl) (by kernel_rfl) (by exact fun _ _ _ h => h) (Or.inl ⟨by rfl, ?hy1f⟩) (by assumption) ?r1f
                  case hy1f => ((intro w hSw; (try dsimp only at hSw); go_simp); (try with_reducible rfl))
                  (try simp only [Act.put, List.setIfInBounds_toArray, List.set_cons_zero, List.set_cons_succ])
                  refine wpAnyH_take (i := 2) (v := ?v2f) (by simp only [List.getElem?_toArray, List.getElem?_cons_succ, List.getElem?_cons_zero]; rfl) (by kernel_rfl) (by kernel_rfl) (by kernel_rfl) (by exact fun _ _ _ h => h) (Or.inl ⟨by rfl, ?hy2f⟩) (by assumption) ?r2f
                  case hy2f => ((intro w hSw; (try dsimp only at hSw); go_simp); (try with_reducible rfl))
                  (try simp only [Act.put, List.setIfInBounds_toArray, List.set_cons_zero, List.set_cons_succ])
                  refine wpAnyH_take (i := 3) (v := ?v3f) (by simp only [List.getElem?_toArray, List.getElem?_cons_succ, List.getElem?_cons_zero]; rfl) (by kernel_rfl) (by kernel_rfl) (by kernel_rfl) (by exact fun _ _ _ h => h) (Or.inl ⟨by rfl, ?hy3f⟩) (by assumption) ?r3f
                  case hy3f => ((intro w hSw; (try dsimp only at hSw); go_simp); (try with_reducible rfl))
                  (try simp only [Act.put, List.setIfInBounds_toArray, List.set_cons_zero, List.set_cons_succ])
                  refine wpAnyH_take (i := 4) (v := ?v4f) (by simp only [List.getElem?_toArray, List.getElem?_cons_succ, List.getElem?_cons_zero]; rfl) (by kernel_rfl) (by kernel_rfl) (by kernel_rfl) (by exact fun _ _ _ h => h) (Or.inl ⟨by rfl, ?hy4f⟩) (by assumption) ?r4f
                  case hy4f => ((intro w hSw; (try dsimp only at hSw); go_simp); (try with_reducible rfl))
                  (try simp only [Act.put, List.setIfInBounds_toArray, List.set_cons_zero, List.set_cons_succ])
                  refine wpAnyH_take (i := 5) (v := ?v5f) (by simp only [List.getElem?_toArray, List.getElem?_cons_succ, List.getElem?_cons_zero]; rfl) (by kernel_rfl) (by kernel_rfl) (by kernel_rfl) (by exact fun _ _ _ h => h) (Or.inl ⟨by rfl, ?hy5f⟩) (by assumption) ?r5f
                  case hy5f => ((intro w hSw; (try dsimp only at hSw); go_simp); (try with_reducible rfl))
                  (try simp only [Act.put, List.setIfInBounds_toArray, List.set_cons_zero, List.set_cons_succ])
                  refine wpAnyH_take (i := 6) (v := ?v6f) (by simp only [List.getElem?_toArray, List.getElem?_cons_succ, List.getElem?_cons_zero]; rfl) (by kernel_rfl) (by kernel_rfl) (by kernel_rfl) (by exact fun _ _ _ h => h) (Or.inl ⟨by rfl, ?hy6f⟩) (by assumption) ?r6f
                  case hy6f => ((intro w hSw; (try dsimp only at hSw); go_simp); (try with_reducible rfl))
                  (try simp only [Act.put, List.setIfInBounds_toArray, List.set_cons_zero, List.set_cons_succ])
                  refine wpAnyH_take (i := 7) (v := ?v7f) (by simp only [List.getElem?_toArray, List.getElem?_cons_succ, List.getElem?_cons_zero]; rfl) (by kernel_rfl) (by kernel_rfl) (by kernel_rfl) (by exact fun _ _ _ h => h) (Or.inl ⟨by rfl, ?hy7f⟩) (by assumption) ?r7f
                  case hy7f => ((intro w hSw; (try dsimp only at hSw); go_simp); (try with_reducible rfl))
                  (try simp only [Act.put, List.setIfInBounds_toArray, List.set_cons_zero, List.set_cons_succ])
                  refine wpAnyH_take (i := 8) (v := ?v8f) (by simp only [List.getElem?_toArray, List.getElem?_cons_succ, List.getElem?_cons_zero]; rfl) (by kernel_rfl) (by kernel_rfl) (by kernel_rfl) (by exact fun _ _ _ h => h) (Or.inl ⟨by rfl, ?hy8f⟩) (by assumption) ?r8f
                  case hy8f => ((intro w hSw; (try dsimp only at hSw); go_simp); (try with_reducible rfl))
                  (try simp only [Act.put, List.setIfInBounds_toArray, List.set_cons_zero, List.set_cons_succ])
                  refine wpAnyH_take (i := 9) (v := ?v9f) (by simp only [List.getElem?_toArray, List.getElem?_cons_succ, List.getElem?_cons_zero]; rfl) (by kernel_rfl) (by kernel_rfl) (by kernel_rfl) (by exact fun _ _ _ h => h) (Or.inl ⟨by rfl, ?hy9f⟩) (by assumption) ?r9f
                  case hy9f => ((intro w hSw; (try dsimp only at hSw); go_simp); (try with_reducible rfl))
                  (try simp only [Act.put, List.setIfInBounds_toArray, List.set_cons_zero, List.set_cons_succ])
                  refine wpAnyH_take (i := 10) (v := ?v10f) (by simp only [List.getElem?_toArray, List.getElem?_cons_succ, List.getElem?_cons_zero]; rfl) (by kernel_rfl) (by kernel_rfl) (by kernel_rfl) (by exact fun _ _ _ h => h) (Or.inl ⟨by rfl, ?hy10f⟩) (by assumption) ?r10f
                  case hy10f => ((intro w hSw; (try dsimp only at hSw); go_simp); (try with_reducible rfl))
                  (try simp only [Act.put, List.setIfInBounds_toArray, List.set_cons_zero, List.set_cons_succ])
                  refine wpAnyH_take (i := 11) (v := ?v11f) (by simp only [List.getElem?_toArray, List.getElem?_cons_succ, List.getElem?_cons_zero]; rfl) (by kernel_rfl) (by kernel_rfl) (by kernel_rfl) (by exact fun _ _ _ h => h) (Or.inl ⟨by rfl, ?hy11f⟩) (by assumption) ?r11f
                  case hy11f => ((intro w hSw; (try dsimp only at hSw); go_simp); (try with_reducible rfl))
                  (try simp only [Act.put, List.setIfInBounds_toArray, List.set_cons_zero, List.set_cons_succ])
                  refine wpAnyH_take (i := 12) (v := ?v12f) (by simp only [List.getElem?_toArray, List.getElem?_cons_succ, List.getElem?_cons_zero]; rfl) (by kernel_rfl) (by kernel_rfl) (by kernel_rfl) (by exact fun _ _ _ h => h) (Or.inl ⟨by rfl, ?hy12f⟩) (by assumption) ?r12f
                  case hy12f => ((intro w hSw; (try dsimp only at hSw); go_simp); (try with_reducible rfl))
                  (try simp only [Act.put, List.setIfInBounds_toArray, List.set_cons_zero, List.set_cons_succ])
                  refine wpAnyH_take (i := 13) (v := ?v13f) (by simp only [List.getElem?_toArray, List.getElem?_cons_succ, List.getElem?_cons_zero]; rfl) (by kernel_rfl) (by kernel_rfl) (by kernel_rfl) (by exact fun _ _ _ h => h) (Or.inl ⟨by rfl, ?hy13f⟩) (by assumption) ?r13f
                  case hy13f => ((intro w hSw; (try dsimp only at hSw); go_simp); (try with_reducible rfl))
                  (try simp only [Act.put, List.setIfInBounds_toArray, List.set_cons_zero, List.set_cons_succ])
                  refine wpAnyH_take (i := 14) (v := ?v14f) (by simp only [List.getElem?_toArray, List.getElem?_cons_succ, List.getElem?_cons_zero]; rfl) (by kernel_rfl) (by kernel_rfl) (by kernel_rfl) (by exact fun _ _ _ h => h) (Or.inl ⟨by rfl, ?hy14f⟩) (by assumption) ?r14f
                  case hy14f => ((intro w hSw; (try dsimp only at hSw); go_simp); (try with_reducible rfl))
                  (try simp only [Act.put, List.setIfInBounds_toArray, List.set_cons_zero, List.set_cons_succ])
                  refine wpAnyH_take (i := 15) (v := ?v15f) (by simp only [List.getElem?_toArray, List.getElem?_cons_succ, List.getElem?_cons_zero]; rfl) (by kernel_rfl) (by kernel_rfl) (by kernel_rfl) (by exact fun _ _ _ h => h) (Or.inl ⟨by rfl, ?hy15f⟩) (by assumption) ?r15f
                  case hy15f => ((intro w hSw; (try dsimp only at hSw); go_simp); (try with_reducible rfl))
                  (try simp only [Act.put, List.setIfInBounds_toArray, List.set_cons_zero, List.set_cons_succ])
                  refine wpAnyH_take (i := 16) (v := ?v16f) (by simp only [List.getElem?_toArray, List.getElem?_cons_succ, List.getElem?_cons_zero]; rfl) (by kernel_rfl) (by kernel_rfl) (by kernel_rfl) (by exact fun _ _ _ h => h) (Or.inl ⟨by rfl, ?hy16f⟩) (by assumption) ?r16f
                  case hy16f => ((intro w hSw; (try dsimp only at hSw); go_simp); (try with_reducible rfl))
                  (try simp only [Act.put, List.setIfInBounds_toArray, List.set_cons_zero, List.set_cons_succ])
                  refine wpAnyH_take (i := 17) (v := ?v17f) (by simp only [List.getElem?_toArray, List.getElem?_cons_succ, List.getElem?_cons_zero]; rfl) (by kernel_rfl) (by kernel_rfl) (by kernel_rfl) (by exact fun _ _ _ h => h) (Or.inl ⟨by rfl, ?hy17f⟩) (by assumption) ?r17f
                  case hy17f => ((intro w hSw; (try dsimp only at hSw); go_simp); (try with_reducible rfl))
                  (try simp only [Act.put, List.setIfInBounds_toArray, List.set_cons_zero, List.set_cons_succ])
                  refine wpAnyH_take (i := 18) (v := ?v18f) (by simp only [List.getElem?_toArray, List.getElem?_cons_succ, List.getElem?_cons_zero]; rfl) (by kernel_rfl) (by kernel_rfl) (by kernel_rfl) (by exact fun _ _ _ h => h) (Or.inl ⟨by rfl, ?hy18f⟩) (by assumption) ?r18f
                  case hy18f => ((intro w hSw; (try dsimp only at hSw); go_simp); (try with_reducible rfl))
                  (try simp only [Act.put, List.setIfInBounds_toArray, List.set_cons_zero, List.set_cons_succ])
                  refine wpAnyH_take (i := 19) (v := ?v19f) (by simp only [List.getElem?_toArray, List.getElem?_cons_succ, List.getElem?_cons_zero]; rfl) (by kernel_rfl) (by kernel_rfl) (by kernel_rfl) (by exact fun _ _ _ h => h) (Or.inl ⟨by rfl, ?hy19f⟩) (by assumption) ?r19f
                  case hy19f => ((intro w hSw; (try dsimp only at hSw); go_simp); (try with_reducible rfl))
                  (try simp only [Act.put, List.setIfInBounds_toArray, List.set_cons_zero, List.set_cons_succ])
                  refine wpAnyH_take (i := 20) (v := ?v20f) (by simp only [List.getElem?_toArray, List.getElem?_cons_succ, List.getElem?_cons_zero]; rfl) (by kernel_rfl) (by kernel_rfl) (by kernel_rfl) (by exact fun _ _ _ h => h) (Or.inl ⟨by rfl, ?hy20f⟩) (by assumption) ?r20f
                  case hy20f => ((intro w hSw; (try dsimp only at hSw); go_simp); (try with_reducible rfl))
                  (try simp only [Act.put, List.setIfInBounds_toArray, List.set_cons_zero, List.set_cons_succ])
                  refine wpAnyH_ready (rs := [21]) (by kernel_rfl) (by simp) ?_
                  refine AllReadyH.cons (by simp only [List.getElem?_toArray, List.getElem?_cons_succ, List.getElem?_cons_zero]; rfl) (fun K hK => ?_) AllReadyH.nil
                  ((go_simp; go_at_call 16; refine (CR.out _).mono ?_; rintro e w6 ⟨rfl, b6⟩; have V9 := Lib.hid (Vb.below V0.out.drew b6); have B9 := Lib.hid (bt' HBl.out.drew b6); clear b6))
                  refine hK.out _ _ ?hS21f (fun hHeld => ?s21f)
                  case hS21f => ((try dsimp only); (first | exact HSS.out _ V9.out B9.out | exact HSS.out _ V0.out.drew HBl.out.drew | go_keep))
                  clear hK K
                  (try simp only [Act.put, List.setIfInBounds_toArray, List.set_cons_zero, List.set_cons_succ])
                  refine wpAnyH_take (i := 22) (v := ?v22f) (by simp only [List.getElem?_toArray, List.getElem?_cons_succ, List.getElem?_cons_zero]; rfl) (by kernel_rfl) (by kernel_rfl) (by kernel_rfl) (by exact fun _ _ _ h => h) (Or.inl ⟨by rfl, ?hy22f⟩) (by assumption) ?r22f
                  case hy22f => ((intro w hSw; (try dsimp only at hSw); go_simp); (try with_reducible rfl))
                  (try simp only [Act.put, List.setIfInBounds_toArray, List.set_cons_zero, List.set_cons_succ])
                  refine wpAnyH_take (i := 23) (v := ?v23f) (by simp only [List.getElem?_toArray, List.getElem?_cons_succ, List.getElem?_cons_zero]; rfl) (by kernel_rfl) (by kernel_rfl) (by kernel_rfl) (by exact fun _ _ _ h => h) (Or.inl ⟨by rfl, ?hy23f⟩) (by assumption) ?r23f
                  case hy23f => ((intro w hSw; (try dsimp only at hSw); go_simp); (try with_reducible rfl))
                  (try simp only [Act.put, List.setIfInBounds_toArray, List.set_cons_zero, List.set_cons_succ])
                  refine wpAnyH_take (i := 24) (v := ?v24f) (by simp only [List.getElem?_toArray, List.getElem?_cons_succ, List.getElem?_cons_zero]; rfl) (by kernel_rfl) (by kernel_rfl) (by kernel_rfl) (by exact fun _ _ _ h => h) (Or.inl ⟨by rfl, ?hy24f⟩) (by assumption) ?r24f
                  case hy24f => ((intro w hSw; (try dsimp only at hSw); go_simp); (try with_reducible rfl))
                  (try simp only [Act.put, List.setIfInBounds_toArray, List.set_cons_zero, List.set_cons_succ])
                  refine wpAnyH_take (i := 25) (v := ?v25f) (by simp only [List.getElem?_toArray, List.getElem?_cons_succ, List.getElem?_cons_zero]; rfl) (by kernel_rfl) (by kernel_rfl) (by kernel_rfl) (by exact fun _ _ _ h => h) (Or.inl ⟨by rfl, ?hy25f⟩) (by assumption) ?r25f
                  case hy25f => ((intro w hSw; (try dsimp only at hSw); go_simp); (try with_reducible rfl))
                  (try simp only [Act.put, List.setIfInBounds_toArray, List.set_cons_zero, List.set_cons_succ])
                  refine wpAnyH_take (i := 26) (v := ?v26f) (by simp only [List.getElem?_toArray, List.getElem?_cons_succ, List.getElem?_cons_zero]; rfl) (by kernel_rfl) (by kernel_rfl) (by kernel_rfl) (by exact fun _ _ _ h => h) (Or.inl ⟨by rfl, ?hy26f⟩) (by assumption) ?r26f
                  case hy26f => ((intro w hSw; (try dsimp only at hSw); go_simp); (try with_reducible rfl))
                  (try simp only [Act.put, List.setIfInBounds_toArray, List.set_cons_zero, List.set_cons_succ])
                  refine wpAnyH_take (i := 27) (v := ?v27f) (by simp only [List.getElem?_toArray, List.getElem?_cons_succ, List.getElem?_cons_zero]; rfl) (by kernel_rfl) (by kernel_rfl) (by kernel_rfl) (by exact fun _ _ _ h => h) (Or.inl ⟨by rfl, ?hy27f⟩) (by assumption) ?r27f
                  case hy27f => ((intro w hSw; (try dsimp only at hSw); go_simp); (try with_reducible rfl))
                  (try simp only [Act.put, List.setIfInBounds_toArray, List.set_cons_zero, List.set_cons_succ])
                  refine wpAnyH_take (i := 28) (v := undef) (by simp only [List.getElem?_toArray, List.getElem?_cons_succ, List.getElem?_cons_zero]; rfl) (by kernel_rfl) (by kernel_rfl) (by kernel_rfl) (by exact fun _ _ _ h => h) (Or.inr ⟨by rfl, rfl⟩) (by assumption) ?r28f
                  (try simp only [Act.put, List.setIfInBounds_toArray, List.set_cons_zero, List.set_cons_succ])
                  refine wpAnyH_take (i := 29) (v := undef) (by simp only [List.getElem?_toArray, List.getElem?_cons_succ, List.getElem?_cons_zero]; rfl) (by kernel_rfl) (by kernel_rfl) (by kernel_rfl) (by exact fun _ _ _ h => h) (Or.inr ⟨by rfl, rfl⟩) (by assumption) ?r29f
                  (try simp only [Act.put, List.setIfInBounds_toArray, List.set_cons_zero, List.set_cons_succ])
                  refine wpAnyH_take (i := 30) (v := undef) (by simp only [List.getElem?_toArray, List.getElem?_cons_succ, List.getElem?_cons_zero]; rfl) (by kernel_rfl) (by kernel_rfl) (by kernel_rfl) (by exact fun _ _ _ h => h) (Or.inr ⟨by rfl, rfl⟩) (by assumption) ?r30f
                  (try simp only [Act.put, List.setIfInBounds_toArray, List.set_cons_zero, List.set_cons_succ])
                  refine wpAnyH_take (i := 31) (v := undef) (by simp only [List.getElem?_toArray, List.getElem?_cons_succ, List.getElem?_cons_zero]; rfl) (by kernel_rfl) (by kernel_rfl) (by kernel_rfl) (by exact fun _ _ _ h => h) (Or.inr ⟨by rfl, rfl⟩) (by assumption) ?r31f
                  (try simp only [Act.put, List.setIfInBounds_toArray, List.set_cons_zero, List.set_cons_succ])
                  refine wpAnyH_take (i := 32) (v := undef) (by simp only [List.getElem?_toArray, List.getElem?_cons_succ, List.getElem?_cons_zero]; rfl) (by kernel_rfl) (by kernel_rfl) (by kernel_rfl) (by exact fun _ _ _ h => h) (Or.inr ⟨by rfl, rfl⟩) (by assumption) ?r32f
                  (try simp only [Act.put, List.setIfInBounds_toArray, List.set_cons_zero, List.set_cons_succ])
                  refine wpAnyH_take (i := 33) (v := undef) (by simp only [List.getElem?_toArray, List.getElem?_cons_succ, List.getElem?_cons_zero]; rfl) (by kernel_rfl) (by kernel_rfl) (by kernel_rfl) (by exact fun _ _ _ h => h) (Or.inr ⟨by rfl, rfl⟩) (by assumption) ?r33f
                  (try simp only [Act.put, List.setIfInBounds_toArray, List.set_cons_zero, List.set_cons_succ])
                  refine wpAnyH_take (i := 34) (v := undef) (by simp only [List.getElem?_toArray, List.getElem?_cons_succ, List.getElem?_cons_zero]; rfl) (by kernel_rfl) (by kernel_rfl) (by kernel_rfl) (by exact fun _ _ _ h => h) (Or.inr ⟨by rfl, rfl⟩) (by assumption) ?r34f
                  (try simp only [Act.put, List.setIfInBounds_toArray, List.set_cons_zero, List.set_cons_succ])
                  refine wpAnyH_take (i := 35) (v := ?v35f) (by simp only [List.getElem?_toArray, List.getElem?_cons_succ, List.getElem?_cons_zero]; rfl) (by kernel_rfl) (by kernel_rfl) (by kernel_rfl) (by exact fun _ _ _ h => h) (Or.inl ⟨by rfl, ?hy35f⟩) (by assumption) ?r35f
                  case hy35f => ((intro w hSw; (try dsimp only at hSw); go_simp); (try with_reducible rfl))
                  (try simp only [Act.put, List.setIfInBounds_toArray, List.set_cons_zero, List.set_cons_succ])
                  refine wpAnyH_take (i := 36) (v := ?v36f) (by simp only [List.getElem?_toArray, List.getElem?_cons_succ, List.getElem?_cons_zero]; rfl) (by kernel_rfl) (by kernel_rfl) (by kernel_rfl) (by exact fun _ _ _ h => h) (Or.inl ⟨by rfl, ?hy36f⟩) (by assumption) ?r36f
                  case hy36f => ((intro w hSw; (try dsimp only at hSw); go_simp); (try with_reducible rfl))
                  (try simp only [Act.put, List.setIfInBounds_toArray, List.set_cons_zero, List.set_cons_succ])
                  refine wpAnyH_done (by kernel_rfl) ?_ _
                  all_goals
                    go_wp2
                    go_roundw
                    case rel => exact ⟨k + 1, v, by omega, by omega, by go_num, hvo, hvr, fun p hp => V9.out p (by rw [List.mem_singleton.1 hp]; simp), B9.out⟩
                    case measure => simp [intOf]; omega
                · have CR := Lib.hid (fun w => hvr ▸ right_any v w hvo)
                  have l3 : ¬ v.p < v.b := by have := ((rightB_iff v).1 hvr).1; omega
                  have V0 := Lib.hid (show Vb wc [(g0, v), (wr.heap.size, v)] from fun p hp => by
                      simp only [List.mem_cons, List.not_mem_nil, or_false] at hp
                      rcases hp with rfl | rfl
                      · exact HV.out (g0, v) (by simp)
                      · exact HV.out (wr.heap.size, v) (by simp))
                  obtain ⟨m0, m1, m2', z4⟩ := HV.out.cells (g := wr.heap.size) (x := v) (by simp)
                  obtain ⟨i0, i1, i2, g3, g4, g5, z5⟩ := cells3 (HV.out (g0, v) (by simp))
                  go_upto_region 12 with fail
                  have HSS := Lib.hid (fun (X : World) (h : Vb X [(g0, v), (wr.heap.size, v)]) (hb : Below w.heap.size w X) => And.intro h.two (HC0.out X hb).1)
                  refine wp_region_held_drew (S := (fun w' => (w'.cell? ⟨g0, 0, none⟩ = some (.int .u64 (v.p : Int)) ∧ w'.cell? ⟨g0, 1, none⟩ = some (.int .u64 (v.b : Int)) ∧ w'.cell? ⟨g0, 2, none⟩ = some (.string v.s) ∧ w'.cell? ⟨wr.heap.size, 0, none⟩ = some (.int .u64 (v.p : Int)) ∧ w'.cell? ⟨wr.heap.size, 1, none⟩ = some (.int .u64 (v.b : Int))) ∧ w'.cell? (a.add k) = some (.int .u64 (x : Int)))) (by kernel_rfl) ?hS0g (fun hHeld => ?s0g)
                  case hS0g => ((try dsimp only); (first | exact HSS.out _ V9.out B9.out | exact HSS.out _ V0.out.drew HBl.out.drew | go_keep))
                  refine wpAnyH_take (i := 0) (v := ?v0g) (by simp only [List.getElem?_toArray, List.getElem?_cons_zero]; rfl) (by kernel_rfl) (by kernel_rfl) (by kernel_rfl) (by exact fun _ _ _ h => h) (Or.inl ⟨by rfl, ?hy0g⟩) (by assumption) ?r0g
                  case hy0g => ((intro w hSw; (try dsimp only at hSw); go_simp); (try with_reducible rfl))
                  (try simp only [Act.put, List.setIfInBounds_toArray, List.set_cons_zero, List.set_cons_succ])
                  refine wpAnyH_take (i := 1) (v := ?v1g) (by simp only [List.getElem?_toArray, List.getElem?_cons_succ, List.getElem?_cons_zero]; rfl) (by kernel_rfl) (by kernel_rfl) (by kernel_rfl) (by exact fun _ _ _ h => h) (Or.inl ⟨by rfl, ?hy1g⟩) (by assumption) ?r1g
                  case hy1g => ((intro w hSw; (try dsimp only at hSw); go_simp); (try with_reducible rfl))
                  (try simp only [Act.put, List.setIfInBounds_toArray, List.set_cons_zero, List.set_cons_succ])
                  refine wpAnyH_take (i := 2) (v := ?v2g) (by simp only [List.getElem?_toArray, List.getElem?_cons_succ, List.getElem?_cons_zero]; rfl) (by kernel_rfl) (by kernel_rfl) (by kernel_rfl) (by exact fun _ _ _ h => h) (Or.inl ⟨by rfl, ?hy2g⟩) (by assumption) ?r2g
                  case hy2g => ((intro w hSw; (try dsimp only at hSw); go_simp); (try with_reducible rfl))
                  (try simp only [Act.put, List.setIfInBounds_toArray, List.set_cons_zero, List.set_cons_succ])
                  refine wpAnyH_take (i := 3) (v := ?v3g) (by simp only [List.getElem?_toArray, List.getElem?_cons_succ, List.getElem?_cons_zero]; rfl) (by kernel_rfl) (by kernel_rfl) (by kernel_rfl) (by exact fun _ _ _ h => h) (Or.inl ⟨by rfl, ?hy3g⟩) (by assumption) ?r3g
                  case hy3g => ((intro w hSw; (try dsimp only at hSw); go_simp); (try with_reducible rfl))
                  (try simp only [Act.put, List.setIfInBounds_toArray, List.set_cons_zero, List.set_cons_succ])
                  refine wpAnyH_take (i := 4) (v := ?v4g) (by simp only [List.getElem?_toArray, List.getElem?_cons_succ, List.getElem?_cons_zero]; rfl) (by kernel_rfl) (by kernel_rfl) (by kernel_rfl) (by exact fun _ _ _ h => h) (Or.inl ⟨by rfl, ?hy4g⟩) (by assumption) ?r4g
                  case hy4g => ((intro w hSw; (try dsimp only at hSw); go_simp); (try with_reducible rfl))
                  (try simp only [Act.put, List.setIfInBounds_toArray, List.set_cons_zero, List.set_cons_succ])
                  refine wpAnyH_take (i := 5) (v := ?v5g) (by simp only [List.getElem?_toArray, List.getElem?_cons_succ, List.getElem?_cons_zero]; rfl) (by kernel_rfl) (by kernel_rfl) (by kernel_rfl) (by exact fun _ _ _ h => h) (Or.inl ⟨by rfl, ?hy5g⟩) (by assumption) ?r5g
                  case hy5g => ((intro w hSw; (try dsimp only at hSw); go_simp); (try with_reducible rfl))
                  (try simp only [Act.put, List.setIfInBounds_toArray, List.set_cons_zero, List.set_cons_succ])
                  refine wpAnyH_take (i := 6) (v := ?v6g) (by simp only [List.getElem?_toArray, List.getElem?_cons_succ, List.getElem?_cons_zero]; rfl) (by kernel_rfl) (by kernel_rfl) (by kernel_rfl) (by exact fun _ _ _ h => h) (Or.inl ⟨by rfl, ?hy6g⟩) (by assumption) ?r6g
                  case hy6g => ((intro w hSw; (try dsimp only at hSw); go_simp); (try with_reducible rfl))
                  (try simp only [Act.put, List.setIfInBounds_toArray, List.set_cons_zero, List.set_cons_succ])
                  refine wpAnyH_take (i := 7) (v := ?v7g) (by simp only [List.getElem?_toArray, List.getElem?_cons_succ, List.getElem?_cons_zero]; rfl) (by kernel_rfl) (by kernel_rfl) (by kernel_rfl) (by exact fun _ _ _ h => h) (Or.inl ⟨by rfl, ?hy7g⟩) (by assumption) ?r7g
                  case hy7g => ((intro w hSw; (try dsimp only at hSw); go_simp); (try with_reducible rfl))
                  (try simp only [Act.put, List.setIfInBounds_toArray, List.set_cons_zero, List.set_cons_succ])
                  refine wpAnyH_take (i := 8) (v := ?v8g) (by simp only [List.getElem?_toArray, List.getElem?_cons_succ, List.getElem?_cons_zero]; rfl) (by kernel_rfl) (by kernel_rfl) (by kernel_rfl) (by exact fun _ _ _ h => h) (Or.inl ⟨by rfl, ?hy8g⟩) (by assumption) ?r8g
                  case hy8g => ((intro w hSw; (try dsimp only at hSw); go_simp); (try with_reducible rfl))
                  (try simp only [Act.put, List.setIfInBounds_toArray, List.set_cons_zero, List.set_cons_succ])
                  refine wpAnyH_take (i := 9) (v := ?v9g) (by simp only [List.getElem?_toArray, List.getElem?_cons_succ, List.getElem?_cons_zero]; rfl) (by kernel_rfl) (by kernel_rfl) (by kernel_rfl) (by exact fun _ _ _ h => h) (Or.inl ⟨by rfl, ?hy9g⟩) (by assumption) ?r9g
                  case hy9g => ((intro w hSw; (try dsimp only at hSw); go_simp); (try with_reducible rfl))
                  (try simp only [Act.put, List.setIfInBounds_toArray, List.set_cons_zero, List.set_cons_succ])
                  refine wpAnyH_take (i := 10) (v := ?v10g) (by simp only [List.getElem?_toArray, List.getElem?_cons_succ, List.getElem?_cons_zero]; rfl) (by kernel_rfl) (by kernel_rfl) (by kernel_rfl) (by exact fun _ _ _ h => h) (Or.inl ⟨by rfl, ?hy10g⟩) (by assumption) ?r10g
                  case hy10g => ((intro w hSw; (try dsimp only at hSw); go_simp); (try with_reducible rfl))
                  (try simp only [Act.put, List.setIfInBounds_toArray, List.set_cons_zero, List.set_cons_succ])
                  refine wpAnyH_take (i := 11) (v := ?v11g) (by simp only [List.getElem?_toArray, List.getElem?_cons_succ, List.getElem?_cons_zero]; rfl) (by kernel_rfl) (by kernel_rfl) (by kernel_rfl) (by exact fun _ _ _ h => h) (Or.inl ⟨by rfl, ?hy11g⟩) (by assumption) ?r11g
                  case hy11g => ((intro w hSw; (try dsimp only at hSw); go_simp); (try with_reducible rfl))
                  (try simp only [Act.put, List.setIfInBounds_toArray, List.set_cons_zero, List.set_cons_succ])
                  refine wpAnyH_take (i := 12) (v := ?v12g) (by simp only [List.getElem?_toArray, List.getElem?_cons_succ, List.getElem?_cons_zero]; rfl) (by kernel_rfl) (by kernel_rfl) (by kernel_rfl) (by exact fun _ _ _ h => h) (Or.inl ⟨by rfl, ?hy12g⟩) (by assumption) ?r12g
                  case hy12g => ((intro w hSw; (try dsimp only at hSw); go_simp); (try with_reducible rfl))
                  (try simp only [Act.put, List.setIfInBounds_toArray, List.set_cons_zero, List.set_cons_succ])
                  refine wpAnyH_take (i := 13) (v := ?v13g) (by simp only [List.getElem?_toArray, List.getElem?_cons_succ, List.getElem?_cons_zero]; rfl) (by kernel_rfl) (by kernel_rfl) (by kernel_rfl) (by exact fun _ _ _ h => h) (Or.inl ⟨by rfl, ?hy13g⟩) (by assumption) ?r13g
                  case hy13g => ((intro w hSw; (try dsimp only at hSw); go_simp); (try with_reducible rfl))
                  (try simp only [Act.put, List.setIfInBounds_toArray, List.set_cons_zero, List.set_cons_succ])
                  refine wpAnyH_take (i := 14) (v := ?v14g) (by simp only [List.getElem?_toArray, List.getElem?_cons_succ, List.getElem?_cons_zero]; rfl) (by kernel_rfl) (by kernel_rfl) (by kernel_rfl) (by exact fun _ _ _ h => h) (Or.inl ⟨by rfl, ?hy14g⟩) (by assumption) ?r14g
                  case hy14g => ((intro w hSw; (try dsimp only at hSw); go_simp); (try with_reducible rfl))
                  (try simp only [Act.put, List.setIfInBounds_toArray, List.set_cons_zero, List.set_cons_succ])
                  refine wpAnyH_take (i := 15) (v := ?v15g) (by simp only [List.getElem?_toArray, List.getElem?_cons_succ, List.getElem?_cons_zero]; rfl) (by kernel_rfl) (by kernel_rfl) (by kernel_rfl) (by exact fun _ _ _ h => h) (Or.inl ⟨by rfl, ?hy15g⟩) (by assumption) ?r15g
                  case hy15g => ((intro w hSw; (try dsimp only at hSw); go_simp); (try with_reducible rfl))
                  (try simp only [Act.put, List.setIfInBounds_toArray, List.set_cons_zero, List.set_cons_succ])
                  refine wpAnyH_take (i := 16) (v := ?v16g) (by simp only [List.getElem?_toArray, List.getElem?_cons_succ, List.getElem?_cons_zero]; rfl) (by kernel_rfl) (by kernel_rfl) (by kernel_rfl) (by exact fun _ _ _ h => h) (Or.inl ⟨by rfl, ?hy16g⟩) (by assumption) ?r16g
                  case hy16g => ((intro w hSw; (try dsimp only at hSw); go_simp); (try with_reducible rfl))
                  (try simp only [Act.put, List.setIfInBounds_toArray, List.set_cons_zero, List.set_cons_succ])
                  refine wpAnyH_take (i := 17) (v := ?v17g) (by simp only [List.getElem?_toArray, List.getElem?_cons_succ, List.getElem?_cons_zero]; rfl) (by kernel_rfl) (by kernel_rfl) (by kernel_rfl) (by exact fun _ _ _ h => h) (Or.inl ⟨by rfl, ?hy17g⟩) (by assumption) ?r17g
                  case hy17g => ((intro w hSw; (try dsimp only at hSw); go_simp); (try with_reducible rfl))
                  (try simp only [Act.put, List.setIfInBounds_toArray, List.set_cons_zero, List.set_cons_succ])
                  refine wpAnyH_take (i := 18) (v := ?v18g) (by simp only [List.getElem?_toArray, List.getElem?_cons_succ, List.getElem?_cons_zero]; rfl) (by kernel_rfl) (by kernel_rfl) (by kernel_rfl) (by exact fun _ _ _ h => h) (Or.inl ⟨by rfl, ?hy18g⟩) (by assumption) ?r18g
                  case hy18g => ((intro w hSw; (try dsimp only at hSw); go_simp); (try with_reducible rfl))
                  (try simp only [Act.put, List.setIfInBounds_toArray, List.set_cons_zero, List.set_cons_succ])
                  refine wpAnyH_take (i := 19) (v := ?v19g) (by simp only [List.getElem?_toArray, List.getElem?_cons_succ, List.getElem?_cons_zero]; rfl) (by kernel_rfl) (by kernel_rfl) (by kernel_rfl) (by exact fun _ _ _ h => h) (Or.inl ⟨by rfl, ?hy19g⟩) (by assumption) ?r19g
                  case hy19g => ((intro w hSw; (try dsimp only at hSw); go_simp); (try with_reducible rfl))
                  (try simp only [Act.put, List.setIfInBounds_toArray, List.set_cons_zero, List.set_cons_succ])
                  refine wpAnyH_take (i := 20) (v := ?v20g) (by simp only [List.getElem?_toArray, List.getElem?_cons_succ, List.getElem?_cons_zero]; rfl) (by kernel_rfl) (by kernel_rfl) (by kernel_rfl) (by exact fun _ _ _ h => h) (Or.inl ⟨by rfl, ?hy20g⟩) (by assumption) ?r20g
                  case hy20g => ((intro w hSw; (try dsimp only at hSw); go_simp); (try with_reducible rfl))
                  (try simp only [Act.put, List.setIfInBounds_toArray, List.set_cons_zero, List.set_cons_succ])
                  refine wpAnyH_ready (rs := [21]) (by kernel_rfl) (by simp) ?_
                  refine AllReadyH.cons (by simp only [List.getElem?_toArray, List.getElem?_cons_succ, List.getElem?_cons_zero]; rfl) (fun K hK => ?_) AllReadyH.nil
                  ((go_simp; go_at_call 16; refine (CR.out _).mono ?_; rintro e w6 ⟨rfl, b6⟩; have V9 := Lib.hid (Vb.below V0.out.drew b6); have B9 := Lib.hid (bt' HBl.out.drew b6); clear b6))
                  refine hK.out _ _ ?hS21g (fun hHeld => ?s21g)
                  case hS21g => ((try dsimp only); (first | exact HSS.out _ V9.out B9.out | exact HSS.out _ V0.out.drew HBl.out.drew | go_keep))
                  clear hK K
                  (try simp only [Act.put, List.setIfInBounds_toArray, List.set_cons_zero, List.set_cons_succ])
                  refine wpAnyH_take (i := 22) (v := ?v22g) (by simp only [List.getElem?_toArray, List.getElem?_cons_succ, List.getElem?_cons_zero]; rfl) (by kernel_rfl) (by kernel_rfl) (by kernel_rfl) (by exact fun _ _ _ h => h) (Or.inl ⟨by rfl, ?hy22g⟩) (by assumption) ?r22g
                  case hy22g => ((intro w hSw; (try dsimp only at hSw); go_simp); (try with_reducible rfl))
                  (try simp only [Act.put, List.setIfInBounds_toArray, List.set_cons_zero, List.set_cons_succ])
                  refine wpAnyH_take (i := 23) (v := ?v23g) (by simp only [List.getElem?_toArray, List.getElem?_cons_succ, List.getElem?_cons_zero]; rfl) (by kernel_rfl) (by kernel_rfl) (by kernel_rfl) (by exact fun _ _ _ h => h) (Or.inl ⟨by rfl, ?hy23g⟩) (by assumption) ?r23g
                  case hy23g => ((intro w hSw; (try dsimp only at hSw); go_simp); (try with_reducible rfl))
                  (try simp only [Act.put, List.setIfInBounds_toArray, List.set_cons_zero, List.set_cons_succ])
                  refine wpAnyH_take (i := 24) (v := ?v24g) (by simp only [List.getElem?_toArray, List.getElem?_cons_succ, List.getElem?_cons_zero]; rfl) (by kernel_rfl) (by kernel_rfl) (by kernel_rfl) (by exact fun _ _ _ h => h) (Or.inl ⟨by rfl, ?hy24g⟩) (by assumption) ?r24g
                  case hy24g => ((intro w hSw; (try dsimp only at hSw); go_simp); (try with_reducible rfl))
                  (try simp only [Act.put, List.setIfInBounds_toArray, List.set_cons_zero, List.set_cons_succ])
                  refine wpAnyH_take (i := 25) (v := ?v25g) (by simp only [List.getElem?_toArray, List.getElem?_cons_succ, List.getElem?_cons_zero]; rfl) (by kernel_rfl) (by kernel_rfl) (by kernel_rfl) (by exact fun _ _ _ h => h) (Or.inl ⟨by rfl, ?hy25g⟩) (by assumption) ?r25g
                  case hy25g => ((intro w hSw; (try dsimp only at hSw); go_simp); (try with_reducible rfl))
                  (try simp only [Act.put, List.setIfInBounds_toArray, List.set_cons_zero, List.set_cons_succ])
                  refine wpAnyH_take (i := 26) (v := ?v26g) (by simp only [List.getElem?_toArray, List.getElem?_cons_succ, List.getElem?_cons_zero]; rfl) (by kernel_rfl) (by kernel_rfl) (by kernel_rfl) (by exact fun _ _ _ h => h) (Or.inl ⟨by rfl, ?hy26g⟩) (by assumption) ?r26g
                  case hy26g => ((intro w hSw; (try dsimp only at hSw); go_simp); (try with_reducible rfl))
                  (try simp only [Act.put, List.setIfInBounds_toArray, List.set_cons_zero, List.set_cons_succ])
                  refine wpAnyH_take (i := 27) (v := ?v27g) (by simp only [List.getElem?_toArray, List.getElem?_cons_succ, List.getElem?_cons_zero]; rfl) (by kernel_rfl) (by kernel_rfl) (by kernel_rfl) (by exact fun _ _ _ h => h) (Or.inl ⟨by rfl, ?hy27g⟩) (by assumption) ?r27g
                  case hy27g => ((intro w hSw; (try dsimp only at hSw); go_simp); (try with_reducible rfl))
                  (try simp only [Act.put, List.setIfInBounds_toArray, List.set_cons_zero, List.set_cons_succ])
                  refine wpAnyH_take (i := 28) (v := undef) (by simp only [List.getElem?_toArray, List.getElem?_cons_succ, List.getElem?_cons_zero]; rfl) (by kernel_rfl) (by kernel_rfl) (by kernel_rfl) (by exact fun _ _ _ h => h) (Or.inr ⟨by rfl, rfl⟩) (by assumption) ?r28g
                  (try simp only [Act.put, List.setIfInBounds_toArray, List.set_cons_zero, List.set_cons_succ])
                  refine wpAnyH_take (i := 29) (v := undef) (by simp only [List.getElem?_toArray, List.getElem?_cons_succ, List.getElem?_cons_zero]; rfl) (by kernel_rfl) (by kernel_rfl) (by kernel_rfl) (by exact fun _ _ _ h => h) (Or.inr ⟨by rfl, rfl⟩) (by assumption) ?r29g
                  (try simp only [Act.put, List.setIfInBounds_toArray, List.set_cons_zero, List.set_cons_succ])
                  refine wpAnyH_take (i := 30) (v := undef) (by simp only [List.getElem?_toArray, List.getElem?_cons_succ, List.getElem?_cons_zero]; rfl) (by kernel_rfl) (by kernel_rfl) (by kernel_rfl) (by exact fun _ _ _ h => h) (Or.inr ⟨by rfl, rfl⟩) (by assumption) ?r30g
                  (try simp only [Act.put, List.setIfInBounds_toArray, List.set_cons_zero, List.set_cons_succ])
                  refine wpAnyH_take (i := 31) (v := undef) (by simp only [List.getElem?_toArray, List.getElem?_cons_succ, List.getElem?_cons_zero]; rfl) (by kernel_rfl) (by kernel_rfl) (by kernel_rfl) (by exact fun _ _ _ h => h) (Or.inr ⟨by rfl, rfl⟩) (by assumption) ?r31g
                  (try simp only [Act.put, List.setIfInBounds_toArray, List.set_cons_zero, List.set_cons_succ])
                  refine wpAnyH_take (i := 32) (v := undef) (by simp only [List.getElem?_toArray, List.getElem?_cons_succ, List.getElem?_cons_zero]; rfl) (by kernel_rfl) (by kernel_rfl) (by kernel_rfl) (by exact fun _ _ _ h => h) (Or.inr ⟨by rfl, rfl⟩) (by assumption) ?r32g
                  (try simp only [Act.put, List.setIfInBounds_toArray, List.set_cons_zero, List.set_cons_succ])
                  refine wpAnyH_take (i := 33) (v := undef) (by simp only [List.getElem?_toArray, List.getElem?_cons_succ, List.getElem?_cons_zero]; rfl) (by kernel_rfl) (by kernel_rfl) (by kernel_rfl) (by exact fun _ _ _ h => h) (Or.inr ⟨by rfl, rfl⟩) (by assumption) ?r33g
                  (try simp only [Act.put, List.setIfInBounds_toArray, List.set_cons_zero, List.set_cons_succ])
                  refine wpAnyH_take (i := 34) (v := undef) (by simp only [List.getElem?_toArray, List.getElem?_cons_succ, List.getElem?_cons_zero]; rfl) (by kernel_rfl) (by kernel_rfl) (by kernel_rfl) (by exact fun _ _ _ h => h) (Or.inr ⟨by rfl, rfl⟩) (by assumption) ?r34g
                  (try simp only [Act.put, List.setIfInBounds_toArray, List.set_cons_zero, List.set_cons_succ])
                  refine wpAnyH_take (i := 35) (v := ?v35g) (by simp only [List.getElem?_toArray, List.getElem?_cons_succ, List.getElem?_cons_zero]; rfl) (by kernel_rfl) (by kernel_rfl) (by kernel_rfl) (by exact fun _ _ _ h => h) (Or.inl ⟨by rfl, ?hy35g⟩) (by assumption) ?r35g
                  case hy35g => ((intro w hSw; (try dsimp only at hSw); go_simp); (try with_reducible rfl))
                  (try simp only [Act.put, List.setIfInBounds_toArray, List.set_cons_zero, List.set_cons_succ])
                  refine wpAnyH_take (i := 36) (v := ?v36g) (by simp only [List.getElem?_toArray, List.getElem?_cons_succ, List.getElem?_cons_zero]; rfl) (by kernel_rfl) (by kernel_rfl) (by kernel_rfl) (by exact fun _ _ _ h => h) (Or.inl ⟨by rfl, ?hy36g⟩) (by assumption) ?r36g
                  case hy36g => ((intro w hSw; (try dsimp only at hSw); go_simp); (try with_reducible rfl))
                  (try simp only [Act.put, List.setIfInBounds_toArray, List.set_cons_zero, List.set_cons_succ])
                  refine wpAnyH_done (by kernel_rfl) ?_ _
                  all_goals
                    go_wp2
                    go_roundw
                    case rel => exact ⟨k + 1, v, by omega, by omega, by go_num, hvo, hvr, fun p hp => V9.out p (by rw [List.mem_singleton.1 hp]; simp), B9.out⟩
                    case measure => simp [intOf]; omega
        · go_upto_region 10 with fail
          rcases RI.out with ⟨e1, e2, e3, e4, e5, e6, e7⟩ | e1
          · obtain ⟨⟨tp, tb, ts⟩, te⟩ := r
            dsimp only at e1 e2 e3 e4 e5 e6 e7 HV ⊢
            subst e1
            subst e2
            have hne1 : g ≠ g0 := by omega
            have hne2 : wr.heap.size ≠ g0 := by omega
            have V8 := Lib.hid (Vb.put3 HV.out hne2)
            have B8 := Lib.hid (((HBl.out.setCell (p := ⟨g0, 0, none⟩) hg1.out (.int .u64 (tp : Int))).setCell (p := ⟨g0, 1, none⟩) hg1.out (.int .u64 (tb : Int))).setCell (p := ⟨g0, 2, none⟩) hg1.out (.string ts))
            have CR := Lib.hid (fun w => e6 ▸ right_any ⟨tp, tb, ts⟩ w e7)
            have E67 := Lib.hid (And.intro e6 e7)
            have l1 : ¬ tp < v.p := by omega
            have l2 : ¬ tb < v.b := by omega
            have l3 : ¬ tp < tb := by omega
            obtain ⟨m0, m1, m2', z4⟩ := HV.out.cells (g := wr.heap.size) (x := v) (by simp)
            obtain ⟨i0, i1, i2, g3, g4, g5, z5⟩ := cells3 (HV.out (g0, v) (by simp))
            clear e3 e4 e5 e6 e7
            go_upto_region 12 with fail
            have HSS := Lib.hid (fun (X : World) (h : Vb X [(g0, ⟨tp, tb, ts⟩), (wr.heap.size, v)]) (hb : Below w.heap.size w X) => And.intro h.two (HC0.out X hb).1)
            refine wp_region_held_drew (S := (fun w' => (w'.cell? ⟨g0, 0, none⟩ = some (.int .u64 (tp : Int)) ∧ w'.cell? ⟨g0, 1, none⟩ = some (.int .u64 (tb : Int)) ∧ w'.cell? ⟨g0, 2, none⟩ = some (.string ts) ∧ w'.cell? ⟨wr.heap.size, 0, none⟩ = some (.int .u64 (v.p : Int)) ∧ w'.cell? ⟨wr.heap.size, 1, none⟩ = some (.int .u64 (v.b : Int))) ∧ w'.cell? (a.add k) = some (.int .u64 (tp : Int)))) (by kernel_rfl) ?hS0h (fun hHeld => ?s0h)
            case hS0h => ((try dsimp only); (first | exact HSS.out _ V9.out B9.out | exact HSS.out _ V8.out.drew B8.out.drew | go_keep))
            refine wpAnyH_take (i := 0) (v := ?v0h) (by simp only [List.getElem?_toArray, List.getElem?_cons_zero]; rfl) (by kernel_rfl) (by kernel_rfl) (by kernel_rfl) (by exact fun _ _ _ h => h) (Or.inl ⟨by rfl, ?hy0h⟩) (by assumption) ?r0h
            case hy0h => ((intro w hSw; (try dsimp only at hSw); go_simp); (try with_reducible rfl))
            (try simp only [Act.put, List.setIfInBounds_toArray, List.set_cons_zero, List.set_cons_succ])
            refine wpAnyH_take (i := 1) (v := ?v1h) (by simp only [List.getElem?_toArray, List.getElem?_cons_succ, List.getElem?_cons_zero]; rfl) (by kernel_rfl) (by kernel_rfl) (by kernel_rfl) (by exact fun _ _ _ h => h) (Or.inl ⟨by rfl, ?hy1h⟩) (by assumption) ?r1h
            case hy1h => ((intro w hSw; (try dsimp only at hSw); go_simp); (try with_reducible rfl))
            (try simp only [Act.put, List.setIfInBounds_toArray, List.set_cons_zero, List.set_cons_succ])
            refine wpAnyH_take (i := 2) (v := ?v2h) (by simp only [List.getElem?_toArray, List.getElem?_cons_succ, List.getElem?_cons_zero]; rfl) (by kernel_rfl) (by kernel_rfl) (by kernel_rfl) (by exact fun _ _ _ h => h) (Or.inl ⟨by rfl, ?hy2h⟩) (by assumption) ?r2h
            case hy2h => ((intro w hSw; (try dsimp only at hSw); go_simp); (try with_reducible rfl))
            (try simp only [Act.put, List.setIfInBounds_toArray, List.set_cons_zero, List.set_cons_succ])
            refine wpAnyH_take (i := 3) (v := ?v3h) (by simp only [List.getElem?_toArray, List.getElem?_cons_succ, List.getElem?_cons_zero]; rfl) (by kernel_rfl) (by kernel_rfl) (by kernel_rfl) (by exact fun _ _ _ h => h) (Or.inl ⟨by rfl, ?hy3h⟩) (by assumption) ?r3h
            case hy3h => ((intro w hSw; (try dsimp only at hSw); go_simp); (try with_reducible rfl))
            (try simp only [Act.put, List.setIfInBounds_toArray, List.set_cons_zero, List.set_cons_succ])
            refine wpAnyH_take (i := 4) (v := ?v4h) (by simp only [List.getElem?_toArray, List.getElem?_cons_succ, List.getElem?_cons_zero]; rfl) (by kernel_rfl) (by kernel_rfl) (by kernel_rfl) (by exact fun _ _ _ h => h) (Or.inl ⟨by rfl, ?hy4h⟩) (by assumption) ?r4h
            case hy4h => ((intro w hSw; (try dsimp only at hSw); go_simp); (try with_reducible rfl))
            (try simp only [Act.put, List.setIfInBounds_toArray, List.set_cons_zero, List.set_cons_succ])
            refine wpAnyH_take (i := 5) (v := ?v5h) (by simp only [List.getElem?_toArray, List.getElem?_cons_succ, List.getElem?_cons_zero]; rfl) (by kernel_rfl) (by kernel_rfl) (by kernel_rfl) (by exact fun _ _ _ h => h) (Or.inl ⟨by rfl, ?hy5h⟩) (by assumption) ?r5h
            case hy5h => ((intro w hSw; (try dsimp only at hSw); go_simp); (try with_reducible rfl))
            (try simp only [Act.put, List.setIfInBounds_toArray, List.set_cons_zero, List.set_cons_succ])
            refine wpAnyH_take (i := 6) (v := ?v6h) (by simp only [List.getElem?_toArray, List.getElem?_cons_succ, List.getElem?_cons_zero]; rfl) (by kernel_rfl) (by kernel_rfl) (by kernel_rfl) (by exact fun _ _ _ h => h) (Or.inl ⟨by rfl, ?hy6h⟩) (by assumption) ?r6h
            case hy6h => ((intro w hSw; (try dsimp only at hSw); go_simp); (try with_reducible rfl))
            (try simp only [Act.put, List.setIfInBounds_toArray, List.set_cons_zero, List.set_cons_succ])
            refine wpAnyH_take (i := 7) (v := ?v7h) (by simp only [List.getElem?_toArray, List.getElem?_cons_succ, List.getElem?_cons_zero]; rfl) (by kernel_rfl) (by kernel_rfl) (by kernel_rfl) (by exact fun _ _ _ h => h) (Or.inl ⟨by rfl, ?hy7h⟩) (by assumption) ?r7h
            case hy7h => ((intro w hSw; (try dsimp only at hSw); go_simp); (try with_reducible rfl))
            (try simp only [Act.put, List.setIfInBounds_toArray, List.set_cons_zero, List.set_cons_succ])
            refine wpAnyH_take (i := 8) (v := ?v8h) (by simp only [List.getElem?_toArray, List.getElem?_cons_succ, List.getElem?_cons_zero]; rfl) (by kernel_rfl) (by kernel_rfl) (by kernel_rfl) (by exact fun _ _ _ h => h) (Or.inl ⟨by rfl, ?hy8h⟩) (by assumption) ?r8h
            case hy8h => ((intro w hSw; (try dsimp only at hSw); go_simp); (try with_reducible rfl))
            (try simp only [Act.put, List.setIfInBounds_toArray, List.set_cons_zero, List.set_cons_succ])
            refine wpAnyH_take (i := 9) (v := ?v9h) (by simp only [List.getElem?_toArray, List.getElem?_cons_succ, List.getElem?_cons_zero]; rfl) (by kernel_rfl) (by kernel_rfl) (by kernel_rfl) (by exact fun _ _ _ h => h) (Or.inl ⟨by rfl, ?hy9h⟩) (by assumption) ?r9h
            case hy9h => ((intro w hSw; (try dsimp only at hSw); go_simp); (try with_reducible rfl))
            (try simp only [Act.put, List.setIfInBounds_toArray, List.set_cons_zero, List.set_cons_succ])
            refine wpAnyH_take (i := 10) (v := ?v10h) (by simp only [List.getElem?_toArray, List.getElem?_cons_succ, List.getElem?_cons_zero]; rfl) (by kernel_rfl) (by kernel_rfl) (by kernel_rfl) (by exact fun _ _ _ h => h) (Or.inl ⟨by rfl, ?hy10h⟩) (by assumption) ?r10h
            case hy10h => ((intro w hSw; (try dsimp only at hSw); go_simp); (try with_reducible rfl))
            (try simp only [Act.put, List.setIfInBounds_toArray, List.set_cons_zero, List.set_cons_succ])
            refine wpAnyH_take (i := 11) (v := ?v11h) (by simp only [List.getElem?_toArray, List.getElem?_cons_succ, List.getElem?_cons_zero]; rfl) (by kernel_rfl) (by kernel_rfl) (by kernel_rfl) (by exact fun _ _ _ h => h) (Or.inl ⟨by rfl, ?hy11h⟩) (by assumption) ?r11h
            case hy11h => ((intro w hSw; (try dsimp only at hSw); go_simp); (try with_reducible rfl))
            (try simp only [Act.put, List.setIfInBounds_toArray, List.set_cons_zero, List.set_cons_succ])
            refine wpAnyH_take (i := 12) (v := ?v12h) (by simp only [List.getElem?_toArray, List.getElem?_cons_succ, List.getElem?_cons_zero]; rfl) (by kernel_rfl) (by kernel_rfl) (by kernel_rfl) (by exact fun _ _ _ h => h) (Or.inl ⟨by rfl, ?hy12h⟩) (by assumption) ?r12h
            case hy12h => ((intro w hSw; (try dsimp only at hSw); go_simp); (try with_reducible rfl))
            (try simp only [Act.put, List.setIfInBounds_toArray, List.set_cons_zero, List.set_cons_succ])
            refine wpAnyH_take (i := 13) (v := ?v13h) (by simp only [List.getElem?_toArray, List.getElem?_cons_succ, List.getElem?_cons_zero]; rfl) (by kernel_rfl) (by kernel_rfl) (by kernel_rfl) (by exact fun _ _ _ h => h) (Or.inl ⟨by rfl, ?hy13h⟩) (by assumption) ?r13h
            case hy13h => ((intro w hSw; (try dsimp only at hSw); go_simp); (try with_reducible rfl))
            (try simp only [Act.put, List.setIfInBounds_toArray, List.set_cons_zero, List.set_cons_succ])
            refine wpAnyH_take (i := 14) (v := ?v14h) (by simp only [List.getElem?_toArray, List.getElem?_cons_succ, List.getElem?_cons_zero]; rfl) (by kernel_rfl) (by kernel_rfl) (by kernel_rfl) (by exact fun _ _ _ h => h) (Or.inl ⟨by rfl, ?hy14h⟩) (by assumption) ?r14h
            case hy14h => ((intro w hSw; (try dsimp only at hSw); go_simp); (try with_reducible rfl))
            (try simp only [Act.put, List.setIfInBounds_toArray, List.set_cons_zero, List.set_cons_succ])
            refine wpAnyH_take (i := 15) (v := ?v15h) (by simp only [List.getElem?_toArray, List.getElem?_cons_succ, List.getElem?_cons_zero]; rfl) (by kernel_rfl) (by kernel_rfl) (by kernel_rfl) (by exact fun _ _ _ h => h) (Or.inl ⟨by rfl, ?hy15h⟩) (by assumption) ?r15h
            case hy15h => ((intro w hSw; (try dsimp only at hSw); go_simp); (try with_reducible rfl))
            (try simp only [Act.put, List.setIfInBounds_toArray, List.set_cons_zero, List.set_cons_succ])
            refine wpAnyH_take (i := 16) (v := ?v16h) (by simp only [List.getElem?_toArray, List.getElem?_cons_succ, List.getElem?_cons_zero]; rfl) (by kernel_rfl) (by kernel_rfl) (by kernel_rfl) (by exact fun _ _ _ h => h) (Or.inl ⟨by rfl, ?hy16h⟩) (by assumption) ?r16h
            case hy16h => ((intro w hSw; (try dsimp only at hSw); go_simp); (try with_reducible rfl))
            (try simp only [Act.put, List.setIfInBounds_toArray, List.set_cons_zero, List.set_cons_succ])
            refine wpAnyH_take (i := 17) (v := ?v17h) (by simp only [List.getElem?_toArray, List.getElem?_cons_succ, List.getElem?_cons_zero]; rfl) (by kernel_rfl) (by kernel_rfl) (by kernel_rfl) (by exact fun _ _ _ h => h) (Or.inl ⟨by rfl, ?hy17h⟩) (by assumption) ?r17h
            case hy17h => ((intro w hSw; (try dsimp only at hSw); go_simp); (try with_reducible rfl))
            (try simp only [Act.put, List.setIfInBounds_toArray, List.set_cons_zero, List.set_cons_succ])
            refine wpAnyH_take (i := 18) (v := ?v18h) (by simp only [List.getElem?_toArray, List.getElem?_cons_succ, List.getElem?_cons_zero]; rfl) (by kernel_rfl) (by kernel_rfl) (by kernel_rfl) (by exact fun _ _ _ h => h) (Or.inl ⟨by rfl, ?hy18h⟩) (by assumption) ?r18h
            case hy18h => ((intro w hSw; (try dsimp only at hSw); go_simp); (try with_reducible rfl))
            (try simp only [Act.put, List.setIfInBounds_toArray, List.set_cons_zero, List.set_cons_succ])
            refine wpAnyH_take (i := 19) (v := ?v19h) (by simp only [List.getElem?_toArray, List.getElem?_cons_succ, List.getElem?_cons_zero]; rfl) (by kernel_rfl) (by kernel_rfl) (by kernel_rfl) (by exact fun _ _ _ h => h) (Or.inl ⟨by rfl, ?hy19h⟩) (by assumption) ?r19h
            case hy19h => ((intro w hSw; (try dsimp only at hSw); go_simp); (try with_reducible rfl))
            (try simp only [Act.put, List.setIfInBounds_toArray, List.set_cons_zero, List.set_cons_succ])
            refine wpAnyH_take (i := 20) (v := ?v20h) (by simp only [List.getElem?_toArray, List.getElem?_cons_succ, List.getElem?_cons_zero]; rfl) (by kernel_rfl) (by kernel_rfl) (by kernel_rfl) (by exact fun _ _ _ h => h) (Or.inl ⟨by rfl, ?hy20h⟩) (by assumption) ?r20h
            case hy20h => ((intro w hSw; (try dsimp only at hSw); go_simp); (try with_reducible rfl))
            (try simp only [Act.put, List.setIfInBounds_toArray, List.set_cons_zero, List.set_cons_succ])
            refine wpAnyH_ready (rs := [21]) (by kernel_rfl) (by simp) ?_
            refine AllReadyH.cons (by simp only [List.getElem?_toArray, List.getElem?_cons_succ, List.getElem?_cons_zero]; rfl) (fun K hK => ?_) AllReadyH.nil
            ((go_simp; go_at_call 16; refine (CR.out _).mono ?_; rintro e w6 ⟨rfl, b6⟩; have V9 := Lib.hid (Vb.below V8.out.drew b6); have B9 := Lib.hid (bt' B8.out.drew b6); clear b6))
            refine hK.out _ _ ?hS21h (fun hHeld => ?s21h)
            case hS21h => ((try dsimp only); (first | exact HSS.out _ V9.out B9.out | exact HSS.out _ V8.out.drew B8.out.drew | go_keep))
            clear hK K
            (try simp only [Act.put, List.setIfInBounds_toArray, List.set_cons_zero, List.set_cons_succ])
            refine wpAnyH_take (i := 22) (v := ?v22h) (by simp only [List.getElem?_toArray, List.getElem?_cons_succ, List.getElem?_cons_zero]; rfl) (by kernel_rfl) (by kernel_rfl) (by kernel_rfl) (by exact fun _ _ _ h => h) (Or.inl ⟨by rfl, ?hy22h⟩) (by assumption) ?r22h
            case hy22h => ((intro w hSw; (try dsimp only at hSw); go_simp); (try with_reducible rfl))
            (try simp only [Act.put, List.setIfInBounds_toArray, List.set_cons_zero, List.set_cons_succ])
            refine wpAnyH_take (i := 23) (v := ?v23h) (by simp only [List.getElem?_toArray, List.getElem?_cons_succ, List.getElem?_cons_zero]; rfl) (by kernel_rfl) (by kernel_rfl) (by kernel_rfl) (by exact fun _ _ _ h => h) (Or.inl ⟨by rfl, ?hy23h⟩) (by assumption) ?r23h
            case hy23h => ((intro w hSw; (try dsimp only at hSw); go_simp); (try with_reducible rfl))
            (try simp only [Act.put, List.setIfInBounds_toArray, List.set_cons_zero, List.set_cons_succ])
            refine wpAnyH_take (i := 24) (v := ?v24h) (by simp only [List.getElem?_toArray, List.getElem?_cons_succ, List.getElem?_cons_zero]; rfl) (by kernel_rfl) (by kernel_rfl) (by kernel_rfl) (by exact fun _ _ _ h => h) (Or.inl ⟨by rfl, ?hy24h⟩) (by assumption) ?r24h
            case hy24h => ((intro w hSw; (try dsimp only at hSw); go_simp); (try with_reducible rfl))
            (try simp only [Act.put, List.setIfInBounds_toArray, List.set_cons_zero, List.set_cons_succ])
            refine wpAnyH_take (i := 25) (v := ?v25h) (by simp only [List.getElem?_toArray, List.getElem?_cons_succ, List.getElem?_cons_zero]; rfl) (by kernel_rfl) (by kernel_rfl) (by kernel_rfl) (by exact fun _ _ _ h => h) (Or.inl ⟨by rfl, ?hy25h⟩) (by assumption) ?r25h
            case hy25h => ((intro w hSw; (try dsimp only at hSw); go_simp); (try with_reducible rfl))
            (try simp only [Act.put, List.setIfInBounds_toArray, List.set_cons_zero, List.set_cons_succ])
            refine wpAnyH_take (i := 26) (v := ?v26h) (by simp only [List.getElem?_toArray, List.getElem?_cons_succ, List.getElem?_cons_zero]; rfl) (by kernel_rfl) (by kernel_rfl) (by kernel_rfl) (by exact fun _ _ _ h => h) (Or.inl ⟨by rfl, ?hy26h⟩) (by assumption) ?r26h
            case hy26h => ((intro w hSw; (try dsimp only at hSw); go_simp); (try with_reducible rfl))
            (try simp only [Act.put, List.setIfInBounds_toArray, List.set_cons_zero, List.set_cons_succ])
            refine wpAnyH_take (i := 27) (v := ?v27h) (by simp only [List.getElem?_toArray, List.getElem?_cons_succ, List.getElem?_cons_zero]; rfl) (by kernel_rfl) (by kernel_rfl) (by kernel_rfl) (by exact fun _ _ _ h => h) (Or.inl ⟨by rfl, ?hy27h⟩) (by assumption) ?r27h
            case hy27h => ((intro w hSw; (try dsimp only at hSw); go_simp); (try with_reducible rfl))
            (try simp only [Act.put, List.setIfInBounds_toArray, List.set_cons_zero, List.set_cons_succ])
            refine wpAnyH_take (i := 28) (v := ?v28h) (by simp only [List.getElem?_toArray, List.getElem?_cons_succ, List.getElem?_cons_zero]; rfl) (by kernel_rfl) (by kernel_rfl) (by kernel_rfl) (by exact fun _ _ _ h => h) (Or.inl ⟨by rfl, ?hy28h⟩) (by assumption) ?r28h
            case hy28h => ((intro w hSw; (try dsimp only at hSw); go_simp); (try with_reducible rfl))
            (try simp only [Act.put, List.setIfInBounds_toArray, List.set_cons_zero, List.set_cons_succ])
            refine wpAnyH_take (i := 29) (v := ?v29h) (by simp only [List.getElem?_toArray, List.getElem?_cons_succ, List.getElem?_cons_zero]; rfl) (by kernel_rfl) (by kernel_rfl) (by kernel_rfl) (by exact fun _ _ _ h => h) (Or.inl ⟨by rfl, ?hy29h⟩) (by assumption) ?r29h
            case hy29h => ((intro w hSw; (try dsimp only at hSw); go_simp); (try with_reducible rfl))
            (try simp only [Act.put, List.setIfInBounds_toArray, List.set_cons_zero, List.set_cons_succ])
            refine wpAnyH_take (i := 30) (v := ?v30h) (by simp only [List.getElem?_toArray, List.getElem?_cons_succ, List.getElem?_cons_zero]; rfl) (by kernel_rfl) (by kernel_rfl) (by kernel_rfl) (by exact fun _ _ _ h => h) (Or.inl ⟨by rfl, ?hy30h⟩) (by assumption) ?r30h
            case hy30h => ((intro w hSw; (try dsimp only at hSw); go_simp); (try with_reducible rfl))
            (try simp only [Act.put, List.setIfInBounds_toArray, List.set_cons_zero, List.set_cons_succ])
            refine wpAnyH_take (i := 31) (v := ?v31h) (by simp only [List.getElem?_toArray, List.getElem?_cons_succ, List.getElem?_cons_zero]; rfl) (by kernel_rfl) (by kernel_rfl) (by kernel_rfl) (by exact fun _ _ _ h => h) (Or.inl ⟨by rfl, ?hy31h⟩) (by assumption) ?r31h
            case hy31h => ((intro w hSw; (try dsimp only at hSw); go_simp); (try with_reducible rfl))
            (try simp only [Act.put, List.setIfInBounds_toArray, List.set_cons_zero, List.set_cons_succ])
            refine wpAnyH_take (i := 32) (v := ?v32h) (by simp only [List.getElem?_toArray, List.getElem?_cons_succ, List.getElem?_cons_zero]; rfl) (by kernel_rfl) (by kernel_rfl) (by kernel_rfl) (by exact fun _ _ _ h => h) (Or.inl ⟨by rfl, ?hy32h⟩) (by assumption) ?r32h
            case hy32h => ((intro w hSw; (try dsimp only at hSw); go_simp); (try with_reducible rfl))
            (try simp only [Act.put, List.setIfInBounds_toArray, List.set_cons_zero, List.set_cons_succ])
            refine wpAnyH_take (i := 33) (v := ?v33h) (by simp only [List.getElem?_toArray, List.getElem?_cons_succ, List.getElem?_cons_zero]; rfl) (by kernel_rfl) (by kernel_rfl) (by kernel_rfl) (by exact fun _ _ _ h => h) (Or.inl ⟨by rfl, ?hy33h⟩) (by assumption) ?r33h
            case hy33h => ((intro w hSw; (try dsimp only at hSw); go_simp); (try with_reducible rfl))
            (try simp only [Act.put, List.setIfInBounds_toArray, List.set_cons_zero, List.set_cons_succ])
            refine wpAnyH_take (i := 34) (v := ?v34h) (by simp only [List.getElem?_toArray, List.getElem?_cons_succ, List.getElem?_cons_zero]; rfl) (by kernel_rfl) (by kernel_rfl) (by kernel_rfl) (by exact fun _ _ _ h => h) (Or.inl ⟨by rfl, ?hy34h⟩) (by assumption) ?r34h
            case hy34h => ((intro w hSw; (try dsimp only at hSw); go_simp); (try with_reducible rfl))
            (try simp only [Act.put, List.setIfInBounds_toArray, List.set_cons_zero, List.set_cons_succ])
            refine wpAnyH_take (i := 35) (v := ?v35h) (by simp only [List.getElem?_toArray, List.getElem?_cons_succ, List.getElem?_cons_zero]; rfl) (by kernel_rfl) (by kernel_rfl) (by kernel_rfl) (by exact fun _ _ _ h => h) (Or.inl ⟨by rfl, ?hy35h⟩) (by assumption) ?r35h
            case hy35h => ((intro w hSw; (try dsimp only at hSw); go_simp); (try with_reducible rfl))
            (try simp only [Act.put, List.setIfInBounds_toArray, List.set_cons_zero, List.set_cons_succ])
            refine wpAnyH_take (i := 36) (v := ?v36h) (by simp only [List.getElem?_toArray, List.getElem?_cons_succ, List.getElem?_cons_zero]; rfl) (by kernel_rfl) (by kernel_rfl) (by kernel_rfl) (by exact fun _ _ _ h => h) (Or.inl ⟨by rfl, ?hy36h⟩) (by assumption) ?r36h
            case hy36h => ((intro w hSw; (try dsimp only at hSw); go_simp); (try with_reducible rfl))
            (try simp only [Act.put, List.setIfInBounds_toArray, List.set_cons_zero, List.set_cons_succ])
            refine wpAnyH_done (by kernel_rfl) ?_ _
            all_goals
              go_wp2
              go_roundw
              case rel => exact ⟨k + 1, ⟨tp, tb, ts⟩, by omega, by omega, by go_num, E67.out.2, E67.out.1, fun p hp => V9.out p (by rw [List.mem_singleton.1 hp]; simp), B9.out⟩
              case measure => simp [intOf]; omega
          · obtain ⟨⟨tp, tb, ts⟩, te⟩ := r
            dsimp only at e1 k0 k1 k2 HV ⊢
            obtain rfl | rfl := e1
            · have CR := Lib.hid (fun w => hvr ▸ right_any v w hvo)
              have l3 : ¬ v.p < v.b := by have := ((rightB_iff v).1 hvr).1; omega
              have V0 := Lib.hid (show Vb wc [(g0, v), (wr.heap.size, v)] from fun p hp => by
                  simp only [List.mem_cons, List.not_mem_nil, or_false] at hp
                  rcases hp with rfl | rfl
                  · exact HV.out (g0, v) (by simp)
                  · exact HV.out (wr.heap.size, v) (by simp))
              obtain ⟨m0, m1, m2', z4⟩ := HV.out.cells (g := wr.heap.size) (x := v) (by simp)
              obtain ⟨i0, i1, i2, g3, g4, g5, z5⟩ := cells3 (HV.out (g0, v) (by simp))
              go_upto_region 12 with fail
              have HSS := Lib.hid (fun (X : World) (h : Vb X [(g0, v), (wr.heap.size, v)]) (hb : Below w.heap.size w X) => And.intro h.two (HC0.out X hb).1)
              refine wp_region_held_drew (S := (fun w' => (w'.cell? ⟨g0, 0, none⟩ = some (.int .u64 (v.p : Int)) ∧ w'.cell? ⟨g0, 1, none⟩ = some (.int .u64 (v.b : Int)) ∧ w'.cell? ⟨g0, 2, none⟩ = some (.string v.s) ∧ w'.cell? ⟨wr.heap.size, 0, none⟩ = some (.int .u64 (v.p : Int)) ∧ w'.cell? ⟨wr.heap.size, 1, none⟩ = some (.int .u64 (v.b : Int))) ∧ w'.cell? (a.add k) = some (.int .u64 (x : Int)))) (by kernel_rfl) ?hS0i (fun hHeld => ?s0i)
              case hS0i => ((try dsimp only); (first | exact HSS.out _ V9.out B9.out | exact HSS.out _ V0.out.drew HBl.out.drew | go_keep))
              refine wpAnyH_take (i := 0) (v := ?v0i) (by simp only [List.getElem?_toArray, List.getElem?_cons_zero]; rfl) (by kernel_rfl) (by kernel_rfl) (by kernel_rfl) (by exact fun _ _ _ h => h) (Or.inl ⟨by rfl, ?hy0i⟩) (by assumption) ?r0i
              case hy0i => ((intro w hSw; (try dsimp only at hSw); go_simp); (try with_reducible rfl))
              (try simp only [Act.put, List.setIfInBounds_toArray, List.set_cons_zero, List.set_cons_succ])
              refine wpAnyH_take (i := 1) (v := ?v1i) (by simp only [List.getElem?_toArray, List.getElem?_cons_succ, List.getElem?_cons_zero]; rfl) (by kernel_rfl) (by kernel_rfl) (by kernel_rfl) (by exact fun _ _ _ h => h) (Or.inl ⟨by rfl, ?hy1i⟩) (by assumption) ?r1i
              case hy1i => ((intro w hSw; (try dsimp only at hSw); go_simp); (try with_reducible rfl))
              (try simp only [Act.put, List.setIfInBounds_toArray, List.set_cons_zero, List.set_cons_succ])
              refine wpAnyH_take (i := 2) (v := ?v2i) (by simp only [List.getElem?_toArray, List.getElem?_cons_succ, List.getElem?_cons_zero]; rfl) (by kernel_rfl) (by kernel_rfl) (by kernel_rfl) (by exact fun _ _ _ h => h) (Or.inl ⟨by rfl, ?hy2i⟩) (by assumption) ?r2i
              case hy2i => ((intro w hSw; (try dsimp only at hSw); go_simp); (try with_reducible rfl))
              (try simp only [Act.put, List.setIfInBounds_toArray, List.set_cons_zero, List.set_cons_succ])
              refine wpAnyH_take (i := 3) (v := ?v3i) (by simp only [List.getElem?_toArray, List.getElem?_cons_succ, List.getElem?_cons_zero]; rfl) (by kernel_rfl) (by kernel_rfl) (by kernel_rfl) (by exact fun _ _ _ h => h) (Or.inl ⟨by rfl, ?hy3i⟩) (by assumption) ?r3i
              case hy3i => ((intro w hSw; (try dsimp only at hSw); go_simp); (try with_reducible rfl))
              (try simp only [Act.put, List.setIfInBounds_toArray, List.set_cons_zero, List.set_cons_succ])
              refine wpAnyH_take (i := 4) (v := ?v4i) (by simp only [List.getElem?_toArray, List.getElem?_cons_succ, List.getElem?_cons_zero]; rfl) (by kernel_rfl) (by kernel_rfl) (by kernel_rfl) (by exact fun _ _ _ h => h) (Or.inl ⟨by rfl, ?hy4i⟩) (by assumption) ?r4i
              case hy4i => ((intro w hSw; (try dsimp only at hSw); go_simp); (try with_reducible rfl))
              (try simp only [Act.put, List.setIfInBounds_toArray, List.set_cons_zero, List.set_cons_succ])
              refine wpAnyH_take (i := 5) (v := ?v5i) (by simp only [List.getElem?_toArray, List.getElem?_cons_succ, List.getElem?_cons_zero]; rfl) (by kernel_rfl) (by kernel_rfl) (by kernel_rfl) (by exact fun _ _ _ h => h) (Or.inl ⟨by rfl, ?hy5i⟩) (by assumption) ?r5i
              case hy5i => ((intro w hSw; (try dsimp only at hSw); go_simp); (try with_reducible rfl))
              (try simp only [Act.put, List.setIfInBounds_toArray, List.set_cons_zero, List.set_cons_succ])
              refine wpAnyH_take (i := 6) (v := ?v6i) (by simp only [List.getElem?_toArray, List.getElem?_cons_succ, List.getElem?_cons_zero]; rfl) (by kernel_rfl) (by kernel_rfl) (by kernel_rfl) (by exact fun _ _ _ h => h) (Or.inl ⟨by rfl, ?hy6i⟩) (by assumption) ?r6i
              case hy6i => ((intro w hSw; (try dsimp only at hSw); go_simp); (try with_reducible rfl))
              (try simp only [Act.put, List.setIfInBounds_toArray, List.set_cons_zero, List.set_cons_succ])
              refine wpAnyH_take (i := 7) (v := ?v7i) (by simp only [List.getElem?_toArray, List.getElem?_cons_succ, List.getElem?_cons_zero]; rfl) (by kernel_rfl) (by kernel_rfl) (by kernel_rfl) (by exact fun _ _ _ h => h) (Or.inl ⟨by rfl, ?hy7i⟩) (by assumption) ?r7i
              case hy7i => ((intro w hSw; (try dsimp only at hSw); go_simp); (try with_reducible rfl))
              (try simp only [Act.put, List.setIfInBounds_toArray, List.set_cons_zero, List.set_cons_succ])
              refine wpAnyH_take (i := 8) (v := ?v8i) (by simp only [List.getElem?_toArray, List.getElem?_cons_succ, List.getElem?_cons_zero]; rfl) (by kernel_rfl) (by kernel_rfl) (by kernel_rfl) (by exact fun _ _ _ h => h) (Or.inl ⟨by rfl, ?hy8i⟩) (by assumption) ?r8i
              case hy8i => ((intro w hSw; (try dsimp only at hSw); go_simp); (try with_reducible rfl))
              (try simp only [Act.put, List.setIfInBounds_toArray, List.set_cons_zero, List.set_cons_succ])
              refine wpAnyH_take (i := 9) (v := ?v9i) (by simp only [List.getElem?_toArray, List.getElem?_cons_succ, List.getElem?_cons_zero]; rfl) (by kernel_rfl) (by kernel_rfl) (by kernel_rfl) (by exact fun _ _ _ h => h) (Or.inl ⟨by rfl, ?hy9i⟩) (by assumption) ?r9i
              case hy9i => ((intro w hSw; (try dsimp only at hSw); go_simp); (try with_reducible rfl))
              (try simp only [Act.put, List.setIfInBounds_toArray, List.set_cons_zero, List.set_cons_succ])
              refine wpAnyH_take (i := 10) (v := ?v10i) (by simp only [List.getElem?_toArray, List.getElem?_cons_succ, List.getElem?_cons_zero]; rfl) (by kernel_rfl) (by kernel_rfl) (by kernel_rfl) (by exact fun _ _ _ h => h) (Or.inl ⟨by rfl, ?hy10i⟩) (by assumption) ?r10i
              case hy10i => ((intro w hSw; (try dsimp only at hSw); go_simp); (try with_reducible rfl))
              (try simp only [Act.put, List.setIfInBounds_toArray, List.set_cons_zero, List.set_cons_succ])
              refine wpAnyH_take (i := 11) (v := ?v11i) (by simp only [List.getElem?_toArray, List.getElem?_cons_succ, List.getElem?_cons_zero]; rfl) (by kernel_rfl) (by kernel_rfl) (by kernel_rfl) (by exact fun _ _ _ h => h) (Or.inl ⟨by rfl, ?hy11i⟩) (by assumption) ?r11i
              case hy11i => ((intro w hSw; (try dsimp only at hSw); go_simp); (try with_reducible rfl))
              (try simp only [Act.put, List.setIfInBounds_toArray, List.set_cons_zero, List.set_cons_succ])
              refine wpAnyH_take (i := 12) (v := ?v12i) (by simp only [List.getElem?_toArray, List.getElem?_cons_succ, List.getElem?_cons_zero]; rfl) (by kernel_rfl) (by kernel_rfl) (by kernel_rfl) (by exact fun _ _ _ h => h) (Or.inl ⟨by rfl, ?hy12i⟩) (by assumption) ?r12i
              case hy12i => ((intro w hSw; (try dsimp only at hSw); go_simp); (try with_reducible rfl))
              (try simp only [Act.put, List.setIfInBounds_toArray, List.set_cons_zero, List.set_cons_succ])
              refine wpAnyH_take (i := 13) (v := ?v13i) (by simp only [List.getElem?_toArray, List.getElem?_cons_succ, List.getElem?_cons_zero]; rfl) (by kernel_rfl) (by kernel_rfl) (by kernel_rfl) (by exact fun _ _ _ h => h) (Or.inl ⟨by rfl, ?hy13i⟩) (by assumption) ?r13i
              case hy13i => ((intro w hSw; (try dsimp only at hSw); go_simp); (try with_reducible rfl))
              (try simp only [Act.put, List.setIfInBounds_toArray, List.set_cons_zero, List.set_cons_succ])
              refine wpAnyH_take (i := 14) (v := ?v14i) (by simp only [List.getElem?_toArray, List.getElem?_cons_succ, List.getElem?_cons_zero]; rfl) (by kernel_rfl) (by kernel_rfl) (by kernel_rfl) (by exact fun _ _ _ h => h) (Or.inl ⟨by rfl, ?hy14i⟩) (by assumption) ?r14i
              case hy14i => ((intro w hSw; (try dsimp only at hSw); go_simp); (try with_reducible rfl))
              (try simp only [Act.put, List.setIfInBounds_toArray, List.set_cons_zero, List.set_cons_succ])
              refine wpAnyH_take (i := 15) (v := ?v15i) (by simp only [List.getElem?_toArray, List.getElem?_cons_succ, List.getElem?_cons_zero]; rfl) (by kernel_rfl) (by kernel_rfl) (by kernel_rfl) (by exact fun _ _ _ h => h) (Or.inl ⟨by rfl, ?hy15i⟩) (by assumption) ?r15i
              case hy15i => ((intro w hSw; (try dsimp only at hSw); go_simp); (try with_reducible rfl))
              (try simp only [Act.put, List.setIfInBounds_toArray, List.set_cons_zero, List.set_cons_succ])
              refine wpAnyH_take (i := 16) (v := ?v16i) (by simp only [List.getElem?_toArray, List.getElem?_cons_succ, List.getElem?_cons_zero]; rfl) (by kernel_rfl) (by kernel_rfl) (by kernel_rfl) (by exact fun _ _ _ h => h) (Or.inl ⟨by rfl, ?hy16i⟩) (by assumption) ?r16i
              case hy16i => ((intro w hSw; (try dsimp only at hSw); go_simp); (try with_reducible rfl))
              (try simp only [Act.put, List.setIfInBounds_toArray, List.set_cons_zero, List.set_cons_succ])
              refine wpAnyH_take (i := 17) (v := ?v17i) (by simp only [List.getElem?_toArray, List.getElem?_cons_succ, List.getElem?_cons_zero]; rfl) (by kernel_rfl) (by kernel_rfl) (by kernel_rfl) (by exact fun _ _ _ h => h) (Or.inl ⟨by rfl, ?hy17i⟩) (by assumption) ?r17i
              case hy17i => ((intro w hSw; (try dsimp only at hSw); go_simp); (try with_reducible rfl))
              (try simp only [Act.put, List.setIfInBounds_toArray, List.set_cons_zero, List.set_cons_succ])
              refine wpAnyH_take (i := 18) (v := ?v18i) (by simp only [List.getElem?_toArray, List.getElem?_cons_succ, List.getElem?_cons_zero]; rfl) (by kernel_rfl) (by kernel_rfl) (by kernel_rfl) (by exact fun _ _ _ h => h) (Or.inl ⟨by rfl, ?hy18i⟩) (by assumption) ?r18i
              case hy18i => ((intro w hSw; (try dsimp only at hSw); go_simp); (try with_reducible rfl))
              (try simp only [Act.put, List.setIfInBounds_toArray, List.set_cons_zero, List.set_cons_succ])
              refine wpAnyH_take (i := 19) (v := ?v19i) (by simp only [List.getElem?_toArray, List.getElem?_cons_succ, List.getElem?_cons_zero]; rfl) (by kernel_rfl) (by kernel_rfl) (by kernel_rfl) (by exact fun _ _ _ h => h) (Or.inl ⟨by rfl, ?hy19i⟩) (by assumption) ?r19i
              case hy19i => ((intro w hSw; (try dsimp only at hSw); go_simp); (try with_reducible rfl))
              (try simp only [Act.put, List.setIfInBounds_toArray, List.set_cons_zero, List.set_cons_succ])
              refine wpAnyH_take (i := 20) (v := ?v20i) (by simp only [List.getElem?_toArray, List.getElem?_cons_succ, List.getElem?_cons_zero]; rfl) (by kernel_rfl) (by kernel_rfl) (by kernel_rfl) (by exact fun _ _ _ h => h) (Or.inl ⟨by rfl, ?hy20i⟩) (by assumption) ?r20i
              case hy20i => ((intro w hSw; (try dsimp only at hSw); go_simp); (try with_reducible rfl))
              (try simp only [Act.put, List.setIfInBounds_toArray, List.set_cons_zero, List.set_cons_succ])
              refine wpAnyH_ready (rs := [21]) (by kernel_rfl) (by simp) ?_
              refine AllReadyH.cons (by simp only [List.getElem?_toArray, List.getElem?_cons_succ, List.getElem?_cons_zero]; rfl) (fun K hK => ?_) AllReadyH.nil
              ((go_simp; go_at_call 16; refine (CR.out _).mono ?_; rintro e w6 ⟨rfl, b6⟩; have V9 := Lib.hid (Vb.below V0.out.drew b6); have B9 := Lib.hid (bt' HBl.out.drew b6); clear b6))
              refine hK.out _ _ ?hS21i (fun hHeld => ?s21i)
              case hS21i => ((try dsimp only); (first | exact HSS.out _ V9.out B9.out | exact HSS.out _ V0.out.drew HBl.out.drew | go_keep))
              clear hK K
              (try simp only [Act.put, List.setIfInBounds_toArray, List.set_cons_zero, List.set_cons_succ])
              refine wpAnyH_take (i := 22) (v := ?v22i) (by simp only [List.getElem?_toArray, List.getElem?_cons_succ, List.getElem?_cons_zero]; rfl) (by kernel_rfl) (by kernel_rfl) (by kernel_rfl) (by exact fun _ _ _ h => h) (Or.inl ⟨by rfl, ?hy22i⟩) (by assumption) ?r22i
              case hy22i => ((intro w hSw; (try dsimp only at hSw); go_simp); (try with_reducible rfl))
              (try simp only [Act.put, List.setIfInBounds_toArray, List.set_cons_zero, List.set_cons_succ])
              refine wpAnyH_take (i := 23) (v := ?v23i) (by simp only [List.getElem?_toArray, List.getElem?_cons_succ, List.getElem?_cons_zero]; rfl) (by kernel_rfl) (by kernel_rfl) (by kernel_rfl) (by exact fun _ _ _ h => h) (Or.inl ⟨by rfl, ?hy23i⟩) (by assumption) ?r23i
              case hy23i => ((intro w hSw; (try dsimp only at hSw); go_simp); (try with_reducible rfl))
              (try simp only [Act.put, List.setIfInBounds_toArray, List.set_cons_zero, List.set_cons_succ])
              refine wpAnyH_take (i := 24) (v := ?v24i) (by simp only [List.getElem?_toArray, List.getElem?_cons_succ, List.getElem?_cons_zero]; rfl) (by kernel_rfl) (by kernel_rfl) (by kernel_rfl) (by exact fun _ _ _ h => h) (Or.inl ⟨by rfl, ?hy24i⟩) (by assumption) ?r24i
              case hy24i => ((intro w hSw; (try dsimp only at hSw); go_simp); (try with_reducible rfl))
              (try simp only [Act.put, List.setIfInBounds_toArray, List.set_cons_zero, List.set_cons_succ])
              refine wpAnyH_take (i := 25) (v := ?v25i) (by simp only [List.getElem?_toArray, List.getElem?_cons_succ, List.getElem?_cons_zero]; rfl) (by kernel_rfl) (by kernel_rfl) (by kernel_rfl) (by exact fun _ _ _ h => h) (Or.inl ⟨by rfl, ?hy25i⟩) (by assumption) ?r25i
              case hy25i => ((intro w hSw; (try dsimp only at hSw); go_simp); (try with_reducible rfl))
              (try simp only [Act.put, List.setIfInBounds_toArray, List.set_cons_zero, List.set_cons_succ])
              refine wpAnyH_take (i := 26) (v := ?v26i) (by simp only [List.getElem?_toArray, List.getElem?_cons_succ, List.getElem?_cons_zero]; rfl) (by kernel_rfl) (by kernel_rfl) (by kernel_rfl) (by exact fun _ _ _ h => h) (Or.inl ⟨by rfl, ?hy26i⟩) (by assumption) ?r26i
              case hy26i => ((intro w hSw; (try dsimp only at hSw); go_simp); (try with_reducible rfl))
              (try simp only [Act.put, List.setIfInBounds_toArray, List.set_cons_zero, List.set_cons_succ])
              refine wpAnyH_take (i := 27) (v := ?v27i) (by simp only [List.getElem?_toArray, List.getElem?_cons_succ, List.getElem?_cons_zero]; rfl) (by kernel_rfl) (by kernel_rfl) (by kernel_rfl) (by exact fun _ _ _ h => h) (Or.inl ⟨by rfl, ?hy27i⟩) (by assumption) ?r27i
              case hy27i => ((intro w hSw; (try dsimp only at hSw); go_simp); (try with_reducible rfl))
              (try simp only [Act.put, List.setIfInBounds_toArray, List.set_cons_zero, List.set_cons_succ])
              refine wpAnyH_take (i := 28) (v := undef) (by simp only [List.getElem?_toArray, List.getElem?_cons_succ, List.getElem?_cons_zero]; rfl) (by kernel_rfl) (by kernel_rfl) (by kernel_rfl) (by exact fun _ _ _ h => h) (Or.inr ⟨by rfl, rfl⟩) (by assumption) ?r28i
              (try simp only [Act.put, List.setIfInBounds_toArray, List.set_cons_zero, List.set_cons_succ])
              refine wpAnyH_take (i := 29) (v := undef) (by simp only [List.getElem?_toArray, List.getElem?_cons_succ, List.getElem?_cons_zero]; rfl) (by kernel_rfl) (by kernel_rfl) (by kernel_rfl) (by exact fun _ _ _ h => h) (Or.inr ⟨by rfl, rfl⟩) (by assumption) ?r29i
              (try simp only [Act.put, List.setIfInBounds_toArray, List.set_cons_zero, List.set_cons_succ])
              refine wpAnyH_take (i := 30) (v := undef) (by simp only [List.getElem?_toArray, List.getElem?_cons_succ, List.getElem?_cons_zero]; rfl) (by kernel_rfl) (by kernel_rfl) (by kernel_rfl) (by exact fun _ _ _ h => h) (Or.inr ⟨by rfl, rfl⟩) (by assumption) ?r30i
              (try simp only [Act.put, List.setIfInBounds_toArray, List.set_cons_zero, List.set_cons_succ])
              refine wpAnyH_take (i := 31) (v := undef) (by simp only [List.getElem?_toArray, List.getElem?_cons_succ, List.getElem?_cons_zero]; rfl) (by kernel_rfl) (by kernel_rfl) (by kernel_rfl) (by exact fun _ _ _ h => h) (Or.inr ⟨by rfl, rfl⟩) (by assumption) ?r31i
              (try simp only [Act.put, List.setIfInBounds_toArray, List.set_cons_zero, List.set_cons_succ])
              refine wpAnyH_take (i := 32) (v := undef) (by simp only [List.getElem?_toArray, List.getElem?_cons_succ, List.getElem?_cons_zero]; rfl) (by kernel_rfl) (by kernel_rfl) (by kernel_rfl) (by exact fun _ _ _ h => h) (Or.inr ⟨by rfl, rfl⟩) (by assumption) ?r32i
              (try simp only [Act.put, List.setIfInBounds_toArray, List.set_cons_zero, List.set_cons_succ])
              refine wpAnyH_take (i := 33) (v := undef) (by simp only [List.getElem?_toArray, List.getElem?_cons_succ, List.getElem?_cons_zero]; rfl) (by kernel_rfl) (by kernel_rfl) (by kernel_rfl) (by exact fun _ _ _ h => h) (Or.inr ⟨by rfl, rfl⟩) (by assumption) ?r33i
              (try simp only [Act.put, List.setIfInBounds_toArray, List.set_cons_zero, List.set_cons_succ])
              refine wpAnyH_take (i := 34) (v := undef) (by simp only [List.getElem?_toArray, List.getElem?_cons_succ, List.getElem?_cons_zero]; rfl) (by kernel_rfl) (by kernel_rfl) (by kernel_rfl) (by exact fun _ _ _ h => h) (Or.inr ⟨by rfl, rfl⟩) (by assumption) ?r34i
              (try simp only [Act.put, List.setIfInBounds_toArray, List.set_cons_zero, List.set_cons_succ])
              refine wpAnyH_take (i := 35) (v := ?v35i) (by simp only [List.getElem?_toArray, List.getElem?_cons_succ, List.getElem?_cons_zero]; rfl) (by kernel_rfl) (by kernel_rfl) (by kernel_rfl) (by exact fun _ _ _ h => h) (Or.inl ⟨by rfl, ?hy35i⟩) (by assumption) ?r35i
              case hy35i => ((intro w hSw; (try dsimp only at hSw); go_simp); (try with_reducible rfl))
              (try simp only [Act.put, List.setIfInBounds_toArray, List.set_cons_zero, List.set_cons_succ])
              refine wpAnyH_take (i := 36) (v := ?v36i) (by simp only [List.getElem?_toArray, List.getElem?_cons_succ, List.getElem?_cons_zero]; rfl) (by kernel_rfl) (by kernel_rfl) (by kernel_rfl) (by exact fun _ _ _ h => h) (Or.inl ⟨by rfl, ?hy36i⟩) (by assumption) ?r36i
              case hy36i => ((intro w hSw; (try dsimp only at hSw); go_simp); (try with_reducible rfl))
              (try simp only [Act.put, List.setIfInBounds_toArray, List.set_cons_zero, List.set_cons_succ])
              refine wpAnyH_done (by kernel_rfl) ?_ _
              all_goals
                go_wp2
                go_roundw
                case rel => exact ⟨k + 1, v, by omega, by omega, by go_num, hvo, hvr, fun p hp => V9.out p (by rw [List.mem_singleton.1 hp]; simp), B9.out⟩
                case measure => simp [intOf]; omega
            · have CR := Lib.hid (fun w => hvr ▸ right_any v w hvo)
              have l3 : ¬ v.p < v.b := by have := ((rightB_iff v).1 hvr).1; omega
              have V0 := Lib.hid (show Vb wc [(g0, v), (wr.heap.size, v)] from fun p hp => by
                  simp only [List.mem_cons, List.not_mem_nil, or_false] at hp
                  rcases hp with rfl | rfl
                  · exact HV.out (g0, v) (by simp)
                  · exact HV.out (wr.heap.size, v) (by simp))
              obtain ⟨m0, m1, m2', z4⟩ := HV.out.cells (g := wr.heap.size) (x := v) (by simp)
              obtain ⟨i0, i1, i2, g3, g4, g5, z5⟩ := cells3 (HV.out (g0, v) (by simp))
              go_upto_region 12 with fail
              have HSS := Lib.hid (fun (X : World) (h : Vb X [(g0, v), (wr.heap.size, v)]) (hb : Below w.heap.size w X) => And.intro h.two (HC0.out X hb).1)
              refine wp_region_held_drew (S := (fun w' => (w'.cell? ⟨g0, 0, none⟩ = some (.int .u64 (v.p : Int)) ∧ w'.cell? ⟨g0, 1, none⟩ = some (.int .u64 (v.b : Int)) ∧ w'.cell? ⟨g0, 2, none⟩ = some (.string v.s) ∧ w'.cell? ⟨wr.heap.size, 0, none⟩ = some (.int .u64 (v.p : Int)) ∧ w'.cell? ⟨wr.heap.size, 1, none⟩ = some (.int .u64 (v.b : Int))) ∧ w'.cell? (a.add k) = some (.int .u64 (x : Int)))) (by kernel_rfl) ?hS0j (fun hHeld => ?s0j)
              case hS0j => ((try dsimp only); (first | exact HSS.out _ V9.out B9.out | exact HSS.out _ V0.out.drew HBl.out.drew | go_keep))
              refine wpAnyH_take (i := 0) (v := ?v0j) (by simp only [List.getElem?_toArray, List.getElem?_cons_zero]; rfl) (by kernel_rfl) (by kernel_rfl) (by kernel_rfl) (by exact fun _ _ _ h => h) (Or.inl ⟨by rfl, ?hy0j⟩) (by assumption) ?r0j
              case hy0j => ((intro w hSw; (try dsimp only at hSw); go_simp); (try with_reducible rfl))
              (try simp only [Act.put, List.setIfInBounds_toArray, List.set_cons_zero, List.set_cons_succ])
              refine wpAnyH_take (i := 1) (v := ?v1j) (by simp only [List.getElem?_toArray, List.getElem?_cons_succ, List.getElem?_cons_zero]; rfl) (by kernel_rfl) (by kernel_rfl) (by kernel_rfl) (by exact fun _ _ _ h => h) (Or.inl ⟨by rfl, ?hy1j⟩) (by assumption) ?r1j
              case hy1j => ((intro w hSw; (try dsimp only at hSw); go_simp); (try with_reducible rfl))
              (try simp only [Act.put, List.setIfInBounds_toArray, List.set_cons_zero, List.set_cons_succ])
              refine wpAnyH_take (i := 2) (v := ?v2j) (by simp only [List.getElem?_toArray, List.getElem?_cons_succ, List.getElem?_cons_zero]; rfl) (by kernel_rfl) (by kernel_rfl) (by kernel_rfl) (by exact fun _ _ _ h => h) (Or.inl ⟨by rfl, ?hy2j⟩) (by assumption) ?r2j
              case hy2j => ((intro w hSw; (try dsimp only at hSw); go_simp); (try with_reducible rfl))
              (try simp only [Act.put, List.setIfInBounds_toArray, List.set_cons_zero, List.set_cons_succ])
              refine wpAnyH_take (i := 3) (v := ?v3j) (by simp only [List.getElem?_toArray, List.getElem?_cons_succ, List.getElem?_cons_zero]; rfl) (by kernel_rfl) (by kernel_rfl) (by kernel_rfl) (by exact fun _ _ _ h => h) (Or.inl ⟨by rfl, ?hy3j⟩) (by assumption) ?r3j
              case hy3j => ((intro w hSw; (try dsimp only at hSw); go_simp); (try with_reducible rfl))
              (try simp only [Act.put, List.setIfInBounds_toArray, List.set_cons_zero, List.set_cons_succ])
              refine wpAnyH_take (i := 4) (v := ?v4j) (by simp only [List.getElem?_toArray, List.getElem?_cons_succ, List.getElem?_cons_zero]; rfl) (by kernel_rfl) (by kernel_rfl) (by kernel_rfl) (by exact fun _ _ _ h => h) (Or.inl ⟨by rfl, ?hy4j⟩) (by assumption) ?r4j
              case hy4j => ((intro w hSw; (try dsimp only at hSw); go_simp); (try with_reducible rfl))
              (try simp only [Act.put, List.setIfInBounds_toArray, List.set_cons_zero, List.set_cons_succ])
              refine wpAnyH_take (i := 5) (v := ?v5j) (by simp only [List.getElem?_toArray, List.getElem?_cons_succ, List.getElem?_cons_zero]; rfl) (by kernel_rfl) (by kernel_rfl) (by kernel_rfl) (by exact fun _ _ _ h => h) (Or.inl ⟨by rfl, ?hy5j⟩) (by assumption) ?r5j
              case hy5j => ((intro w hSw; (try dsimp only at hSw); go_simp); (try with_reducible rfl))
              (try simp only [Act.put, List.setIfInBounds_toArray, List.set_cons_zero, List.set_cons_succ])
              refine wpAnyH_take (i := 6) (v := ?v6j) (by simp only [List.getElem?_toArray, List.getElem?_cons_succ, List.getElem?_cons_zero]; rfl) (by kernel_rfl) (by kernel_rfl) (by kernel_rfl) (by exact fun _ _ _ h => h) (Or.inl ⟨by rfl, ?hy6j⟩) (by assumption) ?r6j
              case hy6j => ((intro w hSw; (try dsimp only at hSw); go_simp); (try with_reducible rfl))
              (try simp only [Act.put, List.setIfInBounds_toArray, List.set_cons_zero, List.set_cons_succ])
              refine wpAnyH_take (i := 7) (v := ?v7j) (by simp only [List.getElem?_toArray, List.getElem?_cons_succ, List.getElem?_cons_zero]; rfl) (by kernel_rfl) (by kernel_rfl) (by kernel_rfl) (by exact fun _ _ _ h => h) (Or.inl ⟨by rfl, ?hy7j⟩) (by assumption) ?r7j
              case hy7j => ((intro w hSw; (try dsimp only at hSw); go_simp); (try with_reducible rfl))
              (try simp only [Act.put, List.setIfInBounds_toArray, List.set_cons_zero, List.set_cons_succ])
              refine wpAnyH_take (i := 8) (v := ?v8j) (by simp only [List.getElem?_toArray, List.getElem?_cons_succ, List.getElem?_cons_zero]; rfl) (by kernel_rfl) (by kernel_rfl) (by kernel_rfl) (by exact fun _ _ _ h => h) (Or.inl ⟨by rfl, ?hy8j⟩) (by assumption) ?r8j
              case hy8j => ((intro w hSw; (try dsimp only at hSw); go_simp); (try with_reducible rfl))
              (try simp only [Act.put, List.setIfInBounds_toArray, List.set_cons_zero, List.set_cons_succ])
              refine wpAnyH_take (i := 9) (v := ?v9j) (by simp only [List.getElem?_toArray, List.getElem?_cons_succ, List.getElem?_cons_zero]; rfl) (by kernel_rfl) (by kernel_rfl) (by kernel_rfl) (by exact fun _ _ _ h => h) (Or.inl ⟨by rfl, ?hy9j⟩) (by assumption) ?r9j
              case hy9j => ((intro w hSw; (try dsimp only at hSw); go_simp); (try with_reducible rfl))
              (try simp only [Act.put, List.setIfInBounds_toArray, List.set_cons_zero, List.set_cons_succ])
              refine wpAnyH_take (i := 10) (v := ?v10j) (by simp only [List.getElem?_toArray, List.getElem?_cons_succ, List.getElem?_cons_zero]; rfl) (by kernel_rfl) (by kernel_rfl) (by kernel_rfl) (by exact fun _ _ _ h => h) (Or.inl ⟨by rfl, ?hy10j⟩) (by assumption) ?r10j
              case hy10j => ((intro w hSw; (try dsimp only at hSw); go_simp); (try with_reducible rfl))
              (try simp only [Act.put, List.setIfInBounds_toArray, List.set_cons_zero, List.set_cons_succ])
              refine wpAnyH_take (i := 11) (v := ?v11j) (by simp only [List.getElem?_toArray, List.getElem?_cons_succ, List.getElem?_cons_zero]; rfl) (by kernel_rfl) (by kernel_rfl) (by kernel_rfl) (by exact fun _ _ _ h => h) (Or.inl ⟨by rfl, ?hy11j⟩) (by assumption) ?r11j
              case hy11j => ((intro w hSw; (try dsimp only at hSw); go_simp); (try with_reducible rfl))
              (try simp only [Act.put, List.setIfInBounds_toArray, List.set_cons_zero, List.set_cons_succ])
              refine wpAnyH_take (i := 12) (v := ?v12j) (by simp only [List.getElem?_toArray, List.getElem?_cons_succ, List.getElem?_cons_zero]; rfl) (by kernel_rfl) (by kernel_rfl) (by kernel_rfl) (by exact fun _ _ _ h => h) (Or.inl ⟨by rfl, ?hy12j⟩) (by assumption) ?r12j
              case hy12j => ((intro w hSw; (try dsimp only at hSw); go_simp); (try with_reducible rfl))
              (try simp only [Act.put, List.setIfInBounds_toArray, List.set_cons_zero, List.set_cons_succ])
              refine wpAnyH_take (i := 13) (v := ?v13j) (by simp only [List.getElem?_toArray, List.getElem?_cons_succ, List.getElem?_cons_zero]; rfl) (by kernel_rfl) (by kernel_rfl) (by kernel_rfl) (by exact fun _ _ _ h => h) (Or.inl ⟨by rfl, ?hy13j⟩) (by assumption) ?r13j
              case hy13j => ((intro w hSw; (try dsimp only at hSw); go_simp); (try with_reducible rfl))
              (try simp only [Act.put, List.setIfInBounds_toArray, List.set_cons_zero, List.set_cons_succ])
              refine wpAnyH_take (i := 14) (v := ?v14j) (by simp only [List.getElem?_toArray, List.getElem?_cons_succ, List.getElem?_cons_zero]; rfl) (by kernel_rfl) (by kernel_rfl) (by kernel_rfl) (by exact fun _ _ _ h => h) (Or.inl ⟨by rfl, ?hy14j⟩) (by assumption) ?r14j
              case hy14j => ((intro w hSw; (try dsimp only at hSw); go_simp); (try with_reducible rfl))
              (try simp only [Act.put, List.setIfInBounds_toArray, List.set_cons_zero, List.set_cons_succ])
              refine wpAnyH_take (i := 15) (v := ?v15j) (by simp only [List.getElem?_toArray, List.getElem?_cons_succ, List.getElem?_cons_zero]; rfl) (by kernel_rfl) (by kernel_rfl) (by kernel_rfl) (by exact fun _ _ _ h => h) (Or.inl ⟨by rfl, ?hy15j⟩) (by assumption) ?r15j
              case hy15j => ((intro w hSw; (try dsimp only at hSw); go_simp); (try with_reducible rfl))
              (try simp only [Act.put, List.setIfInBounds_toArray, List.set_cons_zero, List.set_cons_succ])
              refine wpAnyH_take (i := 16) (v := ?v16j) (by simp only [List.getElem?_toArray, List.getElem?_cons_succ, List.getElem?_cons_zero]; rfl) (by kernel_rfl) (by kernel_rfl) (by kernel_rfl) (by exact fun _ _ _ h => h) (Or.inl ⟨by rfl, ?hy16j⟩) (by assumption) ?r16j
              case hy16j => ((intro w hSw; (try dsimp only at hSw); go_simp); (try with_reducible rfl))
              (try simp only [Act.put, List.setIfInBounds_toArray, List.set_cons_zero, List.set_cons_succ])
              refine wpAnyH_take (i := 17) (v := ?v17j) (by simp only [List.getElem?_toArray, List.getElem?_cons_succ, List.getElem?_cons_zero]; rfl) (by kernel_rfl) (by kernel_rfl) (by kernel_rfl) (by exact fun _ _ _ h => h) (Or.inl ⟨by rfl, ?hy17j⟩) (by assumption) ?r17j
              case hy17j => ((intro w hSw; (try dsimp only at hSw); go_simp); (try with_reducible rfl))
              (try simp only [Act.put, List.setIfInBounds_toArray, List.set_cons_zero, List.set_cons_succ])
              refine wpAnyH_take (i := 18) (v := ?v18j) (by simp only [List.getElem?_toArray, List.getElem?_cons_succ, List.getElem?_cons_zero]; rfl) (by kernel_rfl) (by kernel_rfl) (by kernel_rfl) (by exact fun _ _ _ h => h) (Or.inl ⟨by rfl, ?hy18j⟩) (by assumption) ?r18j
              case hy18j => ((intro w hSw; (try dsimp only at hSw); go_simp); (try with_reducible rfl))
              (try simp only [Act.put, List.setIfInBounds_toArray, List.set_cons_zero, List.set_cons_succ])
              refine wpAnyH_take (i := 19) (v := ?v19j) (by simp only [List.getElem?_toArray, List.getElem?_cons_succ, List.getElem?_cons_zero]; rfl) (by kernel_rfl) (by kernel_rfl) (by kernel_rfl) (by exact fun _ _ _ h => h) (Or.inl ⟨by rfl, ?hy19j⟩) (by assumption) ?r19j
              case hy19j => ((intro w hSw; (try dsimp only at hSw); go_simp); (try with_reducible rfl))
              (try simp only [Act.put, List.setIfInBounds_toArray, List.set_cons_zero, List.set_cons_succ])
              refine wpAnyH_take (i := 20) (v := ?v20j) (by simp only [List.getElem?_toArray, List.getElem?_cons_succ, List.getElem?_cons_zero]; rfl) (by kernel_rfl) (by kernel_rfl) (by kernel_rfl) (by exact fun _ _ _ h => h) (Or.inl ⟨by rfl, ?hy20j⟩) (by assumption) ?r20j
              case hy20j => ((intro w hSw; (try dsimp only at hSw); go_simp); (try with_reducible rfl))
              (try simp only [Act.put, List.setIfInBounds_toArray, List.set_cons_zero, List.set_cons_succ])
              refine wpAnyH_ready (rs := [21]) (by kernel_rfl) (by simp) ?_
              refine AllReadyH.cons (by simp only [List.getElem?_toArray, List.getElem?_cons_succ, List.getElem?_cons_zero]; rfl) (fun K hK => ?_) AllReadyH.nil
              ((go_simp; go_at_call 16; refine (CR.out _).mono ?_; rintro e w6 ⟨rfl, b6⟩; have V9 := Lib.hid (Vb.below V0.out.drew b6); have B9 := Lib.hid (bt' HBl.out.drew b6); clear b6))
              refine hK.out _ _ ?hS21j (fun hHeld => ?s21j)
              case hS21j => ((try dsimp only); (first | exact HSS.out _ V9.out B9.out | exact HSS.out _ V0.out.drew HBl.out.drew | go_keep))
              clear hK K
              (try simp only [Act.put, List.setIfInBounds_toArray, List.set_cons_zero, List.set_cons_succ])
              refine wpAnyH_take (i := 22) (v := ?v22j) (by simp only [List.getElem?_toArray, List.getElem?_cons_succ, List.getElem?_cons_zero]; rfl) (by kernel_rfl) (by kernel_rfl) (by kernel_rfl) (by exact fun _ _ _ h => h) (Or.inl ⟨by rfl, ?hy22j⟩) (by assumption) ?r22j
              case hy22j => ((intro w hSw; (try dsimp only at hSw); go_simp); (try with_reducible rfl))
              (try simp only [Act.put, List.setIfInBounds_toArray, List.set_cons_zero, List.set_cons_succ])
              refine wpAnyH_take (i := 23) (v := ?v23j) (by simp only [List.getElem?_toArray, List.getElem?_cons_succ, List.getElem?_cons_zero]; rfl) (by kernel_rfl) (by kernel_rfl) (by kernel_rfl) (by exact fun _ _ _ h => h) (Or.inl ⟨by rfl, ?hy23j⟩) (by assumption) ?r23j
              case hy23j => ((intro w hSw; (try dsimp only at hSw); go_simp); (try with_reducible rfl))
              (try simp only [Act.put, List.setIfInBounds_toArray, List.set_cons_zero, List.set_cons_succ])
              refine wpAnyH_take (i := 24) (v := ?v24j) (by simp only [List.getElem?_toArray, List.getElem?_cons_succ, List.getElem?_cons_zero]; rfl) (by kernel_rfl) (by kernel_rfl) (by kernel_rfl) (by exact fun _ _ _ h => h) (Or.inl ⟨by rfl, ?hy24j⟩) (by assumption) ?r24j
              case hy24j => ((intro w hSw; (try dsimp only at hSw); go_simp); (try with_reducible rfl))
              (try simp only [Act.put, List.setIfInBounds_toArray, List.set_cons_zero, List.set_cons_succ])
              refine wpAnyH_take (i := 25) (v := ?v25j) (by simp only [List.getElem?_toArray, List.getElem?_cons_succ, List.getElem?_cons_zero]; rfl) (by kernel_rfl) (by kernel_rfl) (by kernel_rfl) (by exact fun _ _ _ h => h) (Or.inl ⟨by rfl, ?hy25j⟩) (by assumption) ?r25j
              case hy25j => ((intro w hSw; (try dsimp only at hSw); go_simp); (try with_reducible rfl))
              (try simp only [Act.put, List.setIfInBounds_toArray, List.set_cons_zero, List.set_cons_succ])
              refine wpAnyH_take (i := 26) (v := ?v26j) (by simp only [List.getElem?_toArray, List.getElem?_cons_succ, List.getElem?_cons_zero]; rfl) (by kernel_rfl) (by kernel_rfl) (by kernel_rfl) (by exact fun _ _ _ h => h) (Or.inl ⟨by rfl, ?hy26j⟩) (by assumption) ?r26j
              case hy26j => ((intro w hSw; (try dsimp only at hSw); go_simp); (try with_reducible rfl))
              (try simp only [Act.put, List.setIfInBounds_toArray, List.set_cons_zero, List.set_cons_succ])
              refine wpAnyH_take (i := 27) (v := ?v27j) (by simp only [List.getElem?_toArray, List.getElem?_cons_succ, List.getElem?_cons_zero]; rfl) (by kernel_rfl) (by kernel_rfl) (by kernel_rfl) (by exact fun _ _ _ h => h) (Or.inl ⟨by rfl, ?hy27j⟩) (by assumption) ?r27j
              case hy27j => ((intro w hSw; (try dsimp only at hSw); go_simp); (try with_reducible rfl))
              (try simp only [Act.put, List.setIfInBounds_toArray, List.set_cons_zero, List.set_cons_succ])
              refine wpAnyH_take (i := 28) (v := undef) (by simp only [List.getElem?_toArray, List.getElem?_cons_succ, List.getElem?_cons_zero]; rfl) (by kernel_rfl) (by kernel_rfl) (by kernel_rfl) (by exact fun _ _ _ h => h) (Or.inr ⟨by rfl, rfl⟩) (by assumption) ?r28j
              (try simp only [Act.put, List.setIfInBounds_toArray, List.set_cons_zero, List.set_cons_succ])
              refine wpAnyH_take (i := 29) (v := undef) (by simp only [List.getElem?_toArray, List.getElem?_cons_succ, List.getElem?_cons_zero]; rfl) (by kernel_rfl) (by kernel_rfl) (by kernel_rfl) (by exact fun _ _ _ h => h) (Or.inr ⟨by rfl, rfl⟩) (by assumption) ?r29j
              (try simp only [Act.put, List.setIfInBounds_toArray, List.set_cons_zero, List.set_cons_succ])
              refine wpAnyH_take (i := 30) (v := undef) (by simp only [List.getElem?_toArray, List.getElem?_cons_succ, List.getElem?_cons_zero]; rfl) (by kernel_rfl) (by kernel_rfl) (by kernel_rfl) (by exact fun _ _ _ h => h) (Or.inr ⟨by rfl, rfl⟩) (by assumption) ?r30j
              (try simp only [Act.put, List.setIfInBounds_toArray, List.set_cons_zero, List.set_cons_succ])
              refine wpAnyH_take (i := 31) (v := undef) (by simp only [List.getElem?_toArray, List.getElem?_cons_succ, List.getElem?_cons_zero]; rfl) (by kernel_rfl) (by kernel_rfl) (by kernel_rfl) (by exact fun _ _ _ h => h) (Or.inr ⟨by rfl, rfl⟩) (by assumption) ?r31j
              (try simp only [Act.put, List.setIfInBounds_toArray, List.set_cons_zero, List.set_cons_succ])
              refine wpAnyH_take (i := 32) (v := undef) (by simp only [List.getElem?_toArray, List.getElem?_cons_succ, List.getElem?_cons_zero]; rfl) (by kernel_rfl) (by kernel_rfl) (by kernel_rfl) (by exact fun _ _ _ h => h) (Or.inr ⟨by rfl, rfl⟩) (by assumption) ?r32j
              (try simp only [Act.put, List.setIfInBounds_toArray, List.set_cons_zero, List.set_cons_succ])
              refine wpAnyH_take (i := 33) (v := undef) (by simp only [List.getElem?_toArray, List.getElem?_cons_succ, List.getElem?_cons_zero]; rfl) (by kernel_rfl) (by kernel_rfl) (by kernel_rfl) (by exact fun _ _ _ h => h) (Or.inr ⟨by rfl, rfl⟩) (by assumption) ?r33j
              (try simp only [Act.put, List.setIfInBounds_toArray, List.set_cons_zero, List.set_cons_succ])
              refine wpAnyH_take (i := 34) (v := undef) (by simp only [List.getElem?_toArray, List.getElem?_cons_succ, List.getElem?_cons_zero]; rfl) (by kernel_rfl) (by kernel_rfl) (by kernel_rfl) (by exact fun _ _ _ h => h) (Or.inr ⟨by rfl, rfl⟩) (by assumption) ?r34j
              (try simp only [Act.put, List.setIfInBounds_toArray, List.set_cons_zero, List.set_cons_succ])
              refine wpAnyH_take (i := 35) (v := ?v35j) (by simp only [List.getElem?_toArray, List.getElem?_cons_succ, List.getElem?_cons_zero]; rfl) (by kernel_rfl) (by kernel_rfl) (by kernel_rfl) (by exact fun _ _ _ h => h) (Or.inl ⟨by rfl, ?hy35j⟩) (by assumption) ?r35j
              case hy35j => ((intro w hSw; (try dsimp only at hSw); go_simp); (try with_reducible rfl))
              (try simp only [Act.put, List.setIfInBounds_toArray, List.set_cons_zero, List.set_cons_succ])
              refine wpAnyH_take (i := 36) (v := ?v36j) (by simp only [List.getElem?_toArray, List.getElem?_cons_succ, List.getElem?_cons_zero]; rfl) (by kernel_rfl) (by kernel_rfl) (by kernel_rfl) (by exact fun _ _ _ h => h) (Or.inl ⟨by rfl, ?hy36j⟩) (by assumption) ?r36j
              case hy36j => ((intro w hSw; (try dsimp only at hSw); go_simp); (try with_reducible rfl))
              (try simp only [Act.put, List.setIfInBounds_toArray, List.set_cons_zero, List.set_cons_succ])
              refine wpAnyH_done (by kernel_rfl) ?_ _
              all_goals
                go_wp2
                go_roundw
                case rel => exact ⟨k + 1, v, by omega, by omega, by go_num, hvo, hvr, fun p hp => V9.out p (by rw [List.mem_singleton.1 hp]; simp), B9.out⟩
                case measure => simp [intOf]; omega
    · have hkm2 : ¬ k < m ∨ ¬ k < 100 := by omega
      have HBl := Lib.hid hB
      clear hB hV hlt
      go_wp2
      all_goals first
        | (exfalso; omega)
        | (go_ret; exact ⟨rfl, HBl.out⟩)
end Go.Proofs.Ytcfaeddjohpohaa
