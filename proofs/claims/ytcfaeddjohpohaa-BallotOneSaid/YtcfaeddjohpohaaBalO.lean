/-
  Votes as arguments; own boxes of votes; BallotVotes, walked. Conditions: none but the arguments' own.
-/
import Derived.Test.YtcfaeddjohpohaaBalL
import Derived.Deep.RegionLaw
import Derived.Deep.RegionHeld3
import Derived.Deep.DrawnRows
import Derived.Deep.DeepCutAuto
import Derived.BigQuiet
import Derived.Deep.QuietTactic
namespace Go.Proofs.Ytcfaeddjohpohaa
open Go.RowKit Go.Shelf Ros
attribute [local go_sem] Oper.semAt_some
attribute [local go_sem ↓] Go.wp_at_zero Go.wp_at_succ
set_option linter.unusedVariables false

section
open Go.Joins Go.ChangeShapes Go.WideShapes Go.Deep
variable {H : Type} {enc : TypeId × Value → H} {w : World} {base : Nat} {spare : Nat → Bool} {held : Bool}
/-- A vote as an argument: its value may be long. -/
def okV (x : Vt) : Prop := x.p < 18446744073709551616 ∧ x.b < 18446744073709551616 ∧ x.s.size ≤ maxLen
theorem vote_one : oneCellFields Try.prog (Try.prog.fieldsOf 24) = true := by kernel_rfl
theorem open_vote {r : Reach} {b0 : Nat} {v : Value} {d : DataW H} {p : List MemPlace} (hv : Value.okWide Try.prog w r b0 24 v) (h : DataW.Trod enc Try.prog w base spare held 24 v d p) :
    ∃ x : Vt, v = .agg #[.int .u64 (x.p : Int), .int .u64 (x.b : Int), .string x.s] ∧ okV x := by
  obtain ⟨v0, v1, v2, y0, y1, y2, n, rfl, _, _, h0, h1, h2⟩ := open_agg3 Try.underlying24 (by kernel_rfl) (by kernel_rfl) hv h
  obtain ⟨n0, e0, _, w0⟩ := DataW.trod_int Try.underlying22 h0
  obtain ⟨n1, e1, _, w1⟩ := DataW.trod_int Try.underlying22 h1
  obtain ⟨s2, e2, _, w2⟩ := DataW.trod_string Try.underlying9 h2
  obtain ⟨m0, rfl, b0⟩ := rngu64 w0
  obtain ⟨m1, rfl, b1⟩ := rngu64 w1
  cases e0; cases e1; cases e2
  exact ⟨⟨m0, m1, s2⟩, rfl, b0, b1, w2⟩
theorem open_votes {A : Option Addr} {l c : Nat} {d : DataW H} {p : List MemPlace} (h : DataW.Trod enc Try.prog w base (fun _ => true) held 36 (.slice A l c) d p) : ∃ xs : List Vt, xs.length = l ∧ ArgAt w 3 A l (cellsVs xs) ∧ (∀ x ∈ xs, okV x) ∧ l ≤ c ∧ c ≤ maxLen :=
  open_argN cellsV okV Try.underlying36 Try.underlying24 (by kernel_rfl) (by kernel_rfl) cellsV_length (fun vs hvs hf => by
    match vs, hvs with
    | [v0, v1, v2], _ =>
      obtain ⟨k0, y0, t0⟩ := hf 0 _ v0 rfl rfl
      obtain ⟨k1, y1, t1⟩ := hf 1 _ v1 rfl rfl
      obtain ⟨k2, y2, t2⟩ := hf 2 _ v2 rfl rfl
      obtain ⟨n0, e0, _, w0⟩ := DataW.trod_int Try.underlying22 t0
      obtain ⟨n1, e1, _, w1⟩ := DataW.trod_int Try.underlying22 t1
      obtain ⟨s2, e2, _, w2⟩ := DataW.trod_string Try.underlying9 t2
      obtain ⟨m0, rfl, b0⟩ := rngu64 w0
      obtain ⟨m1, rfl, b1⟩ := rngu64 w1
      cases e0; cases e1; cases e2
      exact ⟨⟨m0, m1, s2⟩, rfl, b0, b1, w2⟩) (by show 0 < 3; omega) h
end

/-- Boxes of votes that lie as they were laid. -/
def Vb (W : World) (l : List (Nat × Vt)) : Prop := ∀ p ∈ l, W.heap[p.1]? = some (.cells (cv p.2) 24 (0, 0))
theorem Vb.below {W W' : World} {l : List (Nat × Vt)} (h : Vb W l) (hb : Below W.heap.size W W') : Vb W' l := fun p hp => obj_below (h p hp) hb (obj_lt (h p hp))
theorem Vb.alloc {W : World} {l : List (Nat × Vt)} (h : Vb W l) (o : Obj) : Vb (W.alloc o) l := fun p hp => obj_alloc (h p hp) o
theorem Vb.drew {W : World} {l : List (Nat × Vt)} (h : Vb W l) : Vb W.drew l := h
theorem Vb.new {W : World} {l : List (Nat × Vt)} (h : Vb W l) (x : Vt) : Vb (W.alloc (.cells (cv x) 24)) ((W.heap.size, x) :: l) := fun p hp => by
  rcases List.mem_cons.1 hp with rfl | hp
  · exact World.alloc_heap_new W _
  · exact obj_alloc (h p hp) _
theorem Vb.cells {W : World} {l : List (Nat × Vt)} (h : Vb W l) {g : Nat} {x : Vt} (hp : (g, x) ∈ l) : W.cell? ⟨g, 0, none⟩ = some (.int .u64 (x.p : Int)) ∧ W.cell? ⟨g, 1, none⟩ = some (.int .u64 (x.b : Int)) ∧ W.cell? ⟨g, 2, none⟩ = some (.string x.s) ∧ g < W.heap.size := by
  obtain ⟨a, b, c, _, _, _, d⟩ := cells3 (h _ hp)
  exact ⟨a, b, c, d⟩

/-- A box that was laid empty ahead of a call, and is filled behind it. -/
theorem Vb.fill {W W5 : World} {l : List (Nat × Vt)} (h : Vb W l) (b : Below (W.alloc (.cells #[.int .u64 0, .int .u64 0, .string ⟨#[]⟩] 24)).drew.heap.size (W.alloc (.cells #[.int .u64 0, .int .u64 0, .string ⟨#[]⟩] 24)).drew W5) (x : Vt) :
    Vb (((W5.setCell ⟨W.heap.size, 0, none⟩ (.int .u64 (x.p : Int))).setCell ⟨W.heap.size, 1, none⟩ (.int .u64 (x.b : Int))).setCell ⟨W.heap.size, 2, none⟩ (.string x.s)) ((W.heap.size, x) :: l) := by
  have h5 := Vb.below (h.new vt0).drew b
  intro p hp
  rcases List.mem_cons.1 hp with rfl | hp
  · have := obj_set (obj_set (obj_set (h5 _ List.mem_cons_self) 0 (.int .u64 (x.p : Int))) 1 (.int .u64 (x.b : Int))) 2 (.string x.s)
    rwa [cv_set] at this
  · have hlt := obj_lt (h p hp)
    exact obj_far (obj_far (obj_far (h5 p (List.mem_cons_of_mem _ hp)) (by simp only []; omega) _) (by simp only []; omega) _) (by simp only []; omega) _
theorem fill_cells {W W5 : World} (b : Below (W.alloc (.cells #[.int .u64 0, .int .u64 0, .string ⟨#[]⟩] 24)).drew.heap.size (W.alloc (.cells #[.int .u64 0, .int .u64 0, .string ⟨#[]⟩] 24)).drew W5) :
    W5.cell? ⟨W.heap.size, 0, none⟩ = some (.int .u64 0) ∧ W5.cell? ⟨W.heap.size, 1, none⟩ = some (.int .u64 0) ∧ W5.cell? ⟨W.heap.size, 2, none⟩ = some (.string ⟨#[]⟩) ∧ W5.frozen? ⟨W.heap.size, 0, none⟩ = false ∧ W5.frozen? ⟨W.heap.size, 1, none⟩ = false ∧ W5.frozen? ⟨W.heap.size, 2, none⟩ = false ∧ W.heap.size < W5.heap.size :=
  cells3 (obj_below (show (W.alloc _).drew.heap[W.heap.size]? = _ from World.alloc_heap_new W (.cells #[.int .u64 0, .int .u64 0, .string ⟨#[]⟩] 24)) b (by show _ < (W.alloc _).heap.size; simp))
theorem fill_below {w W W5 : World} (hw : Below w.heap.size w W) (b : Below (W.alloc (.cells #[.int .u64 0, .int .u64 0, .string ⟨#[]⟩] 24)).drew.heap.size (W.alloc (.cells #[.int .u64 0, .int .u64 0, .string ⟨#[]⟩] 24)).drew W5) (x : Vt) :
    Below w.heap.size w (((W5.setCell ⟨W.heap.size, 0, none⟩ (.int .u64 (x.p : Int))).setCell ⟨W.heap.size, 1, none⟩ (.int .u64 (x.b : Int))).setCell ⟨W.heap.size, 2, none⟩ (.string x.s)) :=
  (((bt' ((hw.alloc hw.size _).drew) b).setCell (p := ⟨W.heap.size, 0, none⟩) hw.size _).setCell (p := ⟨W.heap.size, 1, none⟩) hw.size _).setCell (p := ⟨W.heap.size, 2, none⟩) hw.size _

set_option maxRecDepth 100000 in
set_option maxHeartbeats 4000000 in
theorem ballotVotes_walk (v : Vt) (n : Nat) (s : ByteArray) (hv : okV v) (hn : n < 18446744073709551616) (hs : s.size ≤ maxLen) (w : World) :
    Calls Try.prog 3 #[.agg #[.int .u64 (v.p : Int), .int .u64 (v.b : Int), .string v.s], .int .u64 (n : Int), .string s] w fun e w' => e = .returned (.bool true) ∧ Below w.heap.size w w' := by
  obtain ⟨vp, vb, vs⟩ := v
  dsimp only [okV] at hv ⊢
  have CS := Lib.hid (fun w => cut_any s w hs)
  have CV := Lib.hid (fun w => cut_any vs w hv.2.2)
  have h1 := cutV_size 4100 vs
  have h2 := cutV_size 4100 s
  have hok : Vt.ok ⟨vp, vb, cutV 4100 vs⟩ := ⟨hv.1, hv.2.1, by simp only []; omega⟩
  have C1 := Lib.hid (fun w => prom_any ⟨vp, vb, cutV 4100 vs⟩ n w hok hn)
  have C2 := Lib.hid (fun w => refprom_any ⟨vp, vb, cutV 4100 vs⟩ n w hok hn)
  have C3 := Lib.hid (fun w => cast_any ⟨vp, vb, cutV 4100 vs⟩ n (cutV 4100 s) w hok hn (by omega))
  have C4 := Lib.hid (fun w => refcast_any ⟨vp, vb, cutV 4100 vs⟩ n (cutV 4100 s) w hok hn (by omega))
  have C5 := Lib.hid (fun w => right_any ⟨vp, vb, cutV 4100 vs⟩ w hok)
  have C6 := Lib.hid (fun w => refright_any ⟨vp, vb, cutV 4100 vs⟩ w hok)
  clear h1 h2 hok hv hs hn
  generalize mprom ⟨vp, vb, cutV 4100 vs⟩ n = r at *
  generalize mcast ⟨vp, vb, cutV 4100 vs⟩ n (cutV 4100 s) = q at *
  generalize rightB ⟨vp, vb, cutV 4100 vs⟩ = t at *
  generalize cutV 4100 vs = vs' at *
  generalize cutV 4100 s = s' at *
  go_enter Try.func3, Try.ntmps3
  go_wp2_with (first
    | (go_at_call 10; refine (shown_any _).mono ?_; rintro e w1 ⟨rfl, b1⟩; have x1 := boxes1 b1; obtain ⟨p0, p1, p2, f0, f1, f2, z0⟩ := cells3 x1; have X1 := Lib.hid x1; have B1 := Lib.hid (below1 b1); clear b1 x1)
    | (go_at_call 11; refine (CV.out _).mono ?_; rintro e w2 ⟨rfl, rfl⟩))
  have V2 : Vb (w1.setCell ⟨w.heap.size, 2, none⟩ (.string vs')) [(w.heap.size, ⟨vp, vb, vs'⟩)] := fun p hp => by
    rw [List.mem_singleton.1 hp]; exact obj_set X1.out 2 (.string vs')
  have B2 := B1.out.setCell (p := ⟨w.heap.size, 2, none⟩) (Nat.le_refl _) (.string vs')
  refine (C1.out _).mono ?_
  rintro e w3 ⟨rfl, b3⟩
  have V3 := Lib.hid (V2.below b3)
  have B3 := Lib.hid (bt' B2 b3)
  clear V2 B2 b3 X1 B1 p0 p1 p2 f0 f1 f2 z0
  obtain ⟨p0, p1, p2, z0⟩ := V3.out.cells (g := w.heap.size) List.mem_cons_self
  have z0' := Nat.lt_succ_of_lt z0
  rw [Nat.succ_eq_add_one] at z0'
  go_wp2_with fail
  refine (C2.out _).mono ?_
  rintro e w4 ⟨rfl, b4⟩
  have V4 := Lib.hid (Vb.below (V3.out.new r.1) b4)
  have B4 := Lib.hid (bt' (B3.out.alloc B3.out.size (.cells (cv r.1) 24)) b4)
  clear V3 B3 b4 p0 p1 p2 z0 z0'
  obtain ⟨p0, p1, p2, z0⟩ := V4.out.cells (g := w.heap.size) (x := ⟨vp, vb, vs'⟩) (by simp)
  have z0' := Nat.lt_succ_of_lt z0
  rw [Nat.succ_eq_add_one] at z0'
  have V5 := Lib.hid (V4.out.new r.1)
  have B5 := Lib.hid (B4.out.alloc B4.out.size (.cells (cv r.1) 24))
  clear V4 B4
  go_upto_region 5 with fail
  go_cut [12, 13] (fun s1 s2 wx => ∃ g : Nat, s1 = .pointer (some ⟨g, 0, none⟩) ∧ s2 = .int .i64 q.2 ∧ Vb wx ((g, q.1) :: [(w4.heap.size, r.1), (w3.heap.size, r.1), (w.heap.size, ⟨vp, vb, vs'⟩)]) ∧ Below w.heap.size w wx)
  case first =>
    go_region_law ((first
      | (go_simp; go_at_call 11; refine (CS.out _).mono ?_; rintro e w5 ⟨rfl, rfl⟩)
      | (go_simp; go_at_call 14; ((with_reducible refine (C3.out (w4.alloc (.cells #[.int .u64 (r.1.p : Int), .int .u64 (r.1.b : Int), .string r.1.s] 24)).drew).mono ?_); rintro e w5 ⟨rfl, b5⟩; have e6 := b5.size))
      | (go_simp; go_at_call 14; ((with_reducible refine (C3.out ((w4.alloc (.cells #[.int .u64 (r.1.p : Int), .int .u64 (r.1.b : Int), .string r.1.s] 24)).alloc (.cells #[.int .u64 0, .int .u64 0, .string ⟨#[]⟩] 24)).drew).mono ?_); rintro e w5 ⟨rfl, b5⟩; obtain ⟨e0, e1, e2, e3, e4, e5, e6⟩ := fill_cells (W := (w4.alloc (.cells #[.int .u64 (r.1.p : Int), .int .u64 (r.1.b : Int), .string r.1.s] 24))) b5; (try simp only [World.size_alloc] at e0 e1 e2 e3 e4 e5 e6); have T := trivial))))
    all_goals first
      | (have V7 := V5.out.fill b5 q.1
         have B7 := fill_below B5.out b5 q.1
         (try simp only [World.size_alloc] at V7 B7)
         replace V7 := Lib.hid V7
         replace B7 := Lib.hid B7
         clear V5 B5 b5 p0 p1 p2 z0 z0' e0 e1 e2 e3 e4 e5 e6 T
         go_wp2_with fail
         go_meet
         exact ⟨_, rfl, rfl, V7.out, B7.out⟩)
      | (have V7 := Lib.hid ((Vb.below V5.out.drew b5).new q.1)
         have B7 := Lib.hid (Below.alloc (bt' B5.out.drew b5) (bt' B5.out.drew b5).size (.cells (cv q.1) 24))
         clear V5 B5 b5 p0 p1 p2 z0 z0'
         go_wp2_with fail
         go_meet
         exact ⟨_, rfl, rfl, V7.out, B7.out⟩)
  case rest =>
    clear p0 p1 p2 z0 z0' V5 B5
    obtain ⟨g12, rfl, rfl, hV, hB⟩ := hcut
    obtain ⟨p0, p1, p2, z0⟩ := hV.cells (g := w.heap.size) (x := ⟨vp, vb, vs'⟩) (by simp)
    have z0' := Nat.lt_succ_of_lt z0
    rw [Nat.succ_eq_add_one] at z0'
    have V5 := Lib.hid hV
    have B5 := Lib.hid hB
    clear hV hB
    go_upto_region 6 with fail
    go_cut [14, 15] (fun s1 s2 wx => ∃ g : Nat, s1 = .pointer (some ⟨g, 0, none⟩) ∧ s2 = .int .i64 q.2 ∧ Vb wx ((g, q.1) :: (g12, q.1) :: [(w4.heap.size, r.1), (w3.heap.size, r.1), (w.heap.size, ⟨vp, vb, vs'⟩)]) ∧ Below w.heap.size w wx)
    case first =>
      go_region_law ((first
        | (go_simp; go_at_call 11; refine (CS.out _).mono ?_; rintro e w5 ⟨rfl, rfl⟩)
        | (go_simp; go_at_call 15; ((with_reducible refine (C4.out wc.drew).mono ?_); rintro e w5 ⟨rfl, b5⟩; have e6 := b5.size))
        | (go_simp; go_at_call 15; ((with_reducible refine (C4.out (wc.alloc (.cells #[.int .u64 0, .int .u64 0, .string ⟨#[]⟩] 24)).drew).mono ?_); rintro e w5 ⟨rfl, b5⟩; obtain ⟨e0, e1, e2, e3, e4, e5, e6⟩ := fill_cells (W := wc) b5; (try simp only [World.size_alloc] at e0 e1 e2 e3 e4 e5 e6); have T := trivial))))
      all_goals first
        | (have V7 := V5.out.fill b5 q.1
           have B7 := fill_below B5.out b5 q.1
           (try simp only [World.size_alloc] at V7 B7)
           replace V7 := Lib.hid V7
           replace B7 := Lib.hid B7
           clear V5 B5 b5 p0 p1 p2 z0 z0' e0 e1 e2 e3 e4 e5 e6 T
           go_wp2_with fail
           go_meet
           exact ⟨_, rfl, rfl, V7.out, B7.out⟩)
        | (have V7 := Lib.hid ((Vb.below V5.out.drew b5).new q.1)
           have B7 := Lib.hid (Below.alloc (bt' B5.out.drew b5) (bt' B5.out.drew b5).size (.cells (cv q.1) 24))
           clear V5 B5 b5 p0 p1 p2 z0 z0'
           go_wp2_with fail
           go_meet
           exact ⟨_, rfl, rfl, V7.out, B7.out⟩)
    case rest =>

      clear p0 p1 p2 z0 z0' V5 B5
      obtain ⟨g14, rfl, rfl, hV, hB⟩ := hcut
      obtain ⟨p0, p1, p2, z0⟩ := hV.cells (g := w.heap.size) (x := ⟨vp, vb, vs'⟩) (by simp)
      have V5 := Lib.hid hV
      have B5 := Lib.hid hB
      have HS := Lib.hid (fun (X : World) (h : Vb X [(g14, q.1), (g12, q.1), (w4.heap.size, r.1), (w3.heap.size, r.1), (w.heap.size, ⟨vp, vb, vs'⟩)]) => (show X.cell? ⟨w.heap.size, 0, none⟩ = some (.int .u64 (vp : Int)) ∧ X.cell? ⟨w.heap.size, 1, none⟩ = some (.int .u64 (vb : Int)) ∧ X.cell? ⟨w.heap.size, 2, none⟩ = some (.string vs') ∧ X.cell? ⟨w3.heap.size, 0, none⟩ = some (.int .u64 (r.1.p : Int)) ∧ X.cell? ⟨w3.heap.size, 1, none⟩ = some (.int .u64 (r.1.b : Int)) ∧ X.cell? ⟨w3.heap.size, 2, none⟩ = some (.string r.1.s) ∧ X.cell? ⟨w4.heap.size, 0, none⟩ = some (.int .u64 (r.1.p : Int)) ∧ X.cell? ⟨w4.heap.size, 1, none⟩ = some (.int .u64 (r.1.b : Int)) ∧ X.cell? ⟨w4.heap.size, 2, none⟩ = some (.string r.1.s) ∧ X.cell? ⟨g12, 0, none⟩ = some (.int .u64 (q.1.p : Int)) ∧ X.cell? ⟨g12, 1, none⟩ = some (.int .u64 (q.1.b : Int)) ∧ X.cell? ⟨g12, 2, none⟩ = some (.string q.1.s) ∧ X.cell? ⟨g14, 0, none⟩ = some (.int .u64 (q.1.p : Int)) ∧ X.cell? ⟨g14, 1, none⟩ = some (.int .u64 (q.1.b : Int)) ∧ X.cell? ⟨g14, 2, none⟩ = some (.string q.1.s) from
        have a := h.cells (g := w.heap.size) (x := ⟨vp, vb, vs'⟩) (by simp)
        have b := h.cells (g := w3.heap.size) (x := r.1) (by simp)
        have c := h.cells (g := w4.heap.size) (x := r.1) (by simp)
        have d := h.cells (g := g12) (x := q.1) (by simp)
        have e := h.cells (g := g14) (x := q.1) (by simp)
        ⟨a.1, a.2.1, a.2.2.1, b.1, b.2.1, b.2.2.1, c.1, c.2.1, c.2.2.1, d.1, d.2.1, d.2.2.1, e.1, e.2.1, e.2.2.1⟩))
      obtain ⟨c0, c1, c2, c3, c4, c5, c6, c7, c8, c9, c10, c11, c12, c13, c14⟩ := HS.out _ hV
      clear hV hB p0 p1 p2 z0
      go_upto_region 7 with fail
      go_region_held3 (fun w' => w'.cell? ⟨w.heap.size, 0, none⟩ = some (.int .u64 (vp : Int)) ∧ w'.cell? ⟨w.heap.size, 1, none⟩ = some (.int .u64 (vb : Int)) ∧ w'.cell? ⟨w.heap.size, 2, none⟩ = some (.string vs') ∧ w'.cell? ⟨w3.heap.size, 0, none⟩ = some (.int .u64 (r.1.p : Int)) ∧ w'.cell? ⟨w3.heap.size, 1, none⟩ = some (.int .u64 (r.1.b : Int)) ∧ w'.cell? ⟨w3.heap.size, 2, none⟩ = some (.string r.1.s) ∧ w'.cell? ⟨w4.heap.size, 0, none⟩ = some (.int .u64 (r.1.p : Int)) ∧ w'.cell? ⟨w4.heap.size, 1, none⟩ = some (.int .u64 (r.1.b : Int)) ∧ w'.cell? ⟨w4.heap.size, 2, none⟩ = some (.string r.1.s) ∧ w'.cell? ⟨g12, 0, none⟩ = some (.int .u64 (q.1.p : Int)) ∧ w'.cell? ⟨g12, 1, none⟩ = some (.int .u64 (q.1.b : Int)) ∧ w'.cell? ⟨g12, 2, none⟩ = some (.string q.1.s) ∧ w'.cell? ⟨g14, 0, none⟩ = some (.int .u64 (q.1.p : Int)) ∧ w'.cell? ⟨g14, 1, none⟩ = some (.int .u64 (q.1.b : Int)) ∧ w'.cell? ⟨g14, 2, none⟩ = some (.string q.1.s)) (first | exact HS.out _ V7.out | exact HS.out _ V6.out | exact HS.out _ V5.out.drew | go_keep) ((first
        | (go_simp; go_at_call 16; ((with_reducible refine (C5.out wc.drew).mono ?_); rintro e w6 ⟨rfl, b6⟩; have V6 := Lib.hid (Vb.below V5.out.drew b6); have B6 := Lib.hid (bt' B5.out.drew b6); clear b6))
        | (go_simp; go_at_call 16; ((with_reducible refine (C5.out w6).mono ?_); rintro e w7 ⟨rfl, b7⟩; have V7 := Lib.hid (Vb.below V6.out b7); have B7 := Lib.hid (bt' B6.out b7); clear b7))
        | (go_simp; go_at_call 17; ((with_reducible refine (C6.out wc.drew).mono ?_); rintro e w6 ⟨rfl, b6⟩; have V6 := Lib.hid (Vb.below V5.out.drew b6); have B6 := Lib.hid (bt' B5.out.drew b6); clear b6))
        | (go_simp; go_at_call 17; ((with_reducible refine (C6.out w6).mono ?_); rintro e w7 ⟨rfl, b7⟩; have V7 := Lib.hid (Vb.below V6.out b7); have B7 := Lib.hid (bt' B6.out b7); clear b7))))
      all_goals
        go_wp2
        go_ret
        exact ⟨rfl, B7.out⟩
end Go.Proofs.Ytcfaeddjohpohaa
