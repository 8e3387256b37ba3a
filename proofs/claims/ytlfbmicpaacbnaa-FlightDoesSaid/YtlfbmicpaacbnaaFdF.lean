/-
  An act on both, walked. Conditions: none but the arguments' own.
-/
import Derived.Test.YtlfbmicpaacbnaaFdE
import Derived.BigQuiet
namespace Go.Proofs.Ytlfbmicpaacbnaa
open Go.RowKit Go.Shelf Ros
attribute [local go_sem] Oper.semAt_some
attribute [local go_sem ↓] Go.wp_at_zero Go.wp_at_succ
theorem note_eq (x : Nt) (w : World) : (binOp .eql 35 (.agg #[.int .u32 (x.id : Int), .int .i64 x.to, .string x.s]) (.agg #[.int .u32 (x.id : Int), .int .i64 x.to, .string x.s])).run Try.prog w = .ok (.bool true) w := by
  go_simp
theorem abox5 {W : World} {gx : Nat} {x : Ac} {t : TypeId} (h : W.heap[gx]? = some (.cells #[.int .i64 x.d, .int .i64 x.a, .int .i64 x.b, .int .u32 (x.m : Int), .string x.s] t (0, 0))) :
    W.cell? ⟨gx, 0, none⟩ = some (.int .i64 x.d) ∧ W.cell? ⟨gx, 1, none⟩ = some (.int .i64 x.a) ∧ W.cell? ⟨gx, 2, none⟩ = some (.int .i64 x.b) ∧ W.cell? ⟨gx, 3, none⟩ = some (.int .u32 (x.m : Int)) ∧ W.cell? ⟨gx, 4, none⟩ = some (.string x.s) :=
  ⟨cell_row h 0, cell_row h 1, cell_row h 2, cell_row h 3, cell_row h 4⟩
/-- What an act does to a flight. -/
def mdid (f : Fs) (x : Ac) : Fs :=
  if (IntKind.u64.wrap x.d).tmod 6 = 0 ∨ (IntKind.u64.wrap x.d).tmod 6 = 1 then (msend f x.a (cutS x.s)).2 else if (IntKind.u64.wrap x.d).tmod 6 = 2 ∨ (IntKind.u64.wrap x.d).tmod 6 = 3 then (mtake f x.a).2
  else if (IntKind.u64.wrap x.d).tmod 6 = 4 then (mcopy f x.a).2 else (mhurt f x.a x.b x.m).2
theorem Gd.did {f : Fs} {k : Nat} (h : Gd f k) (x : Ac) : Gd (mdid f x) (k + 1) := by
  unfold mdid
  split
  · exact h.send _ (cutS_size _)
  · split
    · exact h.take _
    · split
      · exact h.copy _
      · exact h.hurt _ _ _
set_option maxRecDepth 100000 in
set_option maxHeartbeats 8000000 in
theorem did_any (w0 w : World) (S T : Nat → Prop) (g r k : Nat) (f : Fs) (x : Ac) (h : Two w0 w S T g r f f (fun _ => False) (fun _ => True)) (hg : Gd f k) (hk : k ≤ 900) (hx : x.ok) :
    Calls Try.prog 21 #[.pointer (some ⟨g, 0, none⟩), .pointer (some ⟨r, 0, none⟩), .agg #[.int .i64 x.d, .int .i64 x.a, .int .i64 x.b, .int .u32 (x.m : Int), .string x.s]] w fun e w' => e = .returned (.bool true) ∧ ∃ S' T', Two w0 w' S' T' g r (mdid f x) (mdid f x) (fun _ => False) (fun _ => True) := by
  have hlen : f.l.length ≤ 1000 := by have := hg.len; omega
  have hto : ∀ y ∈ f.l, 0 ≤ y.to ∧ y.to < 16 := fun y hy => (hg.ok y hy).1
  have hsz : ∀ y ∈ f.l, y.s.size ≤ 140737488355328 := fun y hy => by have := (hg.ok y hy).2; omega
  have HS := Lib.hid (fun W S T f2 B F (h : Two w0 W S T g r f f2 B F) => send_t h hlen x.a (cutS x.s))
  have HRS := Lib.hid (fun W S T f1 B F (h : Two w0 W S T g r f1 f B F) => rsend_t h hlen x.a (cutS x.s))
  have HT := Lib.hid (fun W S T f2 B F (h : Two w0 W S T g r f f2 B F) => take_t h hlen x.a)
  have HRT := Lib.hid (fun W S T f1 B F (h : Two w0 W S T g r f1 f B F) => rtake_t h hlen x.a)
  have HD := Lib.hid (fun W S T f2 B F (h : Two w0 W S T g r f f2 B F) => drop_t h hlen x.a)
  have HC := Lib.hid (fun W S T f2 B F (h : Two w0 W S T g r f f2 B F) => copy_t h hlen x.a)
  have HRC := Lib.hid (fun W S T f1 B F (h : Two w0 W S T g r f1 f B F) => rcopy_t h hlen hto x.a)
  have HH := Lib.hid (fun W S T f2 B F (h : Two w0 W S T g r f f2 B F) => hurt_t h hsz x.a x.b x.m hx.2.2.2.1 hx.2.2.1.1 hx.2.2.1.2)
  have HRH := Lib.hid (fun W S T f1 B F (h : Two w0 W S T g r f1 f B F) => rhurt_t h hsz x.a x.b x.m hx.2.2.2.1 hx.2.2.1.1 hx.2.2.1.2)
  have HX := Lib.hid (fun W => atext_any x W hx.2.2.2.2)
  have N1 := Lib.hid (h.boxed (.cells #[.int .i64 x.d, .int .i64 x.a, .int .i64 x.b, .int .u32 (x.m : Int), .string x.s] 38))
  clear h hlen hto hsz
  unfold mdid
  rcases do_of x.d with hm | hm | hm | hm | hm | hm
  · rw [if_pos (.inl hm)]
    generalize (msend f x.a (cutS x.s)).1.1 = r1 at *
    generalize (msend f x.a (cutS x.s)).1.2 = r2 at *
    generalize (msend f x.a (cutS x.s)).2 = f' at *
    clear HT HRT HD HC HRC HH HRH
    go_enter Try.func21, Try.ntmps21
    go_wp2
    have HW := Lib.hid (World.size_alloc w (.cells #[.int .i64 x.d, .int .i64 x.a, .int .i64 x.b, .int .u32 (x.m : Int), .string x.s] 38))
    generalize w.alloc (.cells #[.int .i64 x.d, .int .i64 x.a, .int .i64 x.b, .int .u32 (x.m : Int), .string x.s] 38) = W1 at *
    obtain ⟨a0, a1, a2, a3, a4⟩ := abox5 N1.out.rest.2
    have hz := obj_lt N1.out.rest.2
    go_region_held3 (fun w' => w'.cell? ⟨w.heap.size, 0, none⟩ = some (.int .i64 x.d) ∧ w'.cell? ⟨w.heap.size, 1, none⟩ = some (.int .i64 x.a) ∧ w'.cell? ⟨w.heap.size, 2, none⟩ = some (.int .i64 x.b) ∧ w'.cell? ⟨w.heap.size, 3, none⟩ = some (.int .u32 (x.m : Int)) ∧ w'.cell? ⟨w.heap.size, 4, none⟩ = some (.string x.s)) (first | exact abox5 h3.rest.2 | go_keep) ((first
      | (go_simp; go_at_call 15; (with_reducible refine (HX.out _).mono ?_); rintro e w3 ⟨rfl, rfl⟩; have h3 := (N1.out.alloc (.cells #[.int .i64 x.d, .int .i64 x.a, .int .i64 x.b, .int .u32 (x.m : Int), .string x.s] 38)).drew; have N3 := Lib.hid h3)
      | (go_simp; go_at_call 12; (with_reducible refine (HS.out _ _ _ _ _ _ N3.out).mono ?_); rintro e w4 ⟨rfl, S4, h3⟩; have N4 := Lib.hid h3)))
    clear a0 a1 a2 a3 a4 h3
    obtain ⟨a0, a1, a2, a3, a4⟩ := abox5 N4.out.rest.2
    have hz4 := obj_lt N4.out.rest.2
    go_wp2
    go_region_held3 (fun w' => w'.cell? ⟨w.heap.size, 0, none⟩ = some (.int .i64 x.d) ∧ w'.cell? ⟨w.heap.size, 1, none⟩ = some (.int .i64 x.a) ∧ w'.cell? ⟨w.heap.size, 2, none⟩ = some (.int .i64 x.b) ∧ w'.cell? ⟨w.heap.size, 3, none⟩ = some (.int .u32 (x.m : Int)) ∧ w'.cell? ⟨w.heap.size, 4, none⟩ = some (.string x.s)) (first | exact abox5 h3.rest.2 | go_keep) ((first
      | (go_simp; go_at_call 15; (with_reducible refine (HX.out _).mono ?_); rintro e w5 ⟨rfl, rfl⟩; have h3 := (N4.out.alloc (.cells #[.int .i64 x.d, .int .i64 x.a, .int .i64 x.b, .int .u32 (x.m : Int), .string x.s] 38)).drew; have N5 := Lib.hid h3)
      | (go_simp; go_at_call 28; (with_reducible refine (HRS.out _ _ _ _ _ _ N5.out).mono ?_); rintro e w6 ⟨rfl, T6, h3⟩; have N6 := Lib.hid h3)))
    go_wp2
    go_ret
    exact ⟨rfl, S4, T6, N6.out.less (fun k hk => hk.elim) (fun _ _ _ _ => trivial) (fun _ => trivial)⟩
  · rw [if_pos (.inr hm)]
    generalize (msend f x.a (cutS x.s)).1.1 = r1 at *
    generalize (msend f x.a (cutS x.s)).1.2 = r2 at *
    generalize (msend f x.a (cutS x.s)).2 = f' at *
    clear HT HRT HD HC HRC HH HRH
    go_enter Try.func21, Try.ntmps21
    go_wp2
    have HW := Lib.hid (World.size_alloc w (.cells #[.int .i64 x.d, .int .i64 x.a, .int .i64 x.b, .int .u32 (x.m : Int), .string x.s] 38))
    generalize w.alloc (.cells #[.int .i64 x.d, .int .i64 x.a, .int .i64 x.b, .int .u32 (x.m : Int), .string x.s] 38) = W1 at *
    obtain ⟨a0, a1, a2, a3, a4⟩ := abox5 N1.out.rest.2
    have hz := obj_lt N1.out.rest.2
    go_region_held3 (fun w' => w'.cell? ⟨w.heap.size, 0, none⟩ = some (.int .i64 x.d) ∧ w'.cell? ⟨w.heap.size, 1, none⟩ = some (.int .i64 x.a) ∧ w'.cell? ⟨w.heap.size, 2, none⟩ = some (.int .i64 x.b) ∧ w'.cell? ⟨w.heap.size, 3, none⟩ = some (.int .u32 (x.m : Int)) ∧ w'.cell? ⟨w.heap.size, 4, none⟩ = some (.string x.s)) (first | exact abox5 h3.rest.2 | go_keep) ((first
      | (go_simp; go_at_call 15; (with_reducible refine (HX.out _).mono ?_); rintro e w3 ⟨rfl, rfl⟩; have h3 := (N1.out.alloc (.cells #[.int .i64 x.d, .int .i64 x.a, .int .i64 x.b, .int .u32 (x.m : Int), .string x.s] 38)).drew; have N3 := Lib.hid h3)
      | (go_simp; go_at_call 12; (with_reducible refine (HS.out _ _ _ _ _ _ N3.out).mono ?_); rintro e w4 ⟨rfl, S4, h3⟩; have N4 := Lib.hid h3)))
    clear a0 a1 a2 a3 a4 h3
    obtain ⟨a0, a1, a2, a3, a4⟩ := abox5 N4.out.rest.2
    have hz4 := obj_lt N4.out.rest.2
    go_wp2
    go_region_held3 (fun w' => w'.cell? ⟨w.heap.size, 0, none⟩ = some (.int .i64 x.d) ∧ w'.cell? ⟨w.heap.size, 1, none⟩ = some (.int .i64 x.a) ∧ w'.cell? ⟨w.heap.size, 2, none⟩ = some (.int .i64 x.b) ∧ w'.cell? ⟨w.heap.size, 3, none⟩ = some (.int .u32 (x.m : Int)) ∧ w'.cell? ⟨w.heap.size, 4, none⟩ = some (.string x.s)) (first | exact abox5 h3.rest.2 | go_keep) ((first
      | (go_simp; go_at_call 15; (with_reducible refine (HX.out _).mono ?_); rintro e w5 ⟨rfl, rfl⟩; have h3 := (N4.out.alloc (.cells #[.int .i64 x.d, .int .i64 x.a, .int .i64 x.b, .int .u32 (x.m : Int), .string x.s] 38)).drew; have N5 := Lib.hid h3)
      | (go_simp; go_at_call 28; (with_reducible refine (HRS.out _ _ _ _ _ _ N5.out).mono ?_); rintro e w6 ⟨rfl, T6, h3⟩; have N6 := Lib.hid h3)))
    go_wp2
    go_ret
    exact ⟨rfl, S4, T6, N6.out.less (fun k hk => hk.elim) (fun _ _ _ _ => trivial) (fun _ => trivial)⟩
  · rw [if_neg (by rw [hm]; decide), if_pos (.inl hm)]
    have hne := note_eq (mtake f x.a).1.1
    generalize (mtake f x.a).1.1 = nt at *
    generalize (mtake f x.a).1.2 = r2 at *
    generalize (mtake f x.a).2 = f' at *
    clear HS HRS HD HC HRC HH HRH
    go_enter Try.func21, Try.ntmps21
    go_wp2_with (first
      | (go_at_call 17; (with_reducible refine (HT.out _ _ _ _ _ _ N1.out).mono ?_); rintro e w3 ⟨rfl, S3, h3⟩; have N3 := Lib.hid (h3.boxed (.cells #[.int .u32 (nt.id : Int), .int .i64 nt.to, .string nt.s] 35)); obtain ⟨a0, a1, a2, a3, a4⟩ := abox5 h3.rest.2; have hz3 := obj_lt h3.rest.2; clear h3)
      | (go_at_call 29; (with_reducible refine (HRT.out _ _ _ _ _ _ N3.out).mono ?_); rintro e w4 ⟨rfl, T4, h4⟩; have N4 := Lib.hid (h4.alloc (.cells #[.int .u32 (nt.id : Int), .int .i64 nt.to, .string nt.s] 35)); obtain ⟨b0, b1, b2, _, _, _, bz⟩ := cells3F h4.rest.2; clear h4))
    go_ret
    exact ⟨rfl, S3, T4, N4.out.less (fun k hk => hk.elim) (fun _ _ _ _ => trivial) (fun _ => trivial)⟩
  · rw [if_neg (by rw [hm]; decide), if_pos (.inr hm)]
    generalize (mtake f x.a).1.1 = nt at *
    generalize (mtake f x.a).1.2 = r2 at *
    generalize (mtake f x.a).2 = f' at *
    clear HS HRS HT HC HRC HH HRH
    go_enter Try.func21, Try.ntmps21
    go_wp2_with (first
      | (go_at_call 29; (with_reducible refine (HRT.out _ _ _ _ _ _ N1.out).mono ?_); rintro e w4 ⟨rfl, T4, h4⟩; have N4 := Lib.hid (h4.alloc (.cells #[.int .u32 (nt.id : Int), .int .i64 nt.to, .string nt.s] 35)); obtain ⟨a0, a1, a2, a3, a4⟩ := abox5 h4.rest.2; have hz3 := obj_lt h4.rest.2; clear h4)
      | (go_at_call 16; (with_reducible refine (HD.out _ _ _ _ _ _ N4.out).mono ?_); rintro e w3 ⟨rfl, S3, h3⟩; have N3 := Lib.hid h3; clear h3))
    go_ret
    exact ⟨rfl, S3, T4, N3.out.less (fun k hk => hk.elim) (fun _ _ _ _ => trivial) (fun _ => trivial)⟩
  · rw [if_neg (by rw [hm]; decide), if_neg (by rw [hm]; decide), if_pos hm]
    generalize (mcopy f x.a).1.1 = r1 at *
    generalize (mcopy f x.a).1.2 = r2 at *
    generalize (mcopy f x.a).2 = f' at *
    clear HS HRS HT HRT HD HH HRH
    go_enter Try.func21, Try.ntmps21
    go_wp2_with (first
      | (go_at_call 14; (with_reducible refine (HC.out _ _ _ _ _ _ N1.out).mono ?_); rintro e w3 ⟨rfl, S3, h3⟩; have N3 := Lib.hid h3; obtain ⟨a0, a1, a2, a3, a4⟩ := abox5 h3.rest.2; have hz3 := obj_lt h3.rest.2; clear h3)
      | (go_at_call 30; (with_reducible refine (HRC.out _ _ _ _ _ _ N3.out).mono ?_); rintro e w4 ⟨rfl, T4, h4⟩; have N4 := Lib.hid h4; clear h4))
    go_ret
    exact ⟨rfl, S3, T4, N4.out.less (fun k hk => hk.elim) (fun _ _ _ _ => trivial) (fun _ => trivial)⟩
  · rw [if_neg (by rw [hm]; decide), if_neg (by rw [hm]; decide), if_neg (by rw [hm]; decide)]
    generalize (mhurt f x.a x.b x.m).1 = r2 at *
    generalize (mhurt f x.a x.b x.m).2 = f' at *
    clear HS HRS HT HRT HD HC HRC
    go_enter Try.func21, Try.ntmps21
    go_wp2
    have HW := Lib.hid (World.size_alloc w (.cells #[.int .i64 x.d, .int .i64 x.a, .int .i64 x.b, .int .u32 (x.m : Int), .string x.s] 38))
    generalize w.alloc (.cells #[.int .i64 x.d, .int .i64 x.a, .int .i64 x.b, .int .u32 (x.m : Int), .string x.s] 38) = W1 at *
    obtain ⟨a0, a1, a2, a3, a4⟩ := abox5 N1.out.rest.2
    have hz := obj_lt N1.out.rest.2
    go_region_held3 (fun w' => w'.cell? ⟨w.heap.size, 0, none⟩ = some (.int .i64 x.d) ∧ w'.cell? ⟨w.heap.size, 1, none⟩ = some (.int .i64 x.a) ∧ w'.cell? ⟨w.heap.size, 2, none⟩ = some (.int .i64 x.b) ∧ w'.cell? ⟨w.heap.size, 3, none⟩ = some (.int .u32 (x.m : Int)) ∧ w'.cell? ⟨w.heap.size, 4, none⟩ = some (.string x.s)) (first | exact abox5 h3.rest.2 | go_keep) ((first
      | (go_simp; go_at_call 20; (with_reducible refine (HH.out _ _ _ _ _ _ N1.out.drew).mono ?_); rintro e w3 ⟨rfl, h3⟩; have N3 := Lib.hid h3)
      | (go_simp; go_at_call 31; (with_reducible refine (HRH.out _ _ _ _ _ _ N3.out).mono ?_); rintro e w4 ⟨rfl, h3⟩; have N4 := Lib.hid h3)))
    go_wp2
    go_ret
    exact ⟨rfl, S, T, N4.out.less (fun k hk => hk.elim) (fun _ _ _ _ => trivial) (fun _ => trivial)⟩
end Go.Proofs.Ytlfbmicpaacbnaa
