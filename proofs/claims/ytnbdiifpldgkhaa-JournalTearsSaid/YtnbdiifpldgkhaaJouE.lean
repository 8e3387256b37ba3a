/-
  Whole, repaired, appended, by journal and by its reference. Conditions: strings are at most 2^26 bytes long.
-/
import Derived.Test.YtnbdiifpldgkhaaJouD
import Derived.ScopeJumps
namespace Ros
open Go Go.RowKit
@[irreducible] def wholeB (s : ByteArray) : Bool := decide ((readL (bl s)).2 = s.size)
theorem wholeB_iff (s : ByteArray) : wholeB s = true ↔ (readL (bl s)).2 = s.size := by unfold wholeB; simp
@[irreducible] def repS (s : ByteArray) : ByteArray := s.extract 0 (readL (bl s)).2
theorem repS_def (s : ByteArray) : repS s = s.extract 0 (readL (bl s)).2 := by unfold repS; rfl
/-- How many bytes of a record are kept. -/
def clampN (keep : Int) (n : Nat) : Nat := if keep ≤ 0 then 0 else if keep < n then keep.toNat else n
theorem clampN_le (keep : Int) (n : Nat) : clampN keep n ≤ n := by unfold clampN; split <;> (try split) <;> omega
@[irreducible] def appS (s d : ByteArray) (keep : Int) : ByteArray := if wholeB s = true ∧ d.size ≤ 4096 ∧ s.size + (d.size + 9) ≤ 1048576 then s ++ (str (recL (bl d))).extract 0 (clampN keep (d.size + 9)) else ⟨#[]⟩
@[irreducible] def appE (s d : ByteArray) : Nat := if wholeB s = true then (if d.size ≤ 4096 ∧ s.size + (d.size + 9) ≤ 1048576 then 0 else 30) else 31
theorem app_torn {s : ByteArray} (d : ByteArray) (keep : Int) (h : wholeB s = false) : appS s d keep = ⟨#[]⟩ ∧ appE s d = 31 := by unfold appS appE; simp [h]
theorem app_full {s d : ByteArray} (keep : Int) (h : wholeB s = true) (h2 : ¬ (d.size ≤ 4096 ∧ s.size + (d.size + 9) ≤ 1048576)) : appS s d keep = ⟨#[]⟩ ∧ appE s d = 30 := by
  unfold appS appE; rw [if_pos h, if_neg h2, if_neg (fun e => h2 e.2)]; exact ⟨rfl, rfl⟩
theorem app_yes {s d : ByteArray} (keep : Int) (h : wholeB s = true) (h2 : d.size ≤ 4096 ∧ s.size + (d.size + 9) ≤ 1048576) : appS s d keep = s ++ (str (recL (bl d))).extract 0 (clampN keep (d.size + 9)) ∧ appE s d = 0 := by
  unfold appS appE; rw [if_pos h, if_pos h2, if_pos ⟨h, h2⟩]; exact ⟨rfl, rfl⟩
theorem rec_size (d : ByteArray) : (str (recL (bl d))).size = d.size + 9 := by rw [size_str, recL_length, ← size_bl]
theorem join2 (a b : ByteArray) : joinB [a, b] = a ++ b := by apply bl_inj; rw [bl_joinB, bl_append]; simp
theorem jump_ret {l : Nat} {J : Act → World → Prop} {Q : Exit → Act → World → Prop} {a : Act} {w : World} : Exit.jump l J Q .ret a w = Q .ret a w := rfl
theorem then_goto {l : Nat} {K : Act → World → Prop} {J : Act → World → Prop} {Q : Exit → Act → World → Prop} {a : Act} {w : World} (h : J a w) : Exit.then K (Exit.jump l J Q) (.goto l) a w := ⟨rfl, h⟩
end Ros
namespace Go.Proofs.Ytnbdiifpldgkhaa
open Go.RowKit Go.Shelf Ros
attribute [local go_sem] Oper.semAt_some

set_option maxHeartbeats 400000 in
theorem whole_any (s : ByteArray) (w : World) (hs : s.size ≤ 67108864) :
    Calls Try.prog 19 #[.string s] w fun e w' => e = .returned (.bool (wholeB s)) ∧ Below w.heap.size w w' := by
  have HR := Lib.hid (read_any s w hs)
  have hb : (((readL (bl s)).2 : Int) == (s.size : Int)) = wholeB s := by rw [Bool.eq_iff_iff, wholeB_iff]; simp; omega
  have hle := (read_len (bl s)).1
  rw [← size_bl] at hle
  generalize wholeB s = b at *
  generalize readL (bl s) = r at *
  go_enter Try.func19, Try.ntmps19
  go_wp2_with (go_at_call 12; refine HR.out.mono ?_; rintro e w1 ⟨A, c, rfl, r1, b1⟩)
  go_ret
  exact ⟨rfl, b1⟩

set_option maxHeartbeats 400000 in
theorem refwhole_any (s : ByteArray) (w : World) (hs : s.size ≤ 67108864) :
    Calls Try.prog 20 #[.string s] w fun e w' => e = .returned (.bool (wholeB s)) ∧ Below w.heap.size w w' := by
  have HR := Lib.hid (refread_any s w hs)
  have hb : (((readL (bl s)).2 : Int) == (s.size : Int)) = wholeB s := by rw [Bool.eq_iff_iff, wholeB_iff]; simp; omega
  have hle := (read_len (bl s)).1
  rw [← size_bl] at hle
  generalize wholeB s = b at *
  generalize readL (bl s) = r at *
  go_enter Try.func20, Try.ntmps20
  go_wp2_with (go_at_call 18; refine HR.out.mono ?_; rintro e w1 ⟨A, c, rfl, r1, b1⟩)
  go_ret
  exact ⟨rfl, b1⟩

set_option maxHeartbeats 400000 in
theorem repair_any (s : ByteArray) (w : World) (hs : s.size ≤ 67108864) :
    Calls Try.prog 14 #[.string s] w fun e w' => e = .returned (.string (repS s)) ∧ Below w.heap.size w w' := by
  have HR := Lib.hid (read_any s w hs)
  have hle := (read_len (bl s)).1
  rw [← size_bl] at hle
  have hsl := sl_h (P := Try.prog) Try.underlying9 s (readL (bl s)).2 hle ((readL (bl s)).2 : Int) rfl
  rw [← repS_def] at hsl
  generalize repS s = b at *
  generalize readL (bl s) = r at *
  go_enter Try.func14, Try.ntmps14
  go_wp2_with (go_at_call 12; refine HR.out.mono ?_; rintro e w1 ⟨A, c, rfl, r1, b1⟩)
  go_ret
  exact ⟨rfl, b1⟩

set_option maxHeartbeats 400000 in
theorem refrepair_any (s : ByteArray) (w : World) (hs : s.size ≤ 67108864) :
    Calls Try.prog 21 #[.string s] w fun e w' => e = .returned (.string (repS s)) ∧ Below w.heap.size w w' := by
  have HR := Lib.hid (refread_any s w hs)
  have hle := (read_len (bl s)).1
  rw [← size_bl] at hle
  have hsl := sl_h (P := Try.prog) Try.underlying9 s (readL (bl s)).2 hle ((readL (bl s)).2 : Int) rfl
  rw [← repS_def] at hsl
  generalize repS s = b at *
  generalize readL (bl s) = r at *
  go_enter Try.func21, Try.ntmps21
  go_wp2_with (go_at_call 18; refine HR.out.mono ?_; rintro e w1 ⟨A, c, rfl, r1, b1⟩)
  go_ret
  exact ⟨rfl, b1⟩

set_option maxRecDepth 100000 in
set_option maxHeartbeats 400000 in
theorem append_torn (s d : ByteArray) (keep : Int) (w : World) (hs : s.size ≤ 67108864) (h : wholeB s = false) :
    Calls Try.prog 22 #[.string s, .string d, .int .i64 keep] w fun e w' => e = .returned (.tuple #[.string ⟨#[]⟩, .int .i64 31]) ∧ Below w.heap.size w w' := by
  have HW := Lib.hid (whole_any s w hs)
  rw [h] at HW
  go_enter Try.func22, Try.ntmps22
  go_wp2
  go_step3
  go_wp2_with (go_at_call 19; refine HW.out.mono ?_; rintro e w1 ⟨rfl, b1⟩)
  rw [Exit.noGoto_ret]
  go_ret2
  exact ⟨rfl, b1⟩

set_option maxRecDepth 100000 in
set_option maxHeartbeats 400000 in
theorem append_long (s d : ByteArray) (keep : Int) (w : World) (hs : s.size ≤ 67108864) (hd : d.size ≤ maxLen) (h : wholeB s = true) (h2 : ¬ d.size ≤ 4096) :
    Calls Try.prog 22 #[.string s, .string d, .int .i64 keep] w fun e w' => e = .returned (.tuple #[.string ⟨#[]⟩, .int .i64 30]) ∧ Below w.heap.size w w' := by
  have HW := Lib.hid (whole_any s w hs)
  have HR := Lib.hid (fun W : World => record_no d W h2 hd)
  rw [h] at HW
  go_enter Try.func22, Try.ntmps22
  go_wp2
  refine wp_scope_jumps 0 (fun a' w' => Below w.heap.size w w' ∧ ∃ u3 u4 u5 u6 u7 u8 u9 u10 u11 u12 u13 u14 u15 u16 u17 u18 u19 u20 u21 u22 u23 u24 u25 u26 u27 u28 u29 u30 u31 u32 u33 u34 u35 : Value, a' = { tmps := #[.string s, .string d, .int .i64 keep, u3, u4, u5, u6, u7, u8, u9, u10, u11, u12, u13, u14, u15, u16, u17, u18, u19, u20, u21, u22, u23, u24, u25, u26, u27, u28, u29, u30, u31, u32, u33, u34, u35], defers := [] }) (fun _ _ => 0) rfl ?_ ?_
  · go_wp2_with (first
      | (go_at_call 19; refine HW.out.mono ?_; rintro e w1 ⟨rfl, b1⟩)
      | (go_at_call 16; refine (HR.out _).mono ?_; rintro e w2 ⟨rfl, b2⟩))
    refine wp_goto (then_goto ⟨bt b1 b2, _, _, _, _, _, _, _, _, _, _, _, _, _, _, _, _, _, _, _, _, _, _, _, _, _, _, _, _, _, _, _, _, _, rfl⟩)
  · rintro a' w' ⟨hb, u3, u4, u5, u6, u7, u8, u9, u10, u11, u12, u13, u14, u15, u16, u17, u18, u19, u20, u21, u22, u23, u24, u25, u26, u27, u28, u29, u30, u31, u32, u33, u34, u35, rfl⟩
    go_wp2
    rw [jump_ret]
    go_ret2
    exact ⟨rfl, hb⟩

set_option maxRecDepth 100000 in
set_option maxHeartbeats 400000 in
theorem append_full (s d : ByteArray) (keep : Int) (w : World) (hs : s.size ≤ 67108864) (h : wholeB s = true) (h2 : d.size ≤ 4096) (h3 : ¬ s.size + (d.size + 9) ≤ 1048576) :
    Calls Try.prog 22 #[.string s, .string d, .int .i64 keep] w fun e w' => e = .returned (.tuple #[.string ⟨#[]⟩, .int .i64 30]) ∧ Below w.heap.size w w' := by
  have HW := Lib.hid (whole_any s w hs)
  have HR := Lib.hid (fun W : World => record_yes d W h2)
  have hz := rec_size d
  rw [h] at HW
  generalize str (recL (bl d)) = r at *
  rw [← hz] at h3
  have h4 : ((1048576 : Int) < (s.size : Int) + (r.size : Int)) = True := eq_true (by omega)
  have hr2 : r.size ≤ 4105 := by omega
  have HZ := Lib.hid hz
  clear hz
  have H3 := Lib.hid h3
  clear h3
  go_enter Try.func22, Try.ntmps22
  go_wp2
  refine wp_scope_jumps 0 (fun a' w' => Below w.heap.size w w' ∧ ∃ u3 u4 u5 u6 u7 u8 u9 u10 u11 u12 u13 u14 u15 u16 u17 u18 u19 u20 u21 u22 u23 u24 u25 u26 u27 u28 u29 u30 u31 u32 u33 u34 u35 : Value, a' = { tmps := #[.string s, .string d, .int .i64 keep, u3, u4, u5, u6, u7, u8, u9, u10, u11, u12, u13, u14, u15, u16, u17, u18, u19, u20, u21, u22, u23, u24, u25, u26, u27, u28, u29, u30, u31, u32, u33, u34, u35], defers := [] }) (fun _ _ => 0) rfl ?_ ?_
  · go_wp2_with (first
      | (go_at_call 19; refine HW.out.mono ?_; rintro e w1 ⟨rfl, b1⟩)
      | (go_at_call 16; refine (HR.out _).mono ?_; rintro e w2 ⟨rfl, b2⟩))
    refine wp_goto (then_goto ⟨bt b1 b2, _, _, _, _, _, _, _, _, _, _, _, _, _, _, _, _, _, _, _, _, _, _, _, _, _, _, _, _, _, _, _, _, _, rfl⟩)
  · rintro a' w' ⟨hb, u3, u4, u5, u6, u7, u8, u9, u10, u11, u12, u13, u14, u15, u16, u17, u18, u19, u20, u21, u22, u23, u24, u25, u26, u27, u28, u29, u30, u31, u32, u33, u34, u35, rfl⟩
    go_wp2
    rw [jump_ret]
    go_ret2
    exact ⟨rfl, hb⟩

set_option maxRecDepth 100000 in
set_option maxHeartbeats 400000 in
theorem append_yes (s d : ByteArray) (keep : Int) (w : World) (hs : s.size ≤ 67108864) (h : wholeB s = true) (h2 : d.size ≤ 4096) (h3 : s.size + (d.size + 9) ≤ 1048576) :
    Calls Try.prog 22 #[.string s, .string d, .int .i64 keep] w fun e w' => e = .returned (.tuple #[.string (s ++ (str (recL (bl d))).extract 0 (clampN keep (d.size + 9))), .int .i64 0]) ∧ Below w.heap.size w w' := by
  have HW := Lib.hid (whole_any s w hs)
  have HR := Lib.hid (fun W : World => record_yes d W h2)
  have hz := rec_size d
  rw [h] at HW
  rw [← hz]
  rw [← hz] at h3
  generalize str (recL (bl d)) = r at *
  have hcl := clampN_le keep r.size
  have hcs : (r.extract 0 (clampN keep r.size)).size ≤ r.size := by rw [size_bl, bl_extract0, List.length_take, size_bl]; omega
  have HJ := Lib.hid (fun (W : World) (g : Nat) (hg : g = W.heap.size) => join_any (some ⟨g, 0, none⟩) 2 [s, r.extract 0 (clampN keep r.size)] (W.alloc (.cells #[.string s, .string (r.extract 0 (clampN keep r.size))] 9)) (hg ▸ ArgAt.fresh [.string s, .string (r.extract 0 (clampN keep r.size))]) (by simp) (by rw [join2, ByteArray.size_append']; omega))
  simp only [List.length_cons, List.length_nil, Nat.reduceAdd] at HJ
  rw [join2] at HJ
  have hsl := sl_h (P := Try.prog) Try.underlying9 r (clampN keep r.size) hcl
  have hr2 : r.size ≤ 4105 := by omega
  have hu0 : clampN keep r.size = 0 → r.extract 0 (clampN keep r.size) = ByteArray.empty := fun e => by apply bl_inj; rw [e, bl_extract0]; rfl
  have hu1 : clampN keep r.size = r.size → r.extract 0 (clampN keep r.size) = r := fun e => by apply bl_inj; rw [e, bl_extract0, size_bl, List.take_length]
  have hk : (keep < 0 ∧ clampN keep r.size = 0) ∨ (keep = 0 ∧ clampN keep r.size = 0) ∨ (0 < keep ∧ keep < r.size ∧ (clampN keep r.size : Int) = keep) ∨ (keep = (r.size : Int) ∧ clampN keep r.size = r.size) ∨ (0 < keep ∧ (r.size : Int) < keep ∧ clampN keep r.size = r.size) := by
    have h9 : 9 ≤ r.size := by omega
    unfold clampN
    by_cases h1 : keep ≤ 0
    · rw [if_pos h1]; omega
    · by_cases h2 : keep < r.size
      · rw [if_neg h1, if_pos h2]; omega
      · rw [if_neg h1, if_neg h2]; omega
  have h4 : ((1048576 : Int) < (s.size : Int) + (r.size : Int)) = False := eq_false (by omega)
  have HZ := Lib.hid hz
  have h9 : 0 < (r.size : Int) := by omega
  clear hz
  have H3 := Lib.hid h3
  clear h3
  generalize s ++ r.extract 0 (clampN keep r.size) = out at *
  generalize r.extract 0 (clampN keep r.size) = u at *
  rcases hk with ⟨k1, k2⟩ | ⟨k1, k2⟩ | ⟨k1, k2, k3⟩ | ⟨k1, k2⟩ | ⟨k1, k2, k3⟩
  · have hu := hu0 k2
    have kA : keep < (r.size : Int) := by omega
    have kB : keep ≤ (r.size : Int) := by omega
    have kC : keep ≤ 0 := by omega
    rw [hu] at HJ
    clear hsl hu0 hu1 hu
    go_enter Try.func22, Try.ntmps22
    go_wp2
    go_step3
    go_wp2_with (first
      | (go_at_call 19; refine HW.out.mono ?_; rintro e w1 ⟨rfl, b1⟩)
      | (go_at_call 16; refine (HR.out _).mono ?_; rintro e w2 ⟨rfl, b2⟩)
      | (go_at_call 26; refine (HJ.out _ _ rfl).mono ?_; rintro e w3 ⟨rfl, rfl⟩))
    rw [Exit.noGoto_ret]
    go_ret2
    exact ⟨rfl, bal (bt b1 b2) _⟩
  · have hu := hu0 k2
    subst k1
    rw [hu] at HJ
    clear hsl hu0 hu1 hu
    go_enter Try.func22, Try.ntmps22
    go_wp2
    go_step3
    go_wp2_with (first
      | (go_at_call 19; refine HW.out.mono ?_; rintro e w1 ⟨rfl, b1⟩)
      | (go_at_call 16; refine (HR.out _).mono ?_; rintro e w2 ⟨rfl, b2⟩)
      | (go_at_call 26; refine (HJ.out _ _ rfl).mono ?_; rintro e w3 ⟨rfl, rfl⟩))
    rw [Exit.noGoto_ret]
    go_ret2
    exact ⟨rfl, bal (bt b1 b2) _⟩
  · have hsl0 := hsl keep k3.symm
    clear hsl hu0 hu1
    go_enter Try.func22, Try.ntmps22
    go_wp2
    go_step3
    go_wp2_with (first
      | (go_at_call 19; refine HW.out.mono ?_; rintro e w1 ⟨rfl, b1⟩)
      | (go_at_call 16; refine (HR.out _).mono ?_; rintro e w2 ⟨rfl, b2⟩)
      | (go_at_call 26; refine (HJ.out _ _ rfl).mono ?_; rintro e w3 ⟨rfl, rfl⟩))
    rw [Exit.noGoto_ret]
    go_ret2
    exact ⟨rfl, bal (bt b1 b2) _⟩
  · have hu := hu1 k2
    subst k1
    rw [hu] at HJ
    clear hsl hu0 hu1 hu
    go_enter Try.func22, Try.ntmps22
    go_wp2
    go_step3
    go_wp2_with (first
      | (go_at_call 19; refine HW.out.mono ?_; rintro e w1 ⟨rfl, b1⟩)
      | (go_at_call 16; refine (HR.out _).mono ?_; rintro e w2 ⟨rfl, b2⟩)
      | (go_at_call 26; refine (HJ.out _ _ rfl).mono ?_; rintro e w3 ⟨rfl, rfl⟩))
    rw [Exit.noGoto_ret]
    go_ret2
    exact ⟨rfl, bal (bt b1 b2) _⟩
  · have hu := hu1 k3
    rw [hu] at HJ
    clear hsl hu0 hu1 hu
    go_enter Try.func22, Try.ntmps22
    go_wp2
    go_step3
    go_wp2_with (first
      | (go_at_call 19; refine HW.out.mono ?_; rintro e w1 ⟨rfl, b1⟩)
      | (go_at_call 16; refine (HR.out _).mono ?_; rintro e w2 ⟨rfl, b2⟩)
      | (go_at_call 26; refine (HJ.out _ _ rfl).mono ?_; rintro e w3 ⟨rfl, rfl⟩))
    rw [Exit.noGoto_ret]
    go_ret2
    exact ⟨rfl, bal (bt b1 b2) _⟩

theorem append_any (s d : ByteArray) (keep : Int) (w : World) (hs : s.size ≤ 67108864) (hd : d.size ≤ maxLen) :
    Calls Try.prog 22 #[.string s, .string d, .int .i64 keep] w fun e w' => e = .returned (.tuple #[.string (appS s d keep), .int .i64 ((appE s d : Nat) : Int)]) ∧ Below w.heap.size w w' := by
  cases h : wholeB s
  · rw [(app_torn d keep h).1, (app_torn d keep h).2]; exact append_torn s d keep w hs h
  · by_cases h2 : d.size ≤ 4096
    · by_cases h3 : s.size + (d.size + 9) ≤ 1048576
      · rw [(app_yes keep h ⟨h2, h3⟩).1, (app_yes keep h ⟨h2, h3⟩).2]; exact append_yes s d keep w hs h h2 h3
      · rw [(app_full keep h fun e => h3 e.2).1, (app_full keep h fun e => h3 e.2).2]; exact append_full s d keep w hs h h2 h3
    · rw [(app_full keep h fun e => h2 e.1).1, (app_full keep h fun e => h2 e.1).2]; exact append_long s d keep w hs hd h h2

set_option maxHeartbeats 400000 in
theorem refappend_torn (s d : ByteArray) (keep : Int) (w : World) (hs : s.size ≤ 67108864) (h : wholeB s = false) :
    Calls Try.prog 23 #[.string s, .string d, .int .i64 keep] w fun e w' => e = .returned (.tuple #[.string ⟨#[]⟩, .int .i64 31]) ∧ Below w.heap.size w w' := by
  have HW := Lib.hid (refwhole_any s w hs)
  rw [h] at HW
  go_enter Try.func23, Try.ntmps23
  go_wp2_with (go_at_call 20; refine HW.out.mono ?_; rintro e w1 ⟨rfl, b1⟩)
  go_ret2
  exact ⟨rfl, b1⟩

set_option maxHeartbeats 400000 in
theorem refappend_long (s d : ByteArray) (keep : Int) (w : World) (hs : s.size ≤ 67108864) (hd : d.size ≤ maxLen) (h : wholeB s = true) (h2 : ¬ d.size ≤ 4096) :
    Calls Try.prog 23 #[.string s, .string d, .int .i64 keep] w fun e w' => e = .returned (.tuple #[.string ⟨#[]⟩, .int .i64 30]) ∧ Below w.heap.size w w' := by
  have HW := Lib.hid (refwhole_any s w hs)
  have HR := Lib.hid (fun W : World => refrecord_no d W h2 hd)
  rw [h] at HW
  go_enter Try.func23, Try.ntmps23
  go_wp2_with (first
    | (go_at_call 20; refine HW.out.mono ?_; rintro e w1 ⟨rfl, b1⟩)
    | (go_at_call 17; refine (HR.out _).mono ?_; rintro e w2 ⟨rfl, b2⟩))
  go_ret2
  exact ⟨rfl, bt b1 b2⟩

set_option maxRecDepth 100000 in
set_option maxHeartbeats 400000 in
theorem refappend_full (s d : ByteArray) (keep : Int) (w : World) (hs : s.size ≤ 67108864) (h : wholeB s = true) (h2 : d.size ≤ 4096) (h3 : ¬ s.size + (d.size + 9) ≤ 1048576) :
    Calls Try.prog 23 #[.string s, .string d, .int .i64 keep] w fun e w' => e = .returned (.tuple #[.string ⟨#[]⟩, .int .i64 30]) ∧ Below w.heap.size w w' := by
  have HW := Lib.hid (refwhole_any s w hs)
  have HR := Lib.hid (fun W : World => refrecord_yes d W h2)
  have hz := rec_size d
  rw [h] at HW
  generalize str (recL (bl d)) = r at *
  rw [← hz] at h3
  have h4 : ((1048576 : Int) < (s.size : Int) + (r.size : Int)) = True := eq_true (by omega)
  have hr2 : r.size ≤ 4105 := by omega
  have HZ := Lib.hid hz
  clear hz
  have H3 := Lib.hid h3
  clear h3
  go_enter Try.func23, Try.ntmps23
  go_wp2_with (first
    | (go_at_call 20; refine HW.out.mono ?_; rintro e w1 ⟨rfl, b1⟩)
    | (go_at_call 17; refine (HR.out _).mono ?_; rintro e w2 ⟨rfl, b2⟩))
  go_ret2
  exact ⟨rfl, bt b1 b2⟩

set_option maxRecDepth 100000 in
set_option maxHeartbeats 400000 in
theorem refappend_yes (s d : ByteArray) (keep : Int) (w : World) (hs : s.size ≤ 67108864) (h : wholeB s = true) (h2 : d.size ≤ 4096) (h3 : s.size + (d.size + 9) ≤ 1048576) :
    Calls Try.prog 23 #[.string s, .string d, .int .i64 keep] w fun e w' => e = .returned (.tuple #[.string (s ++ (str (recL (bl d))).extract 0 (clampN keep (d.size + 9))), .int .i64 0]) ∧ Below w.heap.size w w' := by
  have HW := Lib.hid (refwhole_any s w hs)
  have HR := Lib.hid (fun W : World => refrecord_yes d W h2)
  have hz := rec_size d
  rw [h] at HW
  rw [← hz]
  rw [← hz] at h3
  generalize str (recL (bl d)) = r at *
  have hcl := clampN_le keep r.size
  have hcs : (r.extract 0 (clampN keep r.size)).size ≤ r.size := by rw [size_bl, bl_extract0, List.length_take, size_bl]; omega
  have hsl := sl_h (P := Try.prog) Try.underlying9 r (clampN keep r.size) hcl
  have hr2 : r.size ≤ 4105 := by omega
  have hu0 : clampN keep r.size = 0 → r.extract 0 (clampN keep r.size) = ByteArray.empty := fun e => by apply bl_inj; rw [e, bl_extract0]; rfl
  have hu1 : clampN keep r.size = r.size → r.extract 0 (clampN keep r.size) = r := fun e => by apply bl_inj; rw [e, bl_extract0, size_bl, List.take_length]
  have hk : (keep < 0 ∧ clampN keep r.size = 0) ∨ (keep = 0 ∧ clampN keep r.size = 0) ∨ (0 < keep ∧ keep < r.size ∧ (clampN keep r.size : Int) = keep) ∨ (keep = (r.size : Int) ∧ clampN keep r.size = r.size) ∨ (0 < keep ∧ (r.size : Int) < keep ∧ clampN keep r.size = r.size) := by
    have h9 : 9 ≤ r.size := by omega
    unfold clampN
    by_cases h1 : keep ≤ 0
    · rw [if_pos h1]; omega
    · by_cases h2 : keep < r.size
      · rw [if_neg h1, if_pos h2]; omega
      · rw [if_neg h1, if_neg h2]; omega
  have h4 : ((1048576 : Int) < (s.size : Int) + (r.size : Int)) = False := eq_false (by omega)
  have HZ := Lib.hid hz
  have h9 : 0 < (r.size : Int) := by omega
  clear hz
  have H3 := Lib.hid h3
  clear h3
  generalize r.extract 0 (clampN keep r.size) = u at *
  rcases hk with ⟨k1, k2⟩ | ⟨k1, k2⟩ | ⟨k1, k2, k3⟩ | ⟨k1, k2⟩ | ⟨k1, k2, k3⟩
  · have hu := hu0 k2
    have he0 : s ++ ByteArray.empty = s := by simp
    have kA : keep < (r.size : Int) := by omega
    have kB : keep ≤ (r.size : Int) := by omega
    have kC : keep ≤ 0 := by omega
    rw [hu, he0]
    clear hsl hu0 hu1 hu
    go_enter Try.func23, Try.ntmps23
    go_wp2_with (first
      | (go_at_call 20; refine HW.out.mono ?_; rintro e w1 ⟨rfl, b1⟩)
      | (go_at_call 17; refine (HR.out _).mono ?_; rintro e w2 ⟨rfl, b2⟩))
    go_ret2
    exact ⟨rfl, bt b1 b2⟩
  · have hu := hu0 k2
    have he0 : s ++ ByteArray.empty = s := by simp
    subst k1
    rw [hu, he0]
    clear hsl hu0 hu1 hu
    go_enter Try.func23, Try.ntmps23
    go_wp2_with (first
      | (go_at_call 20; refine HW.out.mono ?_; rintro e w1 ⟨rfl, b1⟩)
      | (go_at_call 17; refine (HR.out _).mono ?_; rintro e w2 ⟨rfl, b2⟩))
    go_ret2
    exact ⟨rfl, bt b1 b2⟩
  · have hsl0 := hsl keep k3.symm
    clear hsl hu0 hu1
    go_enter Try.func23, Try.ntmps23
    go_wp2_with (first
      | (go_at_call 20; refine HW.out.mono ?_; rintro e w1 ⟨rfl, b1⟩)
      | (go_at_call 17; refine (HR.out _).mono ?_; rintro e w2 ⟨rfl, b2⟩))
    go_ret2
    exact ⟨rfl, bt b1 b2⟩
  · have hu := hu1 k2
    subst k1
    rw [hu]
    clear hsl hu0 hu1 hu
    go_enter Try.func23, Try.ntmps23
    go_wp2_with (first
      | (go_at_call 20; refine HW.out.mono ?_; rintro e w1 ⟨rfl, b1⟩)
      | (go_at_call 17; refine (HR.out _).mono ?_; rintro e w2 ⟨rfl, b2⟩))
    go_ret2
    exact ⟨rfl, bt b1 b2⟩
  · have hu := hu1 k3
    rw [hu]
    clear hsl hu0 hu1 hu
    go_enter Try.func23, Try.ntmps23
    go_wp2_with (first
      | (go_at_call 20; refine HW.out.mono ?_; rintro e w1 ⟨rfl, b1⟩)
      | (go_at_call 17; refine (HR.out _).mono ?_; rintro e w2 ⟨rfl, b2⟩))
    go_ret2
    exact ⟨rfl, bt b1 b2⟩

theorem refappend_any (s d : ByteArray) (keep : Int) (w : World) (hs : s.size ≤ 67108864) (hd : d.size ≤ maxLen) :
    Calls Try.prog 23 #[.string s, .string d, .int .i64 keep] w fun e w' => e = .returned (.tuple #[.string (appS s d keep), .int .i64 ((appE s d : Nat) : Int)]) ∧ Below w.heap.size w w' := by
  cases h : wholeB s
  · rw [(app_torn d keep h).1, (app_torn d keep h).2]; exact refappend_torn s d keep w hs h
  · by_cases h2 : d.size ≤ 4096
    · by_cases h3 : s.size + (d.size + 9) ≤ 1048576
      · rw [(app_yes keep h ⟨h2, h3⟩).1, (app_yes keep h ⟨h2, h3⟩).2]; exact refappend_yes s d keep w hs h h2 h3
      · rw [(app_full keep h fun e => h3 e.2).1, (app_full keep h fun e => h3 e.2).2]; exact refappend_full s d keep w hs h h2 h3
    · rw [(app_full keep h fun e => h2 e.1).1, (app_full keep h fun e => h2 e.1).2]; exact refappend_long s d keep w hs hd h h2
end Go.Proofs.Ytnbdiifpldgkhaa
