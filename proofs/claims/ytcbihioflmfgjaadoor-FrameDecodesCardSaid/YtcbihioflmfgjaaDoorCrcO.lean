/-
  What Open of crc and of its reference computes. Conditions: strings are at most as long as Go allows.
-/
import Derived.Test.YtcbihioflmfgjaaDoorCrcB
import Derived.Lib.QuietBelow
namespace Go.Proofs.YtcbihioflmfgjaaDoor
open Go.RowKit Go.Shelf Ros
attribute [local go_sem] Oper.semAt_some

set_option maxHeartbeats 400000 in
theorem open_short (s : ByteArray) (w : World) (hs : s.size < 4) :
    Calls Tryd.prog 31 #[.string s] w fun e w' => e = .returned (.tuple #[.string (str []), .bool false]) ∧ Below w.heap.size w w' := by
  go_enter Tryd.func31, Tryd.ntmps31
  go_wp2
  go_ret2
  exact ⟨rfl, Below.refl _ _⟩

set_option maxHeartbeats 400000 in
theorem open_any (s : ByteArray) (w : World) (hs : 4 ≤ s.size) (hm : s.size ≤ maxLen) (ok : Bool) (hok : (bl (s.extract (s.size - 4) s.size) == toB 4 (sum (bl (s.extract 0 (s.size - 4))))) = ok) :
    Calls Tryd.prog 31 #[.string s] w fun e w' => e = .returned (.tuple #[.string (if ok = true then s.extract 0 (s.size - 4) else str []), .bool ok]) ∧ Below w.heap.size w w' := by
  unfold maxLen at hm
  have hz : (s.extract 0 (s.size - 4)).size ≤ maxLen := by rw [size_bl, bl_extract0, List.length_take]; unfold maxLen; omega
  have c1 : ∀ d os, _ := fun d os => Calls.regrown_of (sum_any (s.extract 0 (s.size - 4)) (Sort.grow (redrawn w d) os) hz)
  have c2 : ∀ d os, _ := fun d os => Calls.regrown_of (put_any (sum (bl (s.extract 0 (s.size - 4)))) (Sort.grow (redrawn w d) os) (sum_lt _))
  have HO := Lib.hid hok
  clear hok hz
  go_enter Tryd.func31, Tryd.ntmps31
  go_wp2_with fail
  refine wp_region_quiet_below (by kernel_rfl) (by kernel_rfl) ?_
  repeat (quiet_step (first | exact c1 _ _ | exact c2 _ _))
  refine wpQuiet_nil ?_
  intro _ hw'
  obtain ⟨⟨dq, osq⟩, hw''⟩ := hw'
  subst hw''
  have HT : ((s.extract (s.size - 4) s.size).toList == (str (toB 4 (sum (bl (s.extract 0 (s.size - 4)))))).toList) = ok := by rw [toList_bl, toList_bl, bl_str]; exact HO.out
  rw [HT]
  clear HT HO c1 c2
  cases ok
  all_goals
    go_wp2
    go_ret2
    exact ⟨rfl, below_regrown w dq osq⟩

set_option maxHeartbeats 400000 in
theorem refopen_short (s : ByteArray) (w : World) (hs : s.size < 4) :
    Calls Tryd.prog 34 #[.string s] w fun e w' => e = .returned (.tuple #[.string (str []), .bool false]) ∧ Below w.heap.size w w' := by
  go_enter Tryd.func34, Tryd.ntmps34
  go_wp2
  go_ret2
  exact ⟨rfl, Below.refl _ _⟩

set_option maxHeartbeats 400000 in
theorem refopen_any (s : ByteArray) (w : World) (hs : 4 ≤ s.size) (hm : s.size ≤ maxLen) (ok : Bool) (hok : (bl (s.extract (s.size - 4) s.size) == toB 4 (sum (bl (s.extract 0 (s.size - 4))))) = ok) :
    Calls Tryd.prog 34 #[.string s] w fun e w' => e = .returned (.tuple #[.string (if ok = true then s.extract 0 (s.size - 4) else str []), .bool ok]) ∧ Below w.heap.size w w' := by
  unfold maxLen at hm
  have hz : (s.extract 0 (s.size - 4)).size ≤ maxLen := by rw [size_bl, bl_extract0, List.length_take]; unfold maxLen; omega
  have hz4 : (s.extract (s.size - 4) s.size).size = 4 := by rw [size_bl, bl_extract, List.length_drop, List.length_take, ← size_bl]; omega
  have HC := Lib.hid (eq_put (bl (s.extract (s.size - 4) s.size)) (sum (bl (s.extract 0 (s.size - 4)))) (by rw [← size_bl]; exact hz4) (sum_lt _))
  have HO := Lib.hid hok
  have HZ := Lib.hid hz
  have HZ4 := Lib.hid hz4
  clear hok hz hz4
  go_enter Tryd.func34, Tryd.ntmps34
  go_wp2_with fail
  refine (refget_yes (s.extract (s.size - 4) s.size) _ HZ4.out).mono ?_
  rintro e w1 ⟨rfl, hb1⟩
  go_wp2_with fail
  have hsm := refsum_any (s.extract 0 (s.size - 4)) w1 HZ.out
  refine hsm.mono ?_
  rintro e w2 ⟨he, hw⟩
  subst he
  subst hw
  have HPQ := Lib.hid (HC.out.symm.trans HO.out)
  clear hsm HC HO
  generalize le (bl (s.extract (s.size - 4) s.size)) = p at *
  generalize sum (bl (s.extract 0 (s.size - 4))) = q at *
  have hpq : ((p : Int) != (q : Int)) = !ok := by rw [← HPQ.out, Bool.eq_iff_iff]; simp [bne_iff_ne]; omega
  clear HPQ
  cases ok
  all_goals
    simp only [Bool.not_true, Bool.not_false] at hpq
    go_wp2
    go_ret2
    exact ⟨rfl, hb1⟩
end Go.Proofs.YtcbihioflmfgjaaDoor
