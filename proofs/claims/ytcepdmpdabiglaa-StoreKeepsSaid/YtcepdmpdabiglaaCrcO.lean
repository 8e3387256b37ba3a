/-
  What Open of crc and of its reference computes. Conditions: strings are at most as long as Go allows.
-/
import Derived.Test.YtcepdmpdabiglaaCrcB
import Derived.Lib.QuietBelow
namespace Go.Proofs.Ytcepdmpdabiglaa
open Go.RowKit Go.Shelf Ros
attribute [local go_sem] Oper.semAt_some

set_option maxHeartbeats 400000 in
theorem open_short (s : ByteArray) (w : World) (hs : s.size < 4) :
    Calls Try.prog 37 #[.string s] w fun e w' => e = .returned (.tuple #[.string (str []), .bool false]) ∧ Below w.heap.size w w' := by
  go_enter Try.func37, Try.ntmps37
  go_wp2
  go_ret2
  exact ⟨rfl, Below.refl _ _⟩

set_option maxHeartbeats 400000 in
theorem open_any (s : ByteArray) (w : World) (hs : 4 ≤ s.size) (hm : s.size ≤ maxLen) (ok : Bool) (hok : (bl (s.extract (s.size - 4) s.size) == toB 4 (sum (bl (s.extract 0 (s.size - 4))))) = ok) :
    Calls Try.prog 37 #[.string s] w fun e w' => e = .returned (.tuple #[.string (if ok = true then s.extract 0 (s.size - 4) else str []), .bool ok]) ∧ Below w.heap.size w w' := by
  unfold maxLen at hm
  have hz : (s.extract 0 (s.size - 4)).size ≤ maxLen := by rw [size_bl, bl_extract0, List.length_take]; unfold maxLen; omega
  have c1 : ∀ d os, _ := fun d os => Calls.regrown_of (sum_any (s.extract 0 (s.size - 4)) (Sort.grow (redrawn w d) os) hz)
  have c2 : ∀ d os, _ := fun d os => Calls.regrown_of (put_any (sum (bl (s.extract 0 (s.size - 4)))) (Sort.grow (redrawn w d) os) (sum_lt _))
  have HO := Lib.hid hok
  clear hok hz
  go_enter Try.func37, Try.ntmps37
  go_wp2_with fail
  refine wp_region_quiet_below (by kernel_rfl) (by kernel_rfl) ?_
  repeat (quiet_step (first | exact c1 _ _ | exact c2 _ _))
  refine wpQuiet_nil ?_
  intro _ hw'
  obtain ⟨⟨dq, osq⟩, hw''⟩ := hw'
  subst hw''
  have HT : ((s.extract (s.size - 4) s.size).toList == (str (toB 4 (sum (bl (s.extract 0 (s.size - 4)))))).toList) = ok := by rw [toList_bl, toList_bl, bl_str]; exact HO.out
  rw [HT]
  clear HT HO c1 c2
  cases ok
  all_goals
    go_wp2
    go_ret2
    exact ⟨rfl, below_regrown w dq osq⟩

end Go.Proofs.Ytcepdmpdabiglaa
