/-
  The version that two agree on. Conditions: numbers are as the program's types allow.
-/
import Derived.Test.YtcbihioflmfgjaaDoorBox
import Derived.Test.YtcbihioflmfgjaaDoorMap
import Derived.WideKeyPair
import Derived.WideKeyArr
import Derived.BigRegion
import Derived.Shelf.Abstract
import Derived.Lib.Hide
import Derived.Test.YtcbihioflmfgjaaDoorIter
import Derived.Test.YtcbihioflmfgjaaDoorChecked
namespace Ros
open Go Go.RowKit Go.Maps Go.ChangeMaps
theorem i64_wf' {i : Int} (h : -9223372036854775808 ≤ i ∧ i ≤ 9223372036854775807) : (Lit.int .i64 i).wf = true := by
  simp [Lit.wf, IntKind.min, IntKind.max, IntKind.signed, IntKind.bits]; omega
def ekP (x : Int × Int) : Value := .agg #[.int .i64 x.1, .int .i64 x.2]
theorem ekP_inj : ∀ x y, ekP x = ekP y → x = y := fun x y h => by
  obtain ⟨a, b⟩ := x
  obtain ⟨c, d⟩ := y
  unfold ekP at h
  simp at h
  rw [h.1, h.2]
/-- The versions that two agree on: which, and whether. -/
def agreeF : Int × Int → Option Value := fun y => if y = (2, 2) then some (.int .i64 2) else if y = (2, 1) then some (.int .i64 1) else if y = (1, 2) then some (.int .i64 1) else if y = (1, 1) then some (.int .i64 1) else none
theorem wires5 (x : Int × Int) : x = (1, 1) ∨ x = (1, 2) ∨ x = (2, 1) ∨ x = (2, 2) ∨ (¬ x = (1, 1) ∧ ¬ x = (1, 2) ∧ ¬ x = (2, 1) ∧ ¬ x = (2, 2)) := by
  by_cases e1 : x = (1, 1)
  · exact .inl e1
  by_cases e2 : x = (1, 2)
  · exact .inr (.inl e2)
  by_cases e3 : x = (2, 1)
  · exact .inr (.inr (.inl e3))
  by_cases e4 : x = (2, 2)
  · exact .inr (.inr (.inr (.inl e4)))
  exact .inr (.inr (.inr (.inr ⟨e1, e2, e3, e4⟩)))
def isW (a : Int) : Prop := a = 1 ∨ a = 2
instance (a : Int) : Decidable (isW a) := inferInstanceAs (Decidable (_ ∨ _))
def agreeN (a b : Int) : Int := if isW a ∧ isW b then min a b else 0
def agreeE (a b : Int) : Int := if isW a ∧ isW b then 0 else 22
theorem agreeF_yes {a b : Int} (h : isW a ∧ isW b) : agreeF (a, b) = some (.int .i64 (agreeN a b)) ∧ agreeE a b = 0 := by
  obtain ⟨rfl | rfl, rfl | rfl⟩ := h <;> exact ⟨rfl, rfl⟩
theorem agreeF_no {a b : Int} (h : ¬ (isW a ∧ isW b)) : agreeF (a, b) = none ∧ agreeE a b = 22 ∧ agreeN a b = 0 := by
  refine ⟨?_, if_neg h, if_neg h⟩
  unfold agreeF
  rw [if_neg (fun e => h (by cases e; exact ⟨.inr rfl, .inr rfl⟩)), if_neg (fun e => h (by cases e; exact ⟨.inr rfl, .inl rfl⟩)), if_neg (fun e => h (by cases e; exact ⟨.inl rfl, .inr rfl⟩)), if_neg (fun e => h (by cases e; exact ⟨.inl rfl, .inl rfl⟩))]
end Ros
namespace Go.Proofs.YtcbihioflmfgjaaDoor
open Go.RowKit Go.Shelf Ros Go.Maps Go.WideMaps
attribute [local go_sem] Oper.semAt_some
theorem pair_arr : ArrKey Tryd.prog 62 3 2 := ⟨Tryd.underlying62, by kernel_rfl, by kernel_rfl, by kernel_rfl⟩
theorem pair_keyed : Keyed Tryd.prog 62 := Keyed.of_law pair_arr.law
theorem pair_size : ∃ m, Tryd.prog.types.size = m + 1 := ⟨Tryd.prog.types.size - 1, by kernel_rfl⟩
theorem pair_key {a b : Int} (ha : -9223372036854775808 ≤ a ∧ a ≤ 9223372036854775807) (hb : -9223372036854775808 ≤ b ∧ b ≤ 9223372036854775807) : ∃ kl, keyOf Tryd.prog 62 (ekP (a, b)) = some kl :=
  ⟨_, keyOf_pair pair_arr Tryd.underlying3 pair_size (i64_wf' ha) (i64_wf' hb)⟩
theorem pair_zero (w : World) : (zeroValue 3).run Tryd.prog w = .ok (.int .i64 0) w := by kernel_rfl
set_option maxHeartbeats 2000000 in
theorem agreed_any (w : World) :
    Calls Tryd.prog 36 #[] w fun e w' => e = .returned (.map (some w.heap.size)) ∧ Mp w' Tryd.prog 62 w.heap.size 4 ekP agreeF ∧ Below w.heap.size w w' := by
  have hmm := @run_makeMap Tryd.prog
  have m0 := (Mp.made w Tryd.prog 62 ekP).drew
  have b0 := ((Below.refl _ w).alloc (Nat.le_refl _) (.map #[] 0)).drew
  have hmu := Tryd.underlying60
  obtain ⟨k1, e1⟩ := pair_key (a := 1) (b := 1) (by omega) (by omega)
  obtain ⟨k2, e2⟩ := pair_key (a := 1) (b := 2) (by omega) (by omega)
  obtain ⟨k3, e3⟩ := pair_key (a := 2) (b := 1) (by omega) (by omega)
  obtain ⟨k4, e4⟩ := pair_key (a := 2) (b := 2) (by omega) (by omega)
  obtain ⟨w1, r1, m1, g1⟩ := m0.store_ pair_keyed ekP_inj hmu (by decide) e1 (.int .i64 1)
  have b1 := b0.grown g1 b0.size (fun k e => by cases e; exact Nat.le_refl _)
  obtain ⟨w2, r2, m2, g2⟩ := m0.store_ pair_keyed ekP_inj hmu (by decide) e2 (.int .i64 1)
  have b2 := b0.grown g2 b0.size (fun k e => by cases e; exact Nat.le_refl _)
  obtain ⟨w3, r3, m3, g3⟩ := m0.store_ pair_keyed ekP_inj hmu (by decide) e3 (.int .i64 1)
  have b3 := b0.grown g3 b0.size (fun k e => by cases e; exact Nat.le_refl _)
  obtain ⟨w4, r4, m4, g4⟩ := m0.store_ pair_keyed ekP_inj hmu (by decide) e4 (.int .i64 2)
  have b4 := b0.grown g4 b0.size (fun k e => by cases e; exact Nat.le_refl _)
  obtain ⟨w12, r12, m12, g12⟩ := m1.store_ pair_keyed ekP_inj hmu (by decide) e2 (.int .i64 1)
  have b12 := b1.grown g12 b1.size (fun k e => by cases e; exact Nat.le_refl _)
  obtain ⟨w13, r13, m13, g13⟩ := m1.store_ pair_keyed ekP_inj hmu (by decide) e3 (.int .i64 1)
  have b13 := b1.grown g13 b1.size (fun k e => by cases e; exact Nat.le_refl _)
  obtain ⟨w14, r14, m14, g14⟩ := m1.store_ pair_keyed ekP_inj hmu (by decide) e4 (.int .i64 2)
  have b14 := b1.grown g14 b1.size (fun k e => by cases e; exact Nat.le_refl _)
  obtain ⟨w21, r21, m21, g21⟩ := m2.store_ pair_keyed ekP_inj hmu (by decide) e1 (.int .i64 1)
  have b21 := b2.grown g21 b2.size (fun k e => by cases e; exact Nat.le_refl _)
  obtain ⟨w23, r23, m23, g23⟩ := m2.store_ pair_keyed ekP_inj hmu (by decide) e3 (.int .i64 1)
  have b23 := b2.grown g23 b2.size (fun k e => by cases e; exact Nat.le_refl _)
  obtain ⟨w24, r24, m24, g24⟩ := m2.store_ pair_keyed ekP_inj hmu (by decide) e4 (.int .i64 2)
  have b24 := b2.grown g24 b2.size (fun k e => by cases e; exact Nat.le_refl _)
  obtain ⟨w31, r31, m31, g31⟩ := m3.store_ pair_keyed ekP_inj hmu (by decide) e1 (.int .i64 1)
  have b31 := b3.grown g31 b3.size (fun k e => by cases e; exact Nat.le_refl _)
  obtain ⟨w32, r32, m32, g32⟩ := m3.store_ pair_keyed ekP_inj hmu (by decide) e2 (.int .i64 1)
  have b32 := b3.grown g32 b3.size (fun k e => by cases e; exact Nat.le_refl _)
  obtain ⟨w34, r34, m34, g34⟩ := m3.store_ pair_keyed ekP_inj hmu (by decide) e4 (.int .i64 2)
  have b34 := b3.grown g34 b3.size (fun k e => by cases e; exact Nat.le_refl _)
  obtain ⟨w41, r41, m41, g41⟩ := m4.store_ pair_keyed ekP_inj hmu (by decide) e1 (.int .i64 1)
  have b41 := b4.grown g41 b4.size (fun k e => by cases e; exact Nat.le_refl _)
  obtain ⟨w42, r42, m42, g42⟩ := m4.store_ pair_keyed ekP_inj hmu (by decide) e2 (.int .i64 1)
  have b42 := b4.grown g42 b4.size (fun k e => by cases e; exact Nat.le_refl _)
  obtain ⟨w43, r43, m43, g43⟩ := m4.store_ pair_keyed ekP_inj hmu (by decide) e3 (.int .i64 1)
  have b43 := b4.grown g43 b4.size (fun k e => by cases e; exact Nat.le_refl _)
  obtain ⟨w123, r123, m123, g123⟩ := m12.store_ pair_keyed ekP_inj hmu (by decide) e3 (.int .i64 1)
  have b123 := b12.grown g123 b12.size (fun k e => by cases e; exact Nat.le_refl _)
  obtain ⟨w124, r124, m124, g124⟩ := m12.store_ pair_keyed ekP_inj hmu (by decide) e4 (.int .i64 2)
  have b124 := b12.grown g124 b12.size (fun k e => by cases e; exact Nat.le_refl _)
  obtain ⟨w132, r132, m132, g132⟩ := m13.store_ pair_keyed ekP_inj hmu (by decide) e2 (.int .i64 1)
  have b132 := b13.grown g132 b13.size (fun k e => by cases e; exact Nat.le_refl _)
  obtain ⟨w134, r134, m134, g134⟩ := m13.store_ pair_keyed ekP_inj hmu (by decide) e4 (.int .i64 2)
  have b134 := b13.grown g134 b13.size (fun k e => by cases e; exact Nat.le_refl _)
  obtain ⟨w142, r142, m142, g142⟩ := m14.store_ pair_keyed ekP_inj hmu (by decide) e2 (.int .i64 1)
  have b142 := b14.grown g142 b14.size (fun k e => by cases e; exact Nat.le_refl _)
  obtain ⟨w143, r143, m143, g143⟩ := m14.store_ pair_keyed ekP_inj hmu (by decide) e3 (.int .i64 1)
  have b143 := b14.grown g143 b14.size (fun k e => by cases e; exact Nat.le_refl _)
  obtain ⟨w213, r213, m213, g213⟩ := m21.store_ pair_keyed ekP_inj hmu (by decide) e3 (.int .i64 1)
  have b213 := b21.grown g213 b21.size (fun k e => by cases e; exact Nat.le_refl _)
  obtain ⟨w214, r214, m214, g214⟩ := m21.store_ pair_keyed ekP_inj hmu (by decide) e4 (.int .i64 2)
  have b214 := b21.grown g214 b21.size (fun k e => by cases e; exact Nat.le_refl _)
  obtain ⟨w231, r231, m231, g231⟩ := m23.store_ pair_keyed ekP_inj hmu (by decide) e1 (.int .i64 1)
  have b231 := b23.grown g231 b23.size (fun k e => by cases e; exact Nat.le_refl _)
  obtain ⟨w234, r234, m234, g234⟩ := m23.store_ pair_keyed ekP_inj hmu (by decide) e4 (.int .i64 2)
  have b234 := b23.grown g234 b23.size (fun k e => by cases e; exact Nat.le_refl _)
  obtain ⟨w241, r241, m241, g241⟩ := m24.store_ pair_keyed ekP_inj hmu (by decide) e1 (.int .i64 1)
  have b241 := b24.grown g241 b24.size (fun k e => by cases e; exact Nat.le_refl _)
  obtain ⟨w243, r243, m243, g243⟩ := m24.store_ pair_keyed ekP_inj hmu (by decide) e3 (.int .i64 1)
  have b243 := b24.grown g243 b24.size (fun k e => by cases e; exact Nat.le_refl _)
  obtain ⟨w312, r312, m312, g312⟩ := m31.store_ pair_keyed ekP_inj hmu (by decide) e2 (.int .i64 1)
  have b312 := b31.grown g312 b31.size (fun k e => by cases e; exact Nat.le_refl _)
  obtain ⟨w314, r314, m314, g314⟩ := m31.store_ pair_keyed ekP_inj hmu (by decide) e4 (.int .i64 2)
  have b314 := b31.grown g314 b31.size (fun k e => by cases e; exact Nat.le_refl _)
  obtain ⟨w321, r321, m321, g321⟩ := m32.store_ pair_keyed ekP_inj hmu (by decide) e1 (.int .i64 1)
  have b321 := b32.grown g321 b32.size (fun k e => by cases e; exact Nat.le_refl _)
  obtain ⟨w324, r324, m324, g324⟩ := m32.store_ pair_keyed ekP_inj hmu (by decide) e4 (.int .i64 2)
  have b324 := b32.grown g324 b32.size (fun k e => by cases e; exact Nat.le_refl _)
  obtain ⟨w341, r341, m341, g341⟩ := m34.store_ pair_keyed ekP_inj hmu (by decide) e1 (.int .i64 1)
  have b341 := b34.grown g341 b34.size (fun k e => by cases e; exact Nat.le_refl _)
  obtain ⟨w342, r342, m342, g342⟩ := m34.store_ pair_keyed ekP_inj hmu (by decide) e2 (.int .i64 1)
  have b342 := b34.grown g342 b34.size (fun k e => by cases e; exact Nat.le_refl _)
  obtain ⟨w412, r412, m412, g412⟩ := m41.store_ pair_keyed ekP_inj hmu (by decide) e2 (.int .i64 1)
  have b412 := b41.grown g412 b41.size (fun k e => by cases e; exact Nat.le_refl _)
  obtain ⟨w413, r413, m413, g413⟩ := m41.store_ pair_keyed ekP_inj hmu (by decide) e3 (.int .i64 1)
  have b413 := b41.grown g413 b41.size (fun k e => by cases e; exact Nat.le_refl _)
  obtain ⟨w421, r421, m421, g421⟩ := m42.store_ pair_keyed ekP_inj hmu (by decide) e1 (.int .i64 1)
  have b421 := b42.grown g421 b42.size (fun k e => by cases e; exact Nat.le_refl _)
  obtain ⟨w423, r423, m423, g423⟩ := m42.store_ pair_keyed ekP_inj hmu (by decide) e3 (.int .i64 1)
  have b423 := b42.grown g423 b42.size (fun k e => by cases e; exact Nat.le_refl _)
  obtain ⟨w431, r431, m431, g431⟩ := m43.store_ pair_keyed ekP_inj hmu (by decide) e1 (.int .i64 1)
  have b431 := b43.grown g431 b43.size (fun k e => by cases e; exact Nat.le_refl _)
  obtain ⟨w432, r432, m432, g432⟩ := m43.store_ pair_keyed ekP_inj hmu (by decide) e2 (.int .i64 1)
  have b432 := b43.grown g432 b43.size (fun k e => by cases e; exact Nat.le_refl _)
  obtain ⟨w1234, r1234, m1234, g1234⟩ := m123.store_ pair_keyed ekP_inj hmu (by decide) e4 (.int .i64 2)
  have b1234 := b123.grown g1234 b123.size (fun k e => by cases e; exact Nat.le_refl _)
  have H1234 := Lib.hid (And.intro (m1234.congr (g := agreeF) (m := 4) (fun x => by rcases wires5 x with rfl | rfl | rfl | rfl | ⟨h1, h2, h3, h4⟩ <;> first | rfl | simp [agreeF, h1, h2, h3, h4]) (by decide)) b1234)
  obtain ⟨w1243, r1243, m1243, g1243⟩ := m124.store_ pair_keyed ekP_inj hmu (by decide) e3 (.int .i64 1)
  have b1243 := b124.grown g1243 b124.size (fun k e => by cases e; exact Nat.le_refl _)
  have H1243 := Lib.hid (And.intro (m1243.congr (g := agreeF) (m := 4) (fun x => by rcases wires5 x with rfl | rfl | rfl | rfl | ⟨h1, h2, h3, h4⟩ <;> first | rfl | simp [agreeF, h1, h2, h3, h4]) (by decide)) b1243)
  obtain ⟨w1324, r1324, m1324, g1324⟩ := m132.store_ pair_keyed ekP_inj hmu (by decide) e4 (.int .i64 2)
  have b1324 := b132.grown g1324 b132.size (fun k e => by cases e; exact Nat.le_refl _)
  have H1324 := Lib.hid (And.intro (m1324.congr (g := agreeF) (m := 4) (fun x => by rcases wires5 x with rfl | rfl | rfl | rfl | ⟨h1, h2, h3, h4⟩ <;> first | rfl | simp [agreeF, h1, h2, h3, h4]) (by decide)) b1324)
  obtain ⟨w1342, r1342, m1342, g1342⟩ := m134.store_ pair_keyed ekP_inj hmu (by decide) e2 (.int .i64 1)
  have b1342 := b134.grown g1342 b134.size (fun k e => by cases e; exact Nat.le_refl _)
  have H1342 := Lib.hid (And.intro (m1342.congr (g := agreeF) (m := 4) (fun x => by rcases wires5 x with rfl | rfl | rfl | rfl | ⟨h1, h2, h3, h4⟩ <;> first | rfl | simp [agreeF, h1, h2, h3, h4]) (by decide)) b1342)
  obtain ⟨w1423, r1423, m1423, g1423⟩ := m142.store_ pair_keyed ekP_inj hmu (by decide) e3 (.int .i64 1)
  have b1423 := b142.grown g1423 b142.size (fun k e => by cases e; exact Nat.le_refl _)
  have H1423 := Lib.hid (And.intro (m1423.congr (g := agreeF) (m := 4) (fun x => by rcases wires5 x with rfl | rfl | rfl | rfl | ⟨h1, h2, h3, h4⟩ <;> first | rfl | simp [agreeF, h1, h2, h3, h4]) (by decide)) b1423)
  obtain ⟨w1432, r1432, m1432, g1432⟩ := m143.store_ pair_keyed ekP_inj hmu (by decide) e2 (.int .i64 1)
  have b1432 := b143.grown g1432 b143.size (fun k e => by cases e; exact Nat.le_refl _)
  have H1432 := Lib.hid (And.intro (m1432.congr (g := agreeF) (m := 4) (fun x => by rcases wires5 x with rfl | rfl | rfl | rfl | ⟨h1, h2, h3, h4⟩ <;> first | rfl | simp [agreeF, h1, h2, h3, h4]) (by decide)) b1432)
  obtain ⟨w2134, r2134, m2134, g2134⟩ := m213.store_ pair_keyed ekP_inj hmu (by decide) e4 (.int .i64 2)
  have b2134 := b213.grown g2134 b213.size (fun k e => by cases e; exact Nat.le_refl _)
  have H2134 := Lib.hid (And.intro (m2134.congr (g := agreeF) (m := 4) (fun x => by rcases wires5 x with rfl | rfl | rfl | rfl | ⟨h1, h2, h3, h4⟩ <;> first | rfl | simp [agreeF, h1, h2, h3, h4]) (by decide)) b2134)
  obtain ⟨w2143, r2143, m2143, g2143⟩ := m214.store_ pair_keyed ekP_inj hmu (by decide) e3 (.int .i64 1)
  have b2143 := b214.grown g2143 b214.size (fun k e => by cases e; exact Nat.le_refl _)
  have H2143 := Lib.hid (And.intro (m2143.congr (g := agreeF) (m := 4) (fun x => by rcases wires5 x with rfl | rfl | rfl | rfl | ⟨h1, h2, h3, h4⟩ <;> first | rfl | simp [agreeF, h1, h2, h3, h4]) (by decide)) b2143)
  obtain ⟨w2314, r2314, m2314, g2314⟩ := m231.store_ pair_keyed ekP_inj hmu (by decide) e4 (.int .i64 2)
  have b2314 := b231.grown g2314 b231.size (fun k e => by cases e; exact Nat.le_refl _)
  have H2314 := Lib.hid (And.intro (m2314.congr (g := agreeF) (m := 4) (fun x => by rcases wires5 x with rfl | rfl | rfl | rfl | ⟨h1, h2, h3, h4⟩ <;> first | rfl | simp [agreeF, h1, h2, h3, h4]) (by decide)) b2314)
  obtain ⟨w2341, r2341, m2341, g2341⟩ := m234.store_ pair_keyed ekP_inj hmu (by decide) e1 (.int .i64 1)
  have b2341 := b234.grown g2341 b234.size (fun k e => by cases e; exact Nat.le_refl _)
  have H2341 := Lib.hid (And.intro (m2341.congr (g := agreeF) (m := 4) (fun x => by rcases wires5 x with rfl | rfl | rfl | rfl | ⟨h1, h2, h3, h4⟩ <;> first | rfl | simp [agreeF, h1, h2, h3, h4]) (by decide)) b2341)
  obtain ⟨w2413, r2413, m2413, g2413⟩ := m241.store_ pair_keyed ekP_inj hmu (by decide) e3 (.int .i64 1)
  have b2413 := b241.grown g2413 b241.size (fun k e => by cases e; exact Nat.le_refl _)
  have H2413 := Lib.hid (And.intro (m2413.congr (g := agreeF) (m := 4) (fun x => by rcases wires5 x with rfl | rfl | rfl | rfl | ⟨h1, h2, h3, h4⟩ <;> first | rfl | simp [agreeF, h1, h2, h3, h4]) (by decide)) b2413)
  obtain ⟨w2431, r2431, m2431, g2431⟩ := m243.store_ pair_keyed ekP_inj hmu (by decide) e1 (.int .i64 1)
  have b2431 := b243.grown g2431 b243.size (fun k e => by cases e; exact Nat.le_refl _)
  have H2431 := Lib.hid (And.intro (m2431.congr (g := agreeF) (m := 4) (fun x => by rcases wires5 x with rfl | rfl | rfl | rfl | ⟨h1, h2, h3, h4⟩ <;> first | rfl | simp [agreeF, h1, h2, h3, h4]) (by decide)) b2431)
  obtain ⟨w3124, r3124, m3124, g3124⟩ := m312.store_ pair_keyed ekP_inj hmu (by decide) e4 (.int .i64 2)
  have b3124 := b312.grown g3124 b312.size (fun k e => by cases e; exact Nat.le_refl _)
  have H3124 := Lib.hid (And.intro (m3124.congr (g := agreeF) (m := 4) (fun x => by rcases wires5 x with rfl | rfl | rfl | rfl | ⟨h1, h2, h3, h4⟩ <;> first | rfl | simp [agreeF, h1, h2, h3, h4]) (by decide)) b3124)
  obtain ⟨w3142, r3142, m3142, g3142⟩ := m314.store_ pair_keyed ekP_inj hmu (by decide) e2 (.int .i64 1)
  have b3142 := b314.grown g3142 b314.size (fun k e => by cases e; exact Nat.le_refl _)
  have H3142 := Lib.hid (And.intro (m3142.congr (g := agreeF) (m := 4) (fun x => by rcases wires5 x with rfl | rfl | rfl | rfl | ⟨h1, h2, h3, h4⟩ <;> first | rfl | simp [agreeF, h1, h2, h3, h4]) (by decide)) b3142)
  obtain ⟨w3214, r3214, m3214, g3214⟩ := m321.store_ pair_keyed ekP_inj hmu (by decide) e4 (.int .i64 2)
  have b3214 := b321.grown g3214 b321.size (fun k e => by cases e; exact Nat.le_refl _)
  have H3214 := Lib.hid (And.intro (m3214.congr (g := agreeF) (m := 4) (fun x => by rcases wires5 x with rfl | rfl | rfl | rfl | ⟨h1, h2, h3, h4⟩ <;> first | rfl | simp [agreeF, h1, h2, h3, h4]) (by decide)) b3214)
  obtain ⟨w3241, r3241, m3241, g3241⟩ := m324.store_ pair_keyed ekP_inj hmu (by decide) e1 (.int .i64 1)
  have b3241 := b324.grown g3241 b324.size (fun k e => by cases e; exact Nat.le_refl _)
  have H3241 := Lib.hid (And.intro (m3241.congr (g := agreeF) (m := 4) (fun x => by rcases wires5 x with rfl | rfl | rfl | rfl | ⟨h1, h2, h3, h4⟩ <;> first | rfl | simp [agreeF, h1, h2, h3, h4]) (by decide)) b3241)
  obtain ⟨w3412, r3412, m3412, g3412⟩ := m341.store_ pair_keyed ekP_inj hmu (by decide) e2 (.int .i64 1)
  have b3412 := b341.grown g3412 b341.size (fun k e => by cases e; exact Nat.le_refl _)
  have H3412 := Lib.hid (And.intro (m3412.congr (g := agreeF) (m := 4) (fun x => by rcases wires5 x with rfl | rfl | rfl | rfl | ⟨h1, h2, h3, h4⟩ <;> first | rfl | simp [agreeF, h1, h2, h3, h4]) (by decide)) b3412)
  obtain ⟨w3421, r3421, m3421, g3421⟩ := m342.store_ pair_keyed ekP_inj hmu (by decide) e1 (.int .i64 1)
  have b3421 := b342.grown g3421 b342.size (fun k e => by cases e; exact Nat.le_refl _)
  have H3421 := Lib.hid (And.intro (m3421.congr (g := agreeF) (m := 4) (fun x => by rcases wires5 x with rfl | rfl | rfl | rfl | ⟨h1, h2, h3, h4⟩ <;> first | rfl | simp [agreeF, h1, h2, h3, h4]) (by decide)) b3421)
  obtain ⟨w4123, r4123, m4123, g4123⟩ := m412.store_ pair_keyed ekP_inj hmu (by decide) e3 (.int .i64 1)
  have b4123 := b412.grown g4123 b412.size (fun k e => by cases e; exact Nat.le_refl _)
  have H4123 := Lib.hid (And.intro (m4123.congr (g := agreeF) (m := 4) (fun x => by rcases wires5 x with rfl | rfl | rfl | rfl | ⟨h1, h2, h3, h4⟩ <;> first | rfl | simp [agreeF, h1, h2, h3, h4]) (by decide)) b4123)
  obtain ⟨w4132, r4132, m4132, g4132⟩ := m413.store_ pair_keyed ekP_inj hmu (by decide) e2 (.int .i64 1)
  have b4132 := b413.grown g4132 b413.size (fun k e => by cases e; exact Nat.le_refl _)
  have H4132 := Lib.hid (And.intro (m4132.congr (g := agreeF) (m := 4) (fun x => by rcases wires5 x with rfl | rfl | rfl | rfl | ⟨h1, h2, h3, h4⟩ <;> first | rfl | simp [agreeF, h1, h2, h3, h4]) (by decide)) b4132)
  obtain ⟨w4213, r4213, m4213, g4213⟩ := m421.store_ pair_keyed ekP_inj hmu (by decide) e3 (.int .i64 1)
  have b4213 := b421.grown g4213 b421.size (fun k e => by cases e; exact Nat.le_refl _)
  have H4213 := Lib.hid (And.intro (m4213.congr (g := agreeF) (m := 4) (fun x => by rcases wires5 x with rfl | rfl | rfl | rfl | ⟨h1, h2, h3, h4⟩ <;> first | rfl | simp [agreeF, h1, h2, h3, h4]) (by decide)) b4213)
  obtain ⟨w4231, r4231, m4231, g4231⟩ := m423.store_ pair_keyed ekP_inj hmu (by decide) e1 (.int .i64 1)
  have b4231 := b423.grown g4231 b423.size (fun k e => by cases e; exact Nat.le_refl _)
  have H4231 := Lib.hid (And.intro (m4231.congr (g := agreeF) (m := 4) (fun x => by rcases wires5 x with rfl | rfl | rfl | rfl | ⟨h1, h2, h3, h4⟩ <;> first | rfl | simp [agreeF, h1, h2, h3, h4]) (by decide)) b4231)
  obtain ⟨w4312, r4312, m4312, g4312⟩ := m431.store_ pair_keyed ekP_inj hmu (by decide) e2 (.int .i64 1)
  have b4312 := b431.grown g4312 b431.size (fun k e => by cases e; exact Nat.le_refl _)
  have H4312 := Lib.hid (And.intro (m4312.congr (g := agreeF) (m := 4) (fun x => by rcases wires5 x with rfl | rfl | rfl | rfl | ⟨h1, h2, h3, h4⟩ <;> first | rfl | simp [agreeF, h1, h2, h3, h4]) (by decide)) b4312)
  obtain ⟨w4321, r4321, m4321, g4321⟩ := m432.store_ pair_keyed ekP_inj hmu (by decide) e1 (.int .i64 1)
  have b4321 := b432.grown g4321 b432.size (fun k e => by cases e; exact Nat.le_refl _)
  have H4321 := Lib.hid (And.intro (m4321.congr (g := agreeF) (m := 4) (fun x => by rcases wires5 x with rfl | rfl | rfl | rfl | ⟨h1, h2, h3, h4⟩ <;> first | rfl | simp [agreeF, h1, h2, h3, h4]) (by decide)) b4321)
  clear m0 b0 hmu e1 e2 e3 e4 m4321 g4321 b4321 m4312 g4312 b4312 m4231 g4231 b4231 m4213 g4213 b4213 m4132 g4132 b4132 m4123 g4123 b4123 m3421 g3421 b3421 m3412 g3412 b3412 m3241 g3241 b3241 m3214 g3214 b3214 m3142 g3142 b3142 m3124 g3124 b3124 m2431 g2431 b2431 m2413 g2413 b2413 m2341 g2341 b2341 m2314 g2314 b2314 m2143 g2143 b2143 m2134 g2134 b2134 m1432 g1432 b1432 m1423 g1423 b1423 m1342 g1342 b1342 m1324 g1324 b1324 m1243 g1243 b1243 m1234 g1234 b1234 m432 g432 b432 m431 g431 b431 m423 g423 b423 m421 g421 b421 m413 g413 b413 m412 g412 b412 m342 g342 b342 m341 g341 b341 m324 g324 b324 m321 g321 b321 m314 g314 b314 m312 g312 b312 m243 g243 b243 m241 g241 b241 m234 g234 b234 m231 g231 b231 m214 g214 b214 m213 g213 b213 m143 g143 b143 m142 g142 b142 m134 g134 b134 m132 g132 b132 m124 g124 b124 m123 g123 b123 m43 g43 b43 m42 g42 b42 m41 g41 b41 m34 g34 b34 m32 g32 b32 m31 g31 b31 m24 g24 b24 m23 g23 b23 m21 g21 b21 m14 g14 b14 m13 g13 b13 m12 g12 b12 m4 g4 b4 m3 g3 b3 m2 g2 b2 m1 g1 b1
  unfold ekP at r1 r2 r3 r4 r12 r13 r14 r21 r23 r24 r31 r32 r34 r41 r42 r43 r123 r124 r132 r134 r142 r143 r213 r214 r231 r234 r241 r243 r312 r314 r321 r324 r341 r342 r412 r413 r421 r423 r431 r432 r1234 r1243 r1324 r1342 r1423 r1432 r2134 r2143 r2314 r2341 r2413 r2431 r3124 r3142 r3214 r3241 r3412 r3421 r4123 r4132 r4213 r4231 r4312 r4321
  dsimp only at r1 r2 r3 r4 r12 r13 r14 r21 r23 r24 r31 r32 r34 r41 r42 r43 r123 r124 r132 r134 r142 r143 r213 r214 r231 r234 r241 r243 r312 r314 r321 r324 r341 r342 r412 r413 r421 r423 r431 r432 r1234 r1243 r1324 r1342 r1423 r1432 r2134 r2143 r2314 r2341 r2413 r2431 r3124 r3142 r3214 r3241 r3412 r3421 r4123 r4132 r4213 r4231 r4312 r4321
  go_enter Tryd.func36, Tryd.ntmps36
  go_wp2
  go_region
  all_goals
    go_wp2
    go_ret
    (first | exact ⟨rfl, H1234.out⟩ | exact ⟨rfl, H1243.out⟩ | exact ⟨rfl, H1324.out⟩ | exact ⟨rfl, H1342.out⟩ | exact ⟨rfl, H1423.out⟩ | exact ⟨rfl, H1432.out⟩ | exact ⟨rfl, H2134.out⟩ | exact ⟨rfl, H2143.out⟩ | exact ⟨rfl, H2314.out⟩ | exact ⟨rfl, H2341.out⟩ | exact ⟨rfl, H2413.out⟩ | exact ⟨rfl, H2431.out⟩ | exact ⟨rfl, H3124.out⟩ | exact ⟨rfl, H3142.out⟩ | exact ⟨rfl, H3214.out⟩ | exact ⟨rfl, H3241.out⟩ | exact ⟨rfl, H3412.out⟩ | exact ⟨rfl, H3421.out⟩ | exact ⟨rfl, H4123.out⟩ | exact ⟨rfl, H4132.out⟩ | exact ⟨rfl, H4213.out⟩ | exact ⟨rfl, H4231.out⟩ | exact ⟨rfl, H4312.out⟩ | exact ⟨rfl, H4321.out⟩)
set_option maxHeartbeats 2000000 in
theorem agree_any (a b : Int) (w : World) (ha : -9223372036854775808 ≤ a ∧ a ≤ 9223372036854775807) (hb : -9223372036854775808 ≤ b ∧ b ≤ 9223372036854775807) :
    Calls Tryd.prog 22 #[.int .i64 a, .int .i64 b] w fun e w' => e = .returned (.tuple #[.int .i64 (agreeN a b), .int .i64 (agreeE a b)]) ∧ Below w.heap.size w w' := by
  obtain ⟨kl, hkey⟩ := pair_key ha hb
  have HL := Lib.hid (fun (W : World) (h : Mp W Tryd.prog 62 w.heap.size 4 ekP agreeF) => (h.look_ (t := 60) (e := 3) (z := .int .i64 0) pair_keyed Tryd.underlying60 (pair_zero W) hkey).2)
  by_cases hw : isW a ∧ isW b
  · obtain ⟨h1, h2⟩ := agreeF_yes hw
    rw [h1, show (some (Value.int .i64 (agreeN a b))).getD (.int .i64 0) = .int .i64 (agreeN a b) from rfl, show (some (Value.int .i64 (agreeN a b))).isSome = true from rfl] at HL
    rw [h2]
    generalize agreeN a b = r at *
    clear h1 h2 hw hkey
    unfold ekP at HL
    go_enter Tryd.func22, Tryd.ntmps22
    go_wp2_with (go_at_call 36; (with_reducible refine (agreed_any _).mono ?_); rintro e w1 ⟨rfl, h1, b1⟩; have hl := HL.out _ h1)
    go_ret2
    exact ⟨rfl, b1⟩
  · obtain ⟨h1, h2, h3⟩ := agreeF_no hw
    rw [h1, show (none : Option Value).getD (.int .i64 0) = .int .i64 0 from rfl, show (none : Option Value).isSome = false from rfl] at HL
    rw [h2, h3]
    clear h1 h2 h3 hw hkey
    unfold ekP at HL
    go_enter Tryd.func22, Tryd.ntmps22
    go_wp2_with (go_at_call 36; (with_reducible refine (agreed_any _).mono ?_); rintro e w1 ⟨rfl, h1, b1⟩; have hl := HL.out _ h1)
    go_ret2
    exact ⟨rfl, b1⟩
end Go.Proofs.YtcbihioflmfgjaaDoor
