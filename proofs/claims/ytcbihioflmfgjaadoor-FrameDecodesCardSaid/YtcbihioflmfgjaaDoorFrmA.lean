/-
  The errors of frame: two sentinels in memory; errors.Is of one of them against the second; an error's number. Conditions: none. (After the guide's SentryIs.)
-/
import Derived.Test.YtcbihioflmfgjaaDoorFraA
import Derived.Test.YtcbihioflmfgjaaDoorFr
import Derived.LaidEql
import Derived.Stop.Asserts
import Derived.RowKitTokens
import Derived.Stop.IfaceNil
namespace Go.Proofs.YtcbihioflmfgjaaDoor
open Go.RowKit Go.Extern.Stop Go.Stop Go.Extern Ros
attribute [local go_sem] Oper.semAt_some
theorem isTypeOf (v : Value) (w : World) : (Extern.ReflectliteType.typeOf #[.iface 96 v]).run Tryd.prog w = .ok (.iface 86 (.agg #[.pointer (some ⟨2, 96, none⟩)])) w := by kernel_rfl
theorem isComparable : ∃ F : Array Value → Sem Value, (∀ args (w : World), (callFunc 72 args).run Tryd.prog w = ((F args).run Tryd.prog w).andThen fun v w' => .ok (.value v) w') ∧
    ∀ w : World, (F #[.agg #[.pointer (some ⟨2, 96, none⟩)]]).run Tryd.prog w = .ok (.bool true) w :=
  ⟨Extern.ReflectliteType.method fun t => do Go.Extern.Rtype.noPackHeld "Comparable" t; pure (.bool (← typeInfo t).comparable), fun args w => run_callFunc_extern Tryd.func72 (by kernel_rfl) (by kernel_rfl) (by kernel_rfl) (by kernel_rfl) args w, fun w => by kernel_rfl⟩
theorem isComp : (Tryd.prog.info? 96).map (·.comparable) = some true := by kernel_rfl
theorem isSize : (Tryd.prog.info? 121).map (·.size) = some 1 := by kernel_rfl
theorem noIsE (v : Value) (xT : TypeId) (w : World) : (Instr.typeAssert (.iface 96 v) xT 88 true).run Tryd.prog w = .ok (.tuple #[.nilIface, .bool false]) w := run_typeAssert_lacksB Tryd.underlying88 (by kernel_rfl) (by kernel_rfl) v xT w
theorem noUnwrapE (v : Value) (xT : TypeId) (w : World) : (Instr.typeAssert (.iface 96 v) xT 91 true).run Tryd.prog w = .ok (.tuple #[.nilIface, .bool false]) w := run_typeAssert_lacksB Tryd.underlying91 (by kernel_rfl) (by kernel_rfl) v xT w
theorem noUnwrapsE (v : Value) (xT : TypeId) (w : World) : (Instr.typeAssert (.iface 96 v) xT 93 true).run Tryd.prog w = .ok (.tuple #[.nilIface, .bool false]) w := run_typeAssert_lacksB Tryd.underlying93 (by kernel_rfl) (by kernel_rfl) v xT w
theorem isMethodComparable (v : Value) (w : World) : (Go.method 233 86 v "Comparable").run Tryd.prog w = .ok (72, v) w := by kernel_rfl

set_option maxRecDepth 100000 in
theorem is_same (a : Addr) (w : World) :
    Calls Tryd.prog 43 #[.iface 96 (.pointer (some a)), .iface 96 (.pointer (some a))] w fun e w' => e = .returned (.bool true) ∧ w = w' := by
  obtain ⟨i, hi, hcmp⟩ := Option.map_eq_some_iff.1 isComp
  obtain ⟨j, hj, hjs⟩ := Option.map_eq_some_iff.1 isSize
  have h8 := @run_callFunc_extern Tryd.prog 51 _ Extern.ReflectliteType.typeOf Tryd.func51 (by kernel_rfl) (by kernel_rfl) (by kernel_rfl) (by kernel_rfl)
  have tT := isTypeOf
  obtain ⟨F, h32, cT⟩ := isComparable
  have mR := isMethodComparable
  have heq := run_eql_iface_ptr_same (P := Tryd.prog) w a Tryd.underlying53 Tryd.underlying96 hi hcmp hj
  go_enter Tryd.func43, Tryd.ntmps43
  go_wp2
  refine wp_loop_rounds 1 ?_
  rw [rounds_succ]
  go_wp2
  go_ret
  exact ⟨rfl, rfl⟩

set_option maxRecDepth 100000 in
theorem is_other (a b : Addr) (ca cb : Array Value) (ta tb : TypeId) (w : World) (hne : a ≠ b) (ha : w.heap[a.block]? = some (.cells ca ta (0, 0))) (hb : w.heap[b.block]? = some (.cells cb tb (0, 0))) :
    Calls Tryd.prog 43 #[.iface 96 (.pointer (some a)), .iface 96 (.pointer (some b))] w fun e w' => e = .returned (.bool false) ∧ w = w' := by
  obtain ⟨i, hi, hcmp⟩ := Option.map_eq_some_iff.1 isComp
  obtain ⟨j, hj, hjs⟩ := Option.map_eq_some_iff.1 isSize
  have h8 := @run_callFunc_extern Tryd.prog 51 _ Extern.ReflectliteType.typeOf Tryd.func51 (by kernel_rfl) (by kernel_rfl) (by kernel_rfl) (by kernel_rfl)
  have tT := isTypeOf
  obtain ⟨F, h32, cT⟩ := isComparable
  have mR := isMethodComparable
  have nE := noIsE
  have uE := noUnwrapE
  have vE := noUnwrapsE
  have heq := run_eql_iface_ptr_other (P := Tryd.prog) w Tryd.underlying53 Tryd.underlying96 hi hcmp hj (by rw [hjs]; decide) hne ha hb
  go_enter Tryd.func43, Tryd.ntmps43
  go_wp2
  refine wp_loop_rounds 1 ?_
  rw [rounds_succ]
  go_wp2
  go_ret
  exact ⟨rfl, rfl⟩
/-- The two sentinels in memory. -/
structure Snt (w : World) (a0 a1 : Addr) : Prop where
  c0 : w.cell? ⟨0, 0, none⟩ = some (.iface 96 (.pointer (some a0)))
  c1 : w.cell? ⟨1, 0, none⟩ = some (.iface 96 (.pointer (some a1)))
  ne : a0 ≠ a1
  b0 : ∃ ca ta, w.heap[a0.block]? = some (.cells ca ta (0, 0))
  b1 : ∃ ca ta, w.heap[a1.block]? = some (.cells ca ta (0, 0))
theorem Snt.below {w w' : World} {a0 a1 : Addr} (h : Snt w a0 a1) (hb : Below w.heap.size w w') : Snt w' a0 a1 := by
  obtain ⟨ca, ta, ha⟩ := h.b0
  obtain ⟨cb, tb, hb1⟩ := h.b1
  exact ⟨(hb.cell (World.block_lt_of_cell? _ _ h.c0)).trans h.c0, (hb.cell (World.block_lt_of_cell? _ _ h.c1)).trans h.c1, h.ne, ⟨ca, ta, obj_below ha hb (obj_lt ha)⟩, ⟨cb, tb, obj_below hb1 hb (obj_lt hb1)⟩⟩
theorem errno_nil (w : World) : Calls Tryd.prog 33 #[.nilIface] w fun e w' => e = .returned (.int .i64 0) ∧ w = w' := by
  go_enter Tryd.func33, Tryd.ntmps33
  go_wp2
  go_ret
  exact ⟨rfl, rfl⟩
theorem errno_frame (a0 a1 : Addr) (w : World) (h : Snt w a0 a1) : Calls Tryd.prog 33 #[.iface 96 (.pointer (some a0))] w fun e w' => e = .returned (.int .i64 20) ∧ w = w' := by
  obtain ⟨c0, c1, ne, ⟨ca, ta, ha⟩, ⟨cb, tb, hb⟩⟩ := h
  have HI := Lib.hid (is_other a0 a1 ca cb ta tb w ne ha hb)
  clear ha hb
  go_enter Tryd.func33, Tryd.ntmps33
  go_wp2_with (go_at_call 43; (with_reducible refine HI.out.mono ?_); rintro e w2 ⟨rfl, rfl⟩)
  go_ret
  exact ⟨rfl, rfl⟩
theorem errno_old (a0 a1 : Addr) (w : World) (h : Snt w a0 a1) : Calls Tryd.prog 33 #[.iface 96 (.pointer (some a1))] w fun e w' => e = .returned (.int .i64 22) ∧ w = w' := by
  obtain ⟨c0, c1, ne, _, _⟩ := h
  have HI := Lib.hid (is_same a1 w)
  go_enter Tryd.func33, Tryd.ntmps33
  go_wp2_with (go_at_call 43; (with_reducible refine HI.out.mono ?_); rintro e w2 ⟨rfl, rfl⟩)
  go_ret
  exact ⟨rfl, rfl⟩
end Go.Proofs.YtcbihioflmfgjaaDoor
