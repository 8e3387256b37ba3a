/-
  What is out, gone through. Conditions: numbers are as the program's types allow.
-/
import Derived.Test.YtbmlenffcmmkbaaLnkC
namespace Ros
open Go Go.RowKit
def outL (s : Lk) : List (Nat × ByteArray) := (List.range s.outs.length).map fun i => (s.first + i, s.outs.getD i ⟨#[]⟩)
def encO (x : Nat × ByteArray) : Array Value := #[.int .u32 (x.1 : Int), .string x.2]
theorem outL_len (s : Lk) : (outL s).length = s.outs.length := by simp [outL]
theorem outL_get (s : Lk) (k : Nat) (h : k < (outL s).length) (h2 : k < s.outs.length) : (outL s)[k] = (s.first + k, s.outs[k]) := by simp [outL, h2]
end Ros
namespace Go.Proofs.Ytbmlenffcmmkbaa
open Go.RowKit Go.Shelf Ros Go.Maps
attribute [local go_sem] Oper.semAt_some
theorem flying_any (g : Nat) (w : World) :
    Calls Try.prog 17 #[.pointer (some ⟨g, 0, none⟩)] w fun e w' => e = .returned (.func (.func 25) #[] #[.pointer (some ⟨w.heap.size, 0, none⟩)]) ∧ w.alloc (.cells #[.pointer (some ⟨g, 0, none⟩)] 69) = w' := by
  go_enter Try.func17, Try.ntmps17
  go_wp2
  go_ret
  exact ⟨rfl, rfl⟩
/-- What the rounds must leave as it is. -/
def FlyR (Bs g : Nat) (s : Lk) (pre : List (Nat × ByteArray)) (W : World) : Prop :=
  W.cell? ⟨Bs, 0, none⟩ = some (.pointer (some ⟨g, 0, none⟩)) ∧ (pre = [] → W.cell? ⟨g, 1, none⟩ = some (.int .u32 (s.first : Int)) ∧ W.cell? ⟨g, 2, none⟩ = some (.int .u32 (s.next : Int))) ∧
    ∀ h : pre.length < s.outs.length, ∃ b, W.cell? ⟨g, 3, none⟩ = some (.map (some b)) ∧ (Instr.lookup 53 (.map (some b)) (.int .u32 ((s.first + pre.length : Nat) : Int)) false).run Try.prog W = .ok (.agg #[.string s.outs[pre.length]]) W
theorem FlyR.drew {Bs g : Nat} {s : Lk} {pre : List (Nat × ByteArray)} {W : World} (h : FlyR Bs g s pre W) : W.drew.cell? ⟨Bs, 0, none⟩ = some (.pointer (some ⟨g, 0, none⟩)) := h.1
theorem out_field (y : ByteArray) (W : World) : (Instr.field 72 (.agg #[.string y]) 0).run Try.prog W = .ok (.string y) W := by kernel_rfl
set_option maxRecDepth 100000 in
set_option maxHeartbeats 2000000 in
theorem flying1_iter (Bs g : Nat) (s : Lk) (hn : s.next < 4294967296) :
    IterOn Try.prog 25 #[.pointer (some ⟨Bs, 0, none⟩)] encO (FlyR Bs g s) (outL s) := by
  intro L J Jx W gJ gJx hRd hY h0
  obtain ⟨hc0, hc1, _⟩ := hRd _ _ h0
  obtain ⟨hc1, hc2⟩ := hc1 rfl
  refine callsIn_of_wp Try.func25 rfl trivial ?_ rfl
  simp only [Try.ntmps25, List.size_toArray, List.length_cons, List.length_nil, Nat.reduceAdd, Nat.reduceSub, Array.replicate_succ, Array.replicate_zero, List.push_toArray, List.append_toArray, List.nil_append, List.cons_append]
  gi_wp2
  gi_region
  all_goals
    gi_wp2
    have h0' : J [] W.drew := grows_below gJ h0 (Below.refl _ W).drew
    have HNX := Lib.hid (show s.next = s.first + s.outs.length from rfl)
    gi_loopw [3] (fun i wr => ∃ k : Nat, k ≤ s.outs.length ∧ i = .int .u32 ((s.first + k : Nat) : Int) ∧ J ((outL s).take k) wr) (fun i _ => s.next - (intOf i).toNat)
    case atStart => exact ⟨0, by omega, by go_num, by simpa using h0'⟩
    case round =>
      obtain ⟨k, hk, rfl, hj⟩ := hrel
      have hlen := outL_len s
      have hnx := HNX.out
      by_cases hlt : k < s.outs.length
      · have hko : k < (outL s).length := by omega
        have hsp : outL s = (outL s).take k ++ (outL s)[k] :: (outL s).drop (k + 1) := by rw [List.getElem_cons_drop, List.take_append_drop]
        have hsp2 : (outL s).take k ++ [(outL s)[k]] = (outL s).take (k + 1) := List.take_append_getElem hko
        have hY2 := fun W1 hW1 => hY _ _ _ W1 hsp hW1
        rw [hsp2, outL_get s k hko hlt] at hY2
        obtain ⟨e0, _, e3⟩ := hRd _ _ hj
        have hpl : ((outL s).take k).length = k := by rw [List.length_take]; omega
        have e5 := e3 (by rw [hpl]; exact hlt)
        simp only [hpl] at e5
        clear e3
        obtain ⟨b, e3, e4⟩ := e5
        have hle : ((s.first + k : Nat) : Int) < (s.next : Int) := by omega
        have hof := out_field s.outs[k]
        unfold encO at hY2
        dsimp only at hY2
        generalize s.outs[k] = y at *
        clear hnx hsp hsp2 hY hlen hc0 hc1 hc2 h0 h0'
        obtain ⟨fn, tmps, assign, body, hy, hR⟩ := hY2 _ hj
        clear hY2
        generalize hq : s.first + k = q at *
        have HQ := Lib.hid hq
        have hwq : IntKind.u32.wrap ((q : Int) + 1) = (q : Int) + 1 := by simp [IntKind.wrap, IntKind.signed, IntKind.bits]; omega
        clear hq
        gi_wp2
        refine hR.mono ?_
        rintro e W3 (⟨rfl, hJ3⟩ | ⟨rfl, hJx3⟩)
        · gi_wp2
          go_roundw
          case rel => exact ⟨k + 1, by omega, by have := HQ.out; go_num, hJ3⟩
          case measure => have := HQ.out; have := HNX.out; simp [intOf]; omega
        · gi_wp2
          refine bodyPost_ret (results_none rfl _ _ _) rfl ?_
          exact ⟨⟨_, rfl⟩, .inr ⟨_, List.take_prefix _ _, hJx3⟩⟩
      · have hke : k = s.outs.length := by omega
        have hgt : ¬ ((s.first + k : Nat) : Int) < (s.next : Int) := by omega
        rw [List.take_of_length_le (by omega)] at hj
        clear hnx
        generalize s.first + k = q at *
        gi_wp2
        go_end0
        exact ⟨⟨_, rfl⟩, .inl hj⟩
end Go.Proofs.Ytbmlenffcmmkbaa
