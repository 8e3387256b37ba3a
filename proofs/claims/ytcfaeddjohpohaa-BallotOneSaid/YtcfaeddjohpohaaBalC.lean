/-
  Lists of acceptors: gone through, and whether all are right. Conditions: lists are at most as long as Go allows.
-/
import Derived.Test.YtcfaeddjohpohaaBalB
import Derived.Test.YtcfaeddjohpohaaArg
import Derived.Test.YtcfaeddjohpohaaRound
namespace Ros
open Go Go.RowKit
def cellsVs (l : List Vt) : List Value := l.flatMap cellsV
theorem cellsVs_one (l : List Vt) : ∀ u ∈ cellsVs l, u.oneCell' = true := by
  intro u hu
  simp only [cellsVs, List.mem_flatMap, cellsV] at hu
  obtain ⟨x, _, hx⟩ := hu
  simp at hx
  rcases hx with rfl | rfl | rfl <;> rfl
theorem vote_at {w : World} {A : Option Addr} {l : List Vt} (h : ArgAt w 3 A l.length (cellsVs l)) (k : Nat) (hk : k < l.length) :
    ∃ a : Addr, A = some a ∧ a.block < w.heap.size ∧ w.cell? (a.add (k * 3)) = some (.int .u64 (l[k].p : Int)) ∧ w.cell? ⟨(a.add (k * 3)).block, (a.add (k * 3)).off + 1, none⟩ = some (.int .u64 (l[k].b : Int)) ∧ w.cell? ⟨(a.add (k * 3)).block, (a.add (k * 3)).off + 2, none⟩ = some (.string l[k].s) := by
  obtain ⟨a, hl, e, hb, hc⟩ := h.at_ cellsV_length (by omega) k hk
  refine ⟨a, e, hb, ?_, add_pos' _ 1 (by omega) ▸ hc 1 _ (by omega) rfl, add_pos' _ 2 (by omega) ▸ hc 2 _ (by omega) rfl⟩
  have := hc 0 _ (by omega) rfl
  simpa [Addr.add] using this
def encV (x : Vt) : Array Value := #[.agg #[.int .u64 (x.p : Int), .int .u64 (x.b : Int), .string x.s]]
end Ros
namespace Go.Proofs.Ytcfaeddjohpohaa
open Go.RowKit Go.Shelf Ros
attribute [local go_sem] Oper.semAt_some

theorem values_any (A : Option Addr) (n c : Nat) (w : World) :
    Calls Try.prog 27 #[.slice A n c] w fun e w' => e = .returned (.func (.func 28) #[] #[.pointer (some ⟨w.heap.size, 0, none⟩)]) ∧ w.alloc (.cells #[.slice A n c] 36) = w' := by
  go_enter Try.func27, Try.ntmps27
  go_wp2
  go_ret
  exact ⟨rfl, rfl⟩

set_option maxRecDepth 100000 in
set_option maxHeartbeats 1000000 in
theorem values1_iter (Bs : Nat) (A : Option Addr) (c : Nat) (l : List Vt) (hl : l.length ≤ 9223372036854775807) :
    IterOn Try.prog 28 #[.pointer (some ⟨Bs, 0, none⟩)] encV (fun _ W => W.cell? ⟨Bs, 0, none⟩ = some (.slice A l.length c) ∧ ArgAt W 3 A l.length (cellsVs l)) l := by
  intro L J Jx W gJ gJx hRd hY h0
  have hc0 := (hRd _ _ h0).1
  refine callsIn_of_wp Try.func28 rfl trivial ?_ rfl
  simp only [Try.ntmps28, List.size_toArray, List.length_cons, List.length_nil, Nat.reduceAdd, Nat.reduceSub, Array.replicate_succ, Array.replicate_zero, List.push_toArray, List.append_toArray, List.nil_append, List.cons_append]
  gi_wp2
  gi_loopw [7] (fun i wr => ∃ k : Nat, k ≤ l.length ∧ i = .int .i64 k ∧ J (l.take k) wr) (fun i _ => l.length - (intOf i).toNat)
  case atStart => exact ⟨0, by omega, rfl, by simpa using h0⟩
  case round =>
    obtain ⟨k, hk, rfl, hj⟩ := hrel
    have hrd := (hRd _ _ hj).2
    by_cases hlt : k < l.length
    · obtain ⟨a, rfl, _, p0, p1, p2⟩ := vote_at hrd k hlt
      have hsp : l = l.take k ++ l[k] :: l.drop (k + 1) := by rw [List.getElem_cons_drop, List.take_append_drop]
      have hsp2 : l.take k ++ [l[k]] = l.take (k + 1) := List.take_append_getElem hlt
      have hY2 := fun W1 hW1 => hY _ _ _ W1 hsp hW1
      rw [hsp2] at hY2
      have HG := Lib.hid (fun o => gJ _ wr (wr.alloc o) hj (World.grownBy_alloc wr o none))
      clear hsp hsp2 hY hrd
      unfold encV at hY2
      generalize l[k] = x at *
      obtain ⟨fn, tmps, assign, body, hy, hR⟩ := hY2 _ (HG.out (.cells #[.int .u64 (x.p : Int), .int .u64 (x.b : Int), .string x.s] 24))
      clear hY2
      gi_wp2
      refine hR.mono ?_
      rintro e W3 (⟨rfl, hJ3⟩ | ⟨rfl, hJx3⟩)
      · gi_wp2
        go_roundw
        case rel => exact ⟨k + 1, by omega, by go_num, hJ3⟩
        case measure => simp [intOf]; omega
      · gi_wp2
        refine bodyPost_ret (results_none rfl _ _ _) rfl ?_
        exact ⟨⟨_, rfl⟩, .inr ⟨_, List.take_prefix _ _, hJx3⟩⟩
    · obtain rfl : k = l.length := by omega
      gi_wp2
      go_end0
      refine ⟨⟨_, rfl⟩, .inl ?_⟩
      rw [List.take_of_length_le (Nat.le_refl _)] at hj
      exact hj
end Go.Proofs.Ytcfaeddjohpohaa
