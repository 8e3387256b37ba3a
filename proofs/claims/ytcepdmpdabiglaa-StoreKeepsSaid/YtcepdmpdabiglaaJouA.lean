/-
  Texts joined; a record's bytes, by journal and by its reference. Conditions: strings are at most as long as Go allows.
-/
import Derived.Test.YtcepdmpdabiglaaJouP
import Derived.Test.YtcepdmpdabiglaaArg
import Derived.Deep.RegionLaw
import Derived.Deep.RegionHeld3
import Derived.Deep.DeepCutAuto
namespace Ros
open Go Go.RowKit
theorem ArgAt.fresh {W : World} {t : TypeId} {fz : Nat × Nat} (vs : List Value) : ArgAt (W.alloc (.cells vs.toArray t fz)) 1 (some ⟨W.heap.size, 0, none⟩) vs.length vs := by
  refine ⟨by simp, fun _ => ⟨_, rfl, by simp, fun j u hu => ?_⟩⟩
  rw [addr_add, Nat.zero_add, cell_row (World.alloc_heap_new W _)]
  simpa using hu
theorem rec_str (s : ByteArray) : str (bl (joinB [⟨#[52]⟩, str (toB 4 s.size), s]) ++ toB 4 (sum (bl (joinB [⟨#[52]⟩, str (toB 4 s.size), s])))) = str (recL (bl s)) := by
  rw [bl_joinB, recL_def, seal4]; simp [bl_str, size_bl, show bl ⟨#[52]⟩ = [52] from rfl]
/-- Whether data is short enough; the record, the error. -/
def recE (d : List UInt8) : Nat := if d.length ≤ 4096 then 0 else 30
def recS (d : List UInt8) : List UInt8 := if d.length ≤ 4096 then recL d else []
end Ros
namespace Go.Proofs.Ytcepdmpdabiglaa
open Go.RowKit Go.Shelf Ros
attribute [local go_sem] Oper.semAt_some

theorem bt {a b c : World} (h : Below a.heap.size a b) (k : Below b.heap.size b c) : Below a.heap.size a c := h.trans (k.mono h.size)
theorem bal {a b : World} (h : Below a.heap.size a b) (o : Obj) : Below a.heap.size a (b.alloc o) := h.alloc h.size o

set_option maxHeartbeats 400000 in
theorem join_any (A : Option Addr) (c : Nat) (l : List ByteArray) (w : World) (ha : ArgAt w 1 A l.length (l.map Value.string)) (hl : l.length ≤ 9223372036854775807) (hs : (joinB l).size ≤ 140737488355328) :
    Calls Try.prog 29 #[.slice A l.length c] w fun e w' => e = .returned (.string (joinB l)) ∧ w = w' := by
  have HA := Lib.hid ha
  clear ha
  go_enter Try.func29, Try.ntmps29
  go_wp2
  go_loop [3, 8] (fun s i => ∃ k : Nat, k ≤ l.length ∧ i = .int .i64 k ∧ s = .string (joinB (l.take k))) (fun _ i => l.length - (intOf i).toNat)
  case atStart => exact ⟨0, by omega, rfl, rfl⟩
  case round =>
    obtain ⟨k, hk, rfl, rfl⟩ := hrel
    by_cases hlt : k < l.length
    · obtain ⟨a, hl1, rfl, _, c0⟩ := HA.out.one k hlt
      have HS := Lib.hid (joinB_take l k hlt)
      have h1 : (joinB (l.take k) ++ l[k]).size ≤ 140737488355328 := by rw [joinB_take l k hlt]; exact Nat.le_trans (joinB_size _ _) hs
      rw [ByteArray.size_append'] at h1
      generalize l[k] = x at *
      go_wp2
      go_round
      case rel => exact ⟨k + 1, by omega, by go_num, by rw [HS.out]⟩
      case measure => simp [intOf]; omega
    · obtain rfl : k = l.length := by omega
      go_wp2
      go_ret
      exact ⟨rfl, rfl⟩

set_option maxHeartbeats 1000000 in
theorem record_yes (s : ByteArray) (w : World) (hd : s.size ≤ 4096) :
    Calls Try.prog 24 #[.string s] w fun e w' => e = .returned (.tuple #[.string (str (recL (bl s))), .int .i64 0]) ∧ Below w.heap.size w w' := by
  have hJ : (joinB [⟨#[52]⟩, str (toB 4 s.size), s]).size ≤ 140737488355328 := by
    rw [size_bl, bl_joinB]; simp only [List.flatMap_cons, List.flatMap_nil, List.length_append, bl_str, toB_length, ← size_bl, show bl ⟨#[52]⟩ = [52] from rfl, List.length_cons, List.length_nil]; omega
  have hR := rec_str s
  have HP := Lib.hid (fun W : World => put_any s.size W (by omega))
  have HJ := Lib.hid (fun (W : World) (g : Nat) (hg : g = W.heap.size) => join_any (some ⟨g, 0, none⟩) 3 [⟨#[52]⟩, str (toB 4 s.size), s] (W.alloc (.cells #[.string ⟨#[52]⟩, .string (str (toB 4 s.size)), .string s] 9)) (hg ▸ ArgAt.fresh [.string ⟨#[52]⟩, .string (str (toB 4 s.size)), .string s]) (by simp) hJ)
  have HS := Lib.hid (fun W : World => seal_any (joinB [⟨#[52]⟩, str (toB 4 s.size), s]) W hJ)
  rw [hR] at HS
  simp only [List.length_cons, List.length_nil, Nat.reduceAdd] at HJ
  clear hJ hR
  have hwr : IntKind.u32.wrap (s.size : Int) = (s.size : Int) := by simp [IntKind.wrap, IntKind.signed, IntKind.bits]; omega
  generalize str (recL (bl s)) = r at *
  generalize joinB [⟨#[52]⟩, str (toB 4 s.size), s] = j at *
  generalize str (toB 4 s.size) = p at *
  have hcv : ∀ W : World, (convert 44 9 (.slice (some ⟨W.heap.size, 0, none⟩) 1 1)).run Try.prog (W.alloc (.cells #[.int .u8 52] 5)) = .ok (.string ⟨#[52]⟩) (W.alloc (.cells #[.int .u8 52] 5)) := fun W =>
    run_convert_bytes_back (P := Try.prog) (W.alloc (.cells #[.int .u8 52] 5)) 44 9 5 ⟨W.heap.size, 0, none⟩ 1 [52] Try.underlying44 Try.underlying5 Try.underlying9 (@cells_new W _ 5 [52] rfl)
  have hcv2 : ∀ W : World, (convert 44 9 (.slice (some ⟨W.heap.size, 0, none⟩) 1 1)).run Try.prog (W.alloc (.cells #[.int .u8 52] 5)).drew = .ok (.string ⟨#[52]⟩) (W.alloc (.cells #[.int .u8 52] 5)).drew := fun W => hcv W.drew
  have HCV := Lib.hid (fun (w1 : World) (b1 : Below (w.alloc (.cells #[.int .u8 52] 5)).drew.heap.size (w.alloc (.cells #[.int .u8 52] 5)).drew w1) => run_convert_bytes_back (P := Try.prog) w1 44 9 5 ⟨w.heap.size, 0, none⟩ 1 [52] Try.underlying44 Try.underlying5 Try.underlying9 (fun j hj => by
    have hh : w1.heap[w.heap.size]? = some (.cells #[.int .u8 52] 5 (0, 0)) := (b1.block w.heap.size (by show _ < (w.alloc _).heap.size; simp)).trans (World.alloc_heap_new w _)
    obtain rfl : j = 0 := by simpa using hj
    rw [addr_add, cell_row hh]; rfl))
  simp only [List.length_cons, List.length_nil, Nat.reduceAdd] at HCV
  go_enter Try.func24, Try.ntmps24
  go_wp2_with fail
  go_region_law ((first
    | (go_simp; go_at_call 30; refine (HP.out _).mono ?_; rintro e w1 ⟨rfl, b1⟩; try have q1 := HCV.out w1 b1)
    | (go_simp; go_at_call 29; refine (HJ.out _ _ (by simp)).mono ?_; rintro e w2 ⟨rfl, rfl⟩)
    | (go_simp; go_at_call 28; refine (HS.out _).mono ?_; rintro e w3 ⟨rfl, b3⟩)))
  all_goals
    go_wp2_with fail
    go_ret2
    refine ⟨rfl, ?_⟩
    repeat (first | assumption | exact Below.refl _ _ | apply bal | apply Below.drew | (apply bt; rotate_left; assumption))

set_option maxHeartbeats 400000 in
theorem record_no (s : ByteArray) (w : World) (hd : ¬ s.size ≤ 4096) (hs : s.size ≤ maxLen) :
    Calls Try.prog 24 #[.string s] w fun e w' => e = .returned (.tuple #[.string ⟨#[]⟩, .int .i64 30]) ∧ Below w.heap.size w w' := by
  unfold maxLen at hs
  go_enter Try.func24, Try.ntmps24
  go_wp2_with fail
  go_ret2
  exact ⟨rfl, Below.refl _ _⟩

theorem rec_all {s : ByteArray} : (if s.size ≤ 4096 then (str (recL (bl s)), (0 : Int)) else (⟨#[]⟩, 30)) = (str (recS (bl s)), ((recE (bl s) : Nat) : Int)) := by
  unfold recS recE; rw [← size_bl]; split <;> rfl
theorem record_all (s : ByteArray) (w : World) (hs : s.size ≤ maxLen) :
    Calls Try.prog 24 #[.string s] w fun e w' => e = .returned (.tuple #[.string (str (recS (bl s))), .int .i64 ((recE (bl s) : Nat) : Int)]) ∧ Below w.heap.size w w' := by
  have h := @rec_all s
  by_cases hd : s.size ≤ 4096
  · rw [if_pos hd] at h
    rw [← (Prod.mk.inj h).1, ← (Prod.mk.inj h).2]
    exact record_yes s w hd
  · rw [if_neg hd] at h
    rw [← (Prod.mk.inj h).1, ← (Prod.mk.inj h).2]
    exact record_no s w hd hs
end Go.Proofs.Ytcepdmpdabiglaa
