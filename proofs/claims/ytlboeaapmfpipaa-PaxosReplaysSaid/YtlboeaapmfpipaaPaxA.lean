/-
  A node in memory ('NdA'); the instances behind one, gone through. Conditions: a million changes at most.
-/
import Derived.Test.YtlboeaapmfpipaaPaxM
import Derived.Test.YtlboeaapmfpipaaJouL
import Derived.Test.YtlboeaapmfpipaaBalB
import Derived.Test.YtlboeaapmfpipaaMap
namespace Ros
open Go Go.RowKit Go.Maps Go.ChangeMaps
def ekI (i : Int) : Value := .int .i64 i
theorem ekI_inj : ∀ x y, ekI x = ekI y → x = y := fun x y h => by injection h
def encVt (v : Vt) : Value := .agg #[.int .u64 (v.p : Int), .int .u64 (v.b : Int), .string v.s]
def encLn (s : ByteArray) : Value := .agg #[.string s]
def votesV (s : Nd) : Int → Option Value := fun i => (s.votes i).map encVt
def knownV (s : Nd) : Int → Option Value := fun i => (s.known i).map encLn
theorem upd_map {α : Type} (f : Int → Option α) (e : α → Value) (i : Int) (v : α) : (fun y => if y = i then some (e v) else (f y).map e) = fun j => (updI f i v j).map e := by
  funext j
  unfold updI
  split <;> rfl
theorem i64_wf {i : Int} (h : -9223372036854775808 ≤ i ∧ i ≤ 9223372036854775807) : (Lit.int .i64 i).wf = true := by
  simp [Lit.wf, IntKind.min, IntKind.max, IntKind.signed, IntKind.bits]; omega
/-- The instances behind one. -/
def instL (m : Nat) : List Nat := List.range' (m + 1) (10000 - m)
theorem instL_len (m : Nat) : (instL m).length = 10000 - m := by simp [instL]
theorem instL_get (m k : Nat) (h : k < (instL m).length) : (instL m)[k] = m + 1 + k := by simp [instL]
theorem instL_mid {m x : Nat} {pre post : List Nat} (h : instL m = pre ++ x :: post) : x = m + 1 + pre.length ∧ m + 1 + pre.length ≤ 10000 := by
  have hl := instL_len m
  have h1 : pre.length < (instL m).length := by rw [h]; simp
  have h2 := instL_get m pre.length h1
  have h3 : (instL m)[pre.length]'h1 = x := by simp [h]
  exact ⟨by rw [← h3, h2], by omega⟩
theorem instL_all {m : Nat} {pre : List Nat} (h : instL m = pre) (hm : m ≤ 10000) : m + pre.length = 10000 := by
  rw [← h, instL_len]; omega
def encI (x : Nat) : Array Value := #[.int .i64 (x : Int)]
theorem own_mp {β κ : Type} (B b : Nat) (hb : b < B) (P : Program) (k : TypeId) (n : β → Nat) (ek : κ → Value) (f : β → κ → Option Value) : OwnFrom B (fun s W => Mp W P k b (n s) ek (f s)) :=
  fun _ _ _ _ hs hg hr => hs.keep (hg.block b hs.lt (fun e => by have := (hr b e.symm).1; omega))
end Ros
namespace Go.Proofs.Ytlboeaapmfpipaa
open Go.RowKit Go.Shelf Ros
attribute [local go_sem] Oper.semAt_some

/-- A node in memory: S its blocks, c a bound on how often its maps were turned. -/
def NdA (w : World) (S : Nat → Prop) (g : Nat) (s : Nd) (c : Nat) : Prop :=
  ∃ bv bk nv nk : Nat, w.heap[g]? = some (.cells #[.map (some bv), .map (some bk), .int .i64 (s.len : Int), .int .i64 (s.gone : Int)] 57 (0, 0)) ∧
    Mp w Try.prog 3 bv nv ekI (votesV s) ∧ Mp w Try.prog 3 bk nk ekI (knownV s) ∧ nv ≤ c ∧ nk ≤ c ∧ (g ≠ bv ∧ g ≠ bk ∧ bv ≠ bk) ∧ ∀ k, S k ↔ k = g ∨ k = bv ∨ k = bk
section
variable {w w' : World} {S : Nat → Prop} {g c : Nat} {s : Nd}
theorem NdA.lt (h : NdA w S g s c) : ∀ k, S k → k < w.heap.size := by
  obtain ⟨bv, bk, nv, nk, hg, hv, hk, _, _, _, hS⟩ := h
  intro k h
  rcases (hS k).1 h with rfl | rfl | rfl
  · exact obj_lt hg
  · exact hv.lt
  · exact hk.lt
theorem NdA.keep (h : NdA w S g s c) (hk : ∀ k, S k → w'.heap[k]? = w.heap[k]?) : NdA w' S g s c := by
  obtain ⟨bv, bk, nv, nk, hg, hv, hkn, h1, h2, h3, hS⟩ := h
  exact ⟨bv, bk, nv, nk, (hk g ((hS g).2 (.inl rfl))).trans hg, hv.keep (hk bv ((hS bv).2 (.inr (.inl rfl)))), hkn.keep (hk bk ((hS bk).2 (.inr (.inr rfl)))), h1, h2, h3, hS⟩
theorem NdA.below (h : NdA w S g s c) (hb : Below w.heap.size w w') : NdA w' S g s c := h.keep fun k hk => hb.block k (h.lt k hk)
theorem NdA.up {c' : Nat} (h : NdA w S g s c) (hc : c ≤ c') : NdA w S g s c' := by
  obtain ⟨bv, bk, nv, nk, hg, hv, hkn, h1, h2, h3⟩ := h
  exact ⟨bv, bk, nv, nk, hg, hv, hkn, by omega, by omega, h3⟩
end
theorem int_key {i : Int} (h : -9223372036854775808 ≤ i ∧ i ≤ 9223372036854775807) : ∃ kl, keyOf Try.prog 3 (ekI i) = some kl := ⟨_, Maps.keyOf_int_mk Try.underlying3 (i64_wf h)⟩

set_option maxHeartbeats 400000 in
theorem nnew_any (w : World) :
    Calls Try.prog 10 #[] w fun e w' => ∃ g S, e = .returned (.pointer (some ⟨g, 0, none⟩)) ∧ w.heap.size ≤ g ∧ (∀ k, S k → w.heap.size ≤ k) ∧ NdA w' S g nd0 0 ∧ Below w.heap.size w w' := by
  have hmm := @run_makeMap Try.prog
  have h1 := Mp.made w Try.prog 3 ekI
  have h2 := Mp.made (w.alloc (.map #[] 0)) Try.prog 3 ekI
  rw [World.size_alloc] at h2
  have HM := Lib.hid ((h1.alloc (.map #[] 0)).alloc (.cells #[.map (some w.heap.size), .map (some (w.heap.size + 1)), .int .i64 0, .int .i64 0] 57))
  have HN := Lib.hid (h2.alloc (.cells #[.map (some w.heap.size), .map (some (w.heap.size + 1)), .int .i64 0, .int .i64 0] 57))
  have HC := Lib.hid (World.alloc_heap_new ((w.alloc (.map #[] 0)).alloc (.map #[] 0)) (.cells #[.map (some w.heap.size), .map (some (w.heap.size + 1)), .int .i64 0, .int .i64 0] 57))
  clear h1 h2
  go_enter Try.func10, Try.ntmps10
  go_wp2
  go_ret
  refine ⟨_, fun k => k = w.heap.size + 1 + 1 ∨ k = w.heap.size ∨ k = w.heap.size + 1, rfl, by omega, fun k hk => by omega, ⟨w.heap.size, w.heap.size + 1, 0, 0, ?_, HM.out, HN.out, Nat.le_refl _, Nat.le_refl _, ⟨by omega, by omega, by omega⟩, fun k => Iff.rfl⟩, (((Below.refl _ w).alloc (Nat.le_refl _) _).alloc (by simp) _).alloc (by simp; omega) _⟩
  have h := HC.out
  rw [World.size_alloc, World.size_alloc] at h
  exact h
/-- The heads of results with one, two slots behind a variable's box. -/
theorem results_cell2 {P : Program} {fn : Func} {p u x : Tmp} {ty : TypeId} (h : fn.results = #[.cell p ty, .tmp u, .tmp x]) (tmps : Array Value) (w : World) :
    (results fn tmps).run P w = ((asAddr (tmps.getD p undef)).run P w).andThen fun a w₁ => ((loadVar ty a).run P w₁).andThen fun v w₂ => .ok (.tuple #[v, tmps.getD u undef, tmps.getD x undef]) w₂ := by
  simp only [results, h]
  simp [Sem.run_bind, Result.andThen]
theorem results_cell0 {P : Program} {fn : Func} {p : Tmp} {ty : TypeId} (h : fn.results = #[.cell p ty]) (tmps : Array Value) (w : World) :
    (results fn tmps).run P w = ((asAddr (tmps.getD p undef)).run P w).andThen fun a w₁ => (loadVar ty a).run P w₁ := by
  simp only [results, h]
  simp [Sem.run_bind, Result.andThen]

theorem behind_any (m : Int) (w : World) :
    Calls Try.prog 29 #[.int .i64 m] w fun e w' => e = .returned (.func (.func 34) #[] #[.pointer (some ⟨w.heap.size, 0, none⟩)]) ∧ w.alloc (.cells #[.int .i64 m] 3) = w' := by
  go_enter Try.func29, Try.ntmps29
  go_wp2
  go_ret
  exact ⟨rfl, rfl⟩

set_option maxRecDepth 100000 in
set_option maxHeartbeats 1000000 in
theorem behind1_iter (Bs m : Nat) (hm : m ≤ 10000) :
    IterOn Try.prog 34 #[.pointer (some ⟨Bs, 0, none⟩)] encI (fun _ W => W.cell? ⟨Bs, 0, none⟩ = some (.int .i64 (m : Int))) (instL m) := by
  intro L J Jx W gJ gJx hRd hY h0
  have hc0 := hRd _ _ h0
  refine callsIn_of_wp Try.func34 rfl trivial ?_ rfl
  simp only [Try.ntmps34, List.size_toArray, List.length_cons, List.length_nil, Nat.reduceAdd, Nat.reduceSub, Array.replicate_succ, Array.replicate_zero, List.push_toArray, List.append_toArray, List.nil_append, List.cons_append]
  gi_wp2
  gi_loopw [3] (fun i wr => ∃ k : Nat, k ≤ (instL m).length ∧ i = .int .i64 ((m + 1 + k : Nat) : Int) ∧ J ((instL m).take k) wr) (fun i _ => 10001 - (intOf i).toNat)
  case atStart => exact ⟨0, by omega, by go_num, by simpa using h0⟩
  case round =>
    obtain ⟨k, hk, rfl, hj⟩ := hrel
    have hlen := instL_len m
    by_cases hlt : k < (instL m).length
    · have hsp : instL m = (instL m).take k ++ (instL m)[k] :: (instL m).drop (k + 1) := by rw [List.getElem_cons_drop, List.take_append_drop]
      have hsp2 : (instL m).take k ++ [(instL m)[k]] = (instL m).take (k + 1) := List.take_append_getElem hlt
      have hY2 := fun W1 hW1 => hY _ _ _ W1 hsp hW1
      rw [hsp2, instL_get m k hlt] at hY2
      have hle : ((m + 1 + k : Nat) : Int) ≤ 10000 := by omega
      have HL := Lib.hid hlen
      clear hsp hsp2 hY hlen
      unfold encI at hY2
      obtain ⟨fn, tmps, assign, body, hy, hR⟩ := hY2 _ hj
      clear hY2
      generalize hq : m + 1 + k = q at *
      have HQ := Lib.hid hq
      clear hq
      gi_wp2
      refine hR.mono ?_
      rintro e W3 (⟨rfl, hJ3⟩ | ⟨rfl, hJx3⟩)
      · gi_wp2
        go_roundw
        case rel => exact ⟨k + 1, by omega, by have := HQ.out; go_num, hJ3⟩
        case measure => simp [intOf]; omega
      · gi_wp2
        refine bodyPost_ret (results_none rfl _ _ _) rfl ?_
        exact ⟨⟨_, rfl⟩, .inr ⟨_, List.take_prefix _ _, hJx3⟩⟩
    · have hke : k = (instL m).length := by omega
      have hgt : ¬ ((m + 1 + k : Nat) : Int) ≤ 10000 := by omega
      rw [List.take_of_length_le (by omega)] at hj
      generalize m + 1 + k = q at *
      gi_wp2
      go_end0
      exact ⟨⟨_, rfl⟩, .inl hj⟩
end Go.Proofs.Ytlboeaapmfpipaa
