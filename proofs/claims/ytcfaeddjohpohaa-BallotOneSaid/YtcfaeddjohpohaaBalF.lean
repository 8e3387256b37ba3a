/-
  Votes as a map's keys, and counts of them. Conditions: strings are at most as long as Go allows.
-/
import Derived.Test.YtcfaeddjohpohaaBalE
import Derived.Test.YtcfaeddjohpohaaMap
namespace Ros
open Go Go.RowKit
/-- A vote without what was promised, as a key. -/
def ekV (x : Nat × ByteArray) : Value := .agg #[.int .u64 0, .int .u64 (x.1 : Int), .string x.2]
theorem ekV_inj : ∀ x y, ekV x = ekV y → x = y := by
  rintro ⟨a, s⟩ ⟨b, t⟩ h
  unfold ekV at h
  injection h with h
  simp at h
  obtain ⟨h1, h2⟩ := h
  subst h2
  exact congrArg (·, s) (by omega)
def votesF (l : List Vt) (x : Nat × ByteArray) : Option Value := if 0 < x.1 ∧ 0 < cntV x.1 x.2 l then some (.int .i64 (cntV x.1 x.2 l : Int)) else none
theorem cntV_snoc (b : Nat) (s : ByteArray) (l : List Vt) (v : Vt) : cntV b s (l ++ [v]) = cntV b s l + if v.b = b ∧ v.s = s then 1 else 0 := by
  unfold cntV
  rw [List.countP_append]
  by_cases h : v.b = b ∧ v.s = s
  · simp [h]
  · rw [if_neg h]; simp; exact fun h1 h2 => h ⟨h1, h2⟩
theorem cntV_le (b : Nat) (s : ByteArray) (l : List Vt) : cntV b s l ≤ l.length := List.countP_le_length
theorem votesF_nil : votesF [] = fun _ => none := by funext x; simp [votesF, cntV]
theorem votesF_zero {l : List Vt} {v : Vt} (h : v.b = 0) : ∀ y, votesF (l ++ [v]) y = votesF l y := by
  rintro ⟨b, s⟩
  unfold votesF
  simp only []
  rw [cntV_snoc, h]
  by_cases hb : 0 < b
  · rw [if_neg (fun e : 0 = b ∧ v.s = s => by omega)]; rfl
  · rw [if_neg (fun e => hb e.1), if_neg (fun e => hb e.1)]
theorem votesF_put {l : List Vt} {v : Vt} (h : 0 < v.b) : ∀ y, (if y = (v.b, v.s) then some (.int .i64 ((cntV v.b v.s l + 1 : Nat) : Int)) else votesF l y) = votesF (l ++ [v]) y := by
  rintro ⟨b, s⟩
  unfold votesF
  simp only []
  rw [cntV_snoc]
  by_cases hy : (b, s) = (v.b, v.s)
  · cases hy
    rw [if_pos rfl]
    simp only [and_self, if_true]
    rw [if_pos ⟨h, by omega⟩]
  · rw [if_neg hy, if_neg (fun e : v.b = b ∧ v.s = s => hy (by rw [e.1, e.2]))]
    rfl
theorem votesF_get {l : List Vt} {v : Vt} (h : 0 < v.b) : (votesF l (v.b, v.s)).getD (.int .i64 0) = .int .i64 (cntV v.b v.s l : Int) := by
  unfold votesF
  simp only []
  by_cases hc : 0 < cntV v.b v.s l
  · rw [if_pos ⟨h, hc⟩]; rfl
  · rw [if_neg (fun e => hc e.2)]
    have : cntV v.b v.s l = 0 := by omega
    rw [this]; rfl
theorem cnt_two {b b' : Nat} {s s' : ByteArray} (h : ¬ (b = b' ∧ s = s')) (l : List Vt) : cntV b s l + cntV b' s' l ≤ l.length := by
  unfold cntV
  induction l with
  | nil => simp
  | cons v t ih =>
    rw [List.countP_cons, List.countP_cons, List.length_cons]
    by_cases h1 : v.b = b ∧ v.s = s
    · have h2 : ¬ (v.b = b' ∧ v.s = s') := fun e => h ⟨h1.1.symm.trans e.1, h1.2.symm.trans e.2⟩
      have e2 : (decide (v.b = b') && decide (v.s = s')) = false := by simpa using h2
      rw [e2]; simp; split <;> omega
    · have e1 : (decide (v.b = b) && decide (v.s = s)) = false := by simpa using h1
      rw [e1]; simp; split <;> omega
theorem majB_iff {l : List Vt} {v : Vt} : majB l v = true ↔ 0 < v.b ∧ l.length < 2 * cntV v.b v.s l := by unfold majB; simp
theorem maj_find {l : List Vt} {v : Vt} (hm : v ∈ l) (h : majB l v = true) : ∃ x, l.find? (majB l) = some x ∧ x.s = v.s ∧ x.b = v.b := by
  cases hf : l.find? (majB l) with
  | none => rw [List.find?_eq_none] at hf; exact absurd h (hf v hm)
  | some x =>
    have hx := List.find?_some hf
    rw [majB_iff] at hx h
    by_cases he : x.b = v.b ∧ x.s = v.s
    · exact ⟨x, rfl, he.2, he.1⟩
    · have := cnt_two he l; omega
theorem mdec_maj {l : List Vt} {v : Vt} (h1 : 1 ≤ l.length) (h2 : l.length ≤ 16) (hr : l.all rightB = true) (hm : v ∈ l) (h : majB l v = true) : mdec l = ((v.s, true), 0) := by
  obtain ⟨x, hx, hs, _⟩ := maj_find hm h
  unfold mdec; rw [if_pos ⟨h1, h2⟩, if_pos hr, hx]; simp only []; rw [hs]
theorem mdec_none {l : List Vt} (h1 : 1 ≤ l.length) (h2 : l.length ≤ 16) (hr : l.all rightB = true) (hn : ∀ v ∈ l, majB l v = false) : mdec l = ((⟨#[]⟩, false), 0) := by
  unfold mdec; rw [if_pos ⟨h1, h2⟩, if_pos hr, List.find?_eq_none.2 (fun v hv => by rw [hn v hv]; simp)]
theorem mdec_group {l : List Vt} (h : ¬ (1 ≤ l.length ∧ l.length ≤ 16)) : mdec l = ((⟨#[]⟩, false), 81) := by unfold mdec; rw [if_neg h]
theorem mdec_bad {l : List Vt} (h1 : 1 ≤ l.length) (h2 : l.length ≤ 16) (hr : l.all rightB = false) : mdec l = ((⟨#[]⟩, false), 2) := by
  unfold mdec; rw [if_pos ⟨h1, h2⟩, if_neg (by rw [hr]; simp)]
/-- No vote so far has more than half. -/
def noMaj (l pre : List Vt) : Prop := ∀ v, v ∈ pre → 0 < v.b → 2 * cntV v.b v.s pre ≤ l.length
theorem noMaj_zero {l pre : List Vt} {v : Vt} (h : noMaj l pre) (hv : v.b = 0) : noMaj l (pre ++ [v]) := by
  intro x hx hb
  rw [cntV_snoc, hv]
  rcases List.mem_append.1 hx with hx | hx
  · have := h x hx hb; split <;> omega
  · rw [List.mem_singleton.1 hx] at hb; omega
theorem noMaj_snoc {l pre : List Vt} {v : Vt} (h : noMaj l pre) (hv : 2 * (cntV v.b v.s pre + 1) ≤ l.length) : noMaj l (pre ++ [v]) := by
  intro x hx hb
  rw [cntV_snoc]
  by_cases he : v.b = x.b ∧ v.s = x.s
  · rw [if_pos he, ← he.1, ← he.2]; exact hv
  · rw [if_neg he]
    rcases List.mem_append.1 hx with hx | hx
    · have := h x hx hb; omega
    · rw [List.mem_singleton.1 hx] at he; exact absurd ⟨rfl, rfl⟩ he
theorem noMaj_end {l : List Vt} (h : noMaj l l) : ∀ v ∈ l, majB l v = false := by
  intro v hv
  rw [Bool.eq_false_iff]
  intro e
  rw [majB_iff] at e
  have := h v hv e.1
  omega
theorem maj_pre {l pre post : List Vt} {v : Vt} (hl : l = pre ++ v :: post) (hb : 0 < v.b) (h : l.length < 2 * (cntV v.b v.s pre + 1)) : v ∈ l ∧ majB l v = true := by
  refine ⟨by rw [hl]; simp, majB_iff.2 ⟨hb, ?_⟩⟩
  have : cntV v.b v.s l ≥ cntV v.b v.s pre + 1 := by
    rw [hl]; unfold cntV; rw [List.countP_append, List.countP_cons]; simp
  omega
theorem own_mp {β κ : Type} (B b : Nat) (hb : b < B) (P : Program) (k : TypeId) (n : β → Nat) (ek : κ → Value) (f : β → κ → Option Value) : OwnFrom B (fun s W => Mp W P k b (n s) ek (f s)) :=
  fun _ _ _ _ hs hg hr => hs.keep (hg.block b hs.lt (fun e => by have := (hr b e.symm).1; omega))
theorem own_mpE {β κ : Type} (B b : Nat) (hb : b < B) (P : Program) (k : TypeId) (ek : κ → Value) (f : β → κ → Option Value) (p : β → Nat → Prop) : OwnFrom B (fun s W => ∃ n, Mp W P k b n ek (f s) ∧ p s n) :=
  fun _ _ _ _ ⟨n, hs, hp⟩ hg hr => ⟨n, hs.keep (hg.block b hs.lt (fun e => by have := (hr b e.symm).1; omega)), hp⟩
theorem own_ex {β γ : Type} {B : Nat} {I : γ → β → World → Prop} (h : ∀ g, OwnFrom B (I g)) : OwnFrom B (fun s W => ∃ g, I g s W) := fun s W W' row ⟨g, hs⟩ hg hr => ⟨g, h g s W W' row hs hg hr⟩
theorem keeps_grown {B b : Nat} {W W' : World} (h : W.grownBy W' (some b)) (hb : b < B) : KeepsFrom B W W' := ⟨h.size, fun k _ hBk hk _ => (h.block k (Array.getElem?_eq_some_iff.1 hk).1 (fun e => by cases e; omega)).trans hk⟩
theorem leaves_mark3 {P : Program} {fn : Func} {tmps : Array Value} {R : Ending → World → Prop} {D : Nat} {W : World} {t u v : Tmp} (hf : fn.results = #[.tmp t, .tmp u, .tmp v])
    (hK : W.heap[D]? = some (.deferred (some []))) (h : R (.returned (.tuple #[tmps.getD t undef, tmps.getD u undef, tmps.getD v undef])) (W.putObj D (.deferred none))) :
    LeavesInM Fence.wide 0 P fn tmps R [{ target := .collected D, args := #[] }] .returning W := leaves_mark hK (results_tmp3 hf _ _ _) h
theorem leaves_plain3 {P : Program} {fn : Func} {tmps : Array Value} {R : Ending → World → Prop} {W : World} {t u v : Tmp} (hf : fn.results = #[.tmp t, .tmp u, .tmp v])
    (h : R (.returned (.tuple #[tmps.getD t undef, tmps.getD u undef, tmps.getD v undef])) W) : LeavesInM Fence.wide 0 P fn tmps R [] .returning W := leaves_plain (results_tmp3 hf _ _ _) h
end Ros
namespace Go.Proofs.Ytcfaeddjohpohaa
open Go.RowKit Go.Shelf Ros

theorem vote_law : WideMaps.KeyLaw Try.prog 24 := deep_law_gate (by kernel_rfl) (of_decide_eq_true (by kernel_rfl)) (of_decide_eq_true (by kernel_rfl)) (by kernel_rfl) (by kernel_rfl)
theorem vote_key (x : Nat × ByteArray) (hx : x.1 < 18446744073709551616) (hs : x.2.size ≤ maxLen) : ∃ kl, keyOf Try.prog 24 (ekV x) = some kl := by
  have hk : Try.prog.keyType 24 = true := by kernel_rfl
  have hc : Try.prog.cellsOf 24 = 3 := by kernel_rfl
  obtain ⟨m, hm⟩ : ∃ m, Try.prog.types.size = m + 1 := ⟨Try.prog.types.size - 1, by have : 0 < Try.prog.types.size := of_decide_eq_true (by kernel_rfl); omega⟩
  have c22 : Try.prog.cellsOf 22 = 1 := by kernel_rfl
  have c9 : Try.prog.cellsOf 9 = 1 := by kernel_rfl
  have w0 : (Lit.int .u64 0).wf = true := by decide
  have w1 : (Lit.int .u64 (x.1 : Int)).wf = true := by simp [Lit.wf, IntKind.min, IntKind.max, IntKind.signed, IntKind.bits]; omega
  have hf : (ekV x).formed Try.prog 24 = true := by
    unfold ekV Value.formed
    simp [Try.underlying24, hc]
  unfold keyOf
  rw [Try.underlying24]
  simp only [hk, hf, Bool.and_self, if_true]
  have : (Try.prog.keyLits (Try.prog.types.size + 1) 24 (ekV x).cells.toList).isSome = true := by
    rw [hm]
    unfold ekV
    simp [Program.keyLits, Try.underlying24, Try.underlying22, Try.underlying9, hc, c22, c9, w0, w1, hs, Value.cells]
  obtain ⟨ls, hls⟩ := Option.isSome_iff_exists.1 this
  exact ⟨_, by rw [hls]; rfl⟩
end Go.Proofs.Ytcfaeddjohpohaa
